/- A part of TopBudgetHonest. -/
import Derived.Ground.Names2Prog
import Derived.Shelf.Strings.Search3
import Derived.Test.YtboflajfckfphaaGreatDoorA
set_option linter.all false
namespace Go.Proofs
open Go.Shelf Go.Proofs.Tryz
def Tryz.lays143_ren:Go.Shelf.Ren:=⟨fun|143=>247|219=>325|217=>387|225=>388|224=>389|267=>390|266=>421|314=>422|n=>n,fun|9=>9|3=>3|4=>4|5=>5|46=>340|146=>534|51=>417|n=>n,fun|1=>11|n=>n⟩
theorem Tryz.lays143:Go.Proofs.Lays.n143 prog Tryz.lays143_ren:=⟨oK,oC func247,oC func387,oC func325,oC func389,oC func388,oC func421,oC func390,oC func422,underlying3,isAgg3,sizeOf3,zeroValue3,underlying4,isAgg4,sizeOf4,zeroValue4,underlying5,isAgg5,sizeOf5,zeroValue5,underlying9,isAgg9,sizeOf9,zeroValue9,underlying340,isAgg340,sizeOf340,zeroValue340,underlying417,isAgg417,sizeOf417,zeroValue417,underlying534,isAgg534,sizeOf534,zeroValue534,oK⟩
open Go.RowKit Go.Lib in
theorem KP (s sub:ByteArray) (m:Int) (w:World) (b:s.size<4294967281) (c:w.cell? ⟨11,0,none⟩=some (.int .i64 m)):
 Calls prog 247 #[.string s,.string sub] w fun e a=>e= .returned (.int .i64 (Lib.index s.data.toList sub.data.toList))/\a=w:=Any.strings_Index Tryz.lays143 s sub m w b c
end Go.Proofs
