/- A part of TopBudgetHonest. -/
import Derived.Shelf.SlIterI.Nil
import Derived.Shelf.SortM.Plain
import Derived.Shelf.SortM.SortNone
import Derived.Test.YtboflajfckfphaaGreatDoorA
set_option linter.all false
namespace Go.Proofs
open Go.RowKit Go.Maps Go.Sort Go.Shelf Go.Proofs.Tryz
def Tryz.keysA_ren:Go.Shelf.Ren:=⟨fun|7=>350|10=>401|n=>n,fun|23=>451|26=>3|3=>176|28=>337|0=>0|27=>336|33=>147|4=>4|n=>n,fun|n=>n⟩
theorem Tryz.keysA:Go.Proofs.SlLaysZI.n7 prog Tryz.keysA_ren:=⟨oK,⟨f350.name,oD,oC func350⟩,⟨f401.name,oD,oC func401⟩,underlying0,isAgg0,sizeOf0,zeroValue0,underlying4,isAgg4,sizeOf4,zeroValue4,underlying451,isAgg451,sizeOf451,zeroValue451,underlying3,isAgg3,sizeOf3,zeroValue3,underlying336,isAgg336,sizeOf336,zeroValue336,underlying337,isAgg337,sizeOf337,zeroValue337,underlying147,isAgg147,sizeOf147,zeroValue147⟩
def Tryz.sortedA_ren:Go.Shelf.Ren:=⟨fun|6=>349|8=>399|9=>400|11=>423|13=>213|12=>424|23=>305|24=>306|14=>441|15=>442|16=>443|17=>444|18=>445|19=>446|20=>447|21=>448|22=>449|25=>460|26=>365|27=>366|28=>461|29=>462|30=>214|31=>465|n=>n,fun|26=>3|28=>337|24=>25|0=>0|3=>3|37=>340|48=>417|50=>419|4=>4|40=>411|39=>410|45=>260|5=>5|9=>9|51=>465|55=>469|57=>510|58=>511|33=>147|n=>n,fun|n=>n⟩
theorem Tryz.sortedA:Go.Proofs.SlLaysZI.n6 prog Tryz.sortedA_ren:=⟨oK,⟨f349.name,oD,oC func349⟩,⟨f399.name,oD,oC func399⟩,⟨f423.name,oD,oC func423⟩,underlying0,isAgg0,sizeOf0,zeroValue0,underlying25,isAgg25,sizeOf25,zeroValue25,underlying3,isAgg3,sizeOf3,zeroValue3,underlying337,isAgg337,sizeOf337,zeroValue337,oK⟩
def Tryz.sortA_ren:Go.Shelf.Ren:=⟨fun|5=>400|8=>213|7=>424|19=>305|20=>306|10=>441|11=>442|12=>443|13=>444|14=>445|15=>446|16=>447|17=>448|18=>449|30=>460|31=>365|32=>366|33=>461|34=>462|35=>214|40=>465|n=>n,fun|23=>25|25=>3|3=>3|32=>340|22=>25|0=>0|44=>417|46=>419|4=>4|36=>411|35=>410|41=>260|5=>5|9=>9|53=>465|57=>469|63=>510|64=>511|n=>n,fun|n=>n⟩
theorem Tryz.sortA:Go.Proofs.SlLaysM.n5 prog Tryz.sortA_ren:=⟨oK,⟨f400.name,oD,oC func400⟩,⟨f424.name,oD,oC func424⟩,oC func213,⟨f441.name,oD,oC func441⟩,⟨f442.name,oD,oC func442⟩,⟨f443.name,oD,oC func443⟩,⟨f444.name,oD,oC func444⟩,⟨f445.name,oD,oC func445⟩,⟨f446.name,oD,oC func446⟩,⟨f447.name,oD,oC func447⟩,⟨f448.name,oD,oC func448⟩,⟨f449.name,oD,oC func449⟩,oC func305,oC func306,⟨f460.name,oD,oC func460⟩,oC func365,oC func366,⟨f461.name,oD,oC func461⟩,⟨f462.name,oD,oC func462⟩,⟨f214.name,oD,oC func214⟩,⟨f465.name,oD,oC func465⟩,underlying0,isAgg0,sizeOf0,zeroValue0,underlying3,isAgg3,sizeOf3,zeroValue3,underlying4,isAgg4,sizeOf4,zeroValue4,underlying5,isAgg5,sizeOf5,zeroValue5,underlying9,isAgg9,sizeOf9,zeroValue9,underlying25,isAgg25,sizeOf25,zeroValue25,underlying25,isAgg25,sizeOf25,zeroValue25,underlying3,isAgg3,sizeOf3,zeroValue3,underlying340,isAgg340,sizeOf340,zeroValue340,underlying410,isAgg410,sizeOf410,zeroValue410,underlying411,isAgg411,sizeOf411,zeroValue411,underlying260,isAgg260,sizeOf260,zeroValue260,underlying417,isAgg417,sizeOf417,zeroValue417,underlying419,isAgg419,sizeOf419,zeroValue419,underlying465,isAgg465,sizeOf465,zeroValue465,underlying469,isAgg469,sizeOf469,zeroValue469,underlying510,isAgg510,sizeOf510,zeroValue510,underlying511,isAgg511,sizeOf511,zeroValue511⟩
theorem TA (m:Nat):AnyZI.SortsIn prog Tryz.sortedA_ren Fence.wide m:=
 ⟨fun d b cap ss W e a c=>callsIn_wide.2 (AnyM.slices_Sort_int Tryz.sortA d b cap ss W e a c),
 fun p cap W=>callsIn_wide.2 (AnyM.slices_Sort_int_none Tryz.sortA p cap W)⟩
theorem TB {H:Type} (d b k:Nat) (c:DataW H) (R:Value->Option (DataW H×List MemPlace)) (w:World) (i:d<w.heap.size) (m:w.cell? ⟨d,0,none⟩=some (.map (some b))) (g:w.ownsMap prog 3 R b k c) (h:Maps.size c<=maxLen) (a:Maps.size c*8<=140737488355328):
 CallsIn Fence.wide 0 prog 349 #[.func (.func 401) #[] #[.pointer (some ⟨d,0,none⟩)]] w fun e j=>∃(v:Value) (ss:List Int),e= .returned v/\ss.Perm (intKeys c)/\
  j.ownsRow w.heap.size 3 1 v ss.length ((ss.mergeSort (fun x y=>decide (x<=y))).map encZ)/\(v= .slice none 0 0↔ss=[])/\Below w.heap.size w j:=by
 have f:SeqGives Fence.wide 2 prog 401 #[.pointer (some ⟨d,0,none⟩)] encZ (fun ss=>ss.Perm (intKeys c)) (Maps.size c) w:=
 AnyZI.keys_gives (ρ:=Tryz.keysA_ren) {Tryz.keysA with} Fence.wide _ trivial rfl oO d b k c _ i m g
 have l:=AnyZI.sorted_in Tryz.sortedA Fence.wide 5 trivial trivial trivial trivial rfl oO (TA _) (enters_of func400 oK rfl) 401 #[.pointer (some ⟨d,0,none⟩)] trivial (enters_of func401 oK rfl) _ _ h a _ f;change CallsIn _ _ prog 349 _ _ _ at l;exact callsIn_wide.2 (callsIn_wide.1 l)
end Go.Proofs
