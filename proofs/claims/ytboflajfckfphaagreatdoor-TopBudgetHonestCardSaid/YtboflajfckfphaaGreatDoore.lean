/- A part of TopBudgetHonest. -/
import Derived.Test.YtboflajfckfphaaGreatDoorA
import Derived.Test.YtboflajfckfphaaGreatDoorr
namespace Go.Proofs.YtboflajfckfphaaGreatDoor
open Go Go.Proofs.Tryz
theorem nB (b:Os) (a:Array Value):((Ic b).forCall (fun _ _=>0) ⟨#[],a,[]⟩).variablesZipB prog=true:=oK
theorem kE (b:Os) (a:Array Value):((((Ic b).forCall (fun _ _=>0) ⟨#[],a,[]⟩).heap.toList.drop prog.globals.size).take ((begin prog (fun _ _=>0) default).world.heap.size-prog.globals.size))=
   (begin prog (fun _ _=>0) default).world.heap.toList.drop prog.globals.size:=oK
theorem cI (b:Os) (a:Array Value):((Ic b).forCall (fun _ _=>0) ⟨#[],a,[]⟩).Shaped prog:=World.shaped_of_ZipB (nB b a) (kE b a)
