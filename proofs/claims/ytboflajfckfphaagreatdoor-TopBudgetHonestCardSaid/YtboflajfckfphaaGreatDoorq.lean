/- TopBudgetHonest: for every input the law returns true and each argument reads afterwards as it read before; the listed package-level variables lie as the row lists them (the card). -/
import Derived.Test.YtboflajfckfphaaGreatDoorCards
import Derived.Test.YtboflajfckfphaaGreatDoork
import Derived.Test.YtboflajfckfphaaGreatDoorm
import Derived.Test.YtboflajfckfphaaGreatDoorn
import Derived.Test.YtboflajfckfphaaGreatDooro
import Derived.Test.YtboflajfckfphaaGreatDoorp
namespace Go.Proofs.YtboflajfckfphaaGreatDoor
open Go Go.Proofs.Tryz
set_option maxRecDepth 100000
theorem bD:prog.laidByTextLater U0 br true:=Program.laidByTextLater_by_one 448 8 257 jr gJ Zr jt ju jS ae
theorem bE:Rows.topBudgetHonestRow.laidByTextAt .later Tryz.pinned Rows.topBudgetHonestCard.laidKinds true:=
 OpenClaim.laidByTextAt_pinned rfl rfl bD rfl rfl rfl rfl XU XV
theorem proved:Rows.TopBudgetHonestCardSaid:=
 Claim7.holds_tied_plain_at .later [] Rows.topBudgetHonestCard.laidKinds true Rows.topBudgetHonestCard.stood.harness true
  row_holds (fun _ h=>by cases h) oK (fun _ h=>by cases h) bE rfl ⟨rfl,rfl⟩ oK rfl
  (fun f g e b=>by
   obtain rfl:f=3:=Ah ((show prog.funcNamed Rows.topBudgetHonestRow.func=some 3 by kernel_rfl).symm.trans e)|>.symm
   obtain rfl:g=f3:=(Ah (func3.symm.trans b)).symm;exact⟨oK,fun j t c=>by
    rw[params3] at c;have d:t∈[24,25,3]:=by
     have:=Array.mem_of_getElem? c;simp at this⊢;omega
    have a:([24,25,3].all fun u=>!prog.wantsStandIn u)=true:=oK;exact(show prog.wantsStandIn t=false by simpa using Bi.1 a t d)⟩)
  (ZE Xo _).symm
