/- A part of TopBudgetHonest. -/
import Derived.Test.YtboflajfckfphaaGreatDoorl
namespace Go.Proofs.YtboflajfckfphaaGreatDoor
open Go Go.Proofs.Tryz
set_option maxRecDepth 100000
theorem af:((Rows.topBudgetHonestRow.laid.drop 16).all fun x=>Tryz.pinned.checked.prog.pinnedFits x.1)=true:=oK
theorem Wq (x:String×DataW Unit) (h:x∈Rows.topBudgetHonestRow.laid.drop 16):Pinned.datum x.1=some x.2:=by
 simp only[Rows.topBudgetHonestRow,List.drop_succ_cons,List.drop_zero,GQ] at h;subst h
 kernel_rfl
theorem TK {a b:List (String×DataW Unit)}:∀(k:List LaidKind),k.length=a.length->(∀z∈k,z≠ .pinned)->∀y∈(a++b).zip (k++b.map fun _=>LaidKind.pinned),y.2= .pinned->y.1∈b:=by
 intro k e d y c f;rw[List.zip_append e.symm] at c;rcases B0.1 c with h|h
 .have g:=(List.of_mem_zip (a:=y.1) (b:=y.2) h).2;exact absurd f (d _ g)
 .exact(List.of_mem_zip (a:=y.1) (b:=y.2) h).1
theorem XU:∀y∈Rows.topBudgetHonestRow.laid.zip [.data,.data,.data,.data,.data,.sentinel,.sentinel,.listed,.data,.mapped,.mapped,.mapped,.widerDeep,.data,.funcs,.funcs,.pinned],y.2=LaidKind.pinned->
  Tryz.pinned.checked.prog.pinnedFits y.1.1=true/\Pinned.datum y.1.1=some y.1.2:=fun y d f=>by
 have h:=TK (a:=U0) (b:=Rows.topBudgetHonestRow.laid.drop 16) br rfl (fun z c e=>by subst e;simp[br] at c) y d f;exact⟨Bi.1 af _ h,Wq _ h⟩
theorem Qr:Tryz.pinned.checked.prog.headLifts.contains "ownunsafe"=false:=oK
theorem XV:Tryz.pinned.checked.prog.listedFits Rows.topBudgetHonestRow.laid=true:=by
 unfold Program.listedFits;rw[Qr]
 kernel_rfl
