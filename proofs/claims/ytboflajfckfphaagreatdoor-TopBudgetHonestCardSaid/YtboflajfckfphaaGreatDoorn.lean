/- A part of TopBudgetHonest. -/
import Derived.Test.YtboflajfckfphaaGreatDoorl
namespace Go.Proofs.YtboflajfckfphaaGreatDoor
open Go Go.Proofs.Tryz
set_option maxRecDepth 100000
noncomputable def kU:=U0.filter fun x=>x.2.funcsIn?.isNone
noncomputable def n3 (P:Program) (n f:Nat) (L:List String) (b:Os) (a:Tape):=match runN P n (Machine.entering P (World.unlaid P b) a (varsId P) ⟨#[],#[],[]⟩) with
 |.ended (.done _) w=>funcsRun P w.memory f L
 |_=>none
theorem n0 (b:Os) (a:Tape):doorLeaves prog 448 8 257 kU b a=some (U0.filter fun x=>x.2.handleName?.isNone,[]):=oK
theorem n1 (b:Os) (a:Tape):n3 prog 448 8 ((funcsListed U0).map (·.1)) b a=some ((funcsListed U0).map (·.2.funcsOut)):=oK
theorem n2 {P:Program} {n f M:Nat} {K L:List (String×DataW Unit)} {b a x y} (p:K.filter (·.2.handleName?.isNone)=L.filter (·.2.handleName?.isNone)) (q:(K.filter fun x=>x.2.handleName?.isSome&&x.2.funcsIn?.isNone)=L.filter fun x=>x.2.handleName?.isSome&&x.2.funcsIn?.isNone) (h:doorLeaves P n f M K b a=some (x,[])) (k:n3 P n f ((funcsListed L).map (·.1)) b a=some y):doorLeaves P n f M L b a=some (x,y):=by
 unfold doorLeaves at h⊢;unfold n3 at k;rw[p,q] at h;split at h
 .rename_i e;rw[e] at k;simp only[Option.bind_eq_some_iff] at h⊢;obtain⟨z,i,h⟩:=h;split at h
  .obtain⟨_,_,h⟩:=Option.map_eq_some_iff.1 h;cases h;exact⟨z,i,by simp_all⟩
  .cases h
 .cases h
theorem ae (b:Os) (a:Tape):doorLeaves prog 448 8 257 U0 b a=some (U0.filter fun x=>x.2.handleName?.isNone,(funcsListed U0).map (·.2.funcsOut)):=n2 oK oK (n0 b a) (n1 b a)
