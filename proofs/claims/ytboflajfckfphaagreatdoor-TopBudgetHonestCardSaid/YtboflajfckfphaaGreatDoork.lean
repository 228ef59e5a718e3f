/- A part of TopBudgetHonest. -/
import Derived.Stop.Joined
import Derived.Test.YtboflajfckfphaaGreatDoorY
import Derived.Test.YtboflajfckfphaaGreatDoord
import Derived.Test.YtboflajfckfphaaGreatDoore
import Derived.Test.YtboflajfckfphaaGreatDoorf
import Derived.Test.YtboflajfckfphaaGreatDoorg
import Derived.Test.YtboflajfckfphaaGreatDoorh
import Derived.Test.YtboflajfckfphaaGreatDoori
import Derived.Test.YtboflajfckfphaaGreatDoorj
namespace Go.Proofs.YtboflajfckfphaaGreatDoor
open Go Go.Proofs.Tryz
set_option maxRecDepth 100000
theorem fJ:prog.recurses 3=true:=by unfold Program.recurses;rw[Zq];rfl
set_option maxHeartbeats 4000000 in
theorem Ud:joinedFacts prog 3 f3 Rows.topBudgetHonestSpec Rows.topBudgetHonestRow=true:=by
 unfold joinedFacts;rw[<-TO,<-X8,Zq,fJ]
 repeat' (with_reducible refine Bool.and_eq_true_iff.2 ⟨?_,?_⟩)
 all_goals(as_aux_lemma=>kernel_rfl)


open Go.ChangeShapes Go.WideShapes Go.ChangeAt Go.RowKit Bud Go Go.Proofs.Tryz
theorem own:ownKnob prog.godebug=none:=oK
theorem laidOut:laidOutB prog=true:=oK
set_option maxRecDepth 100000 in
theorem lifted (g:Os) (d:g.Started) (H:Type) (b:TypeId×Value->H):
  ReturnsInHanded {} checked g 3 .any (fun w a=>(Rows.topBudgetHonestSpec.pre b prog f3 Rows.topBudgetHonestRow.domain false w a/\laidMetH prog Rows.topBudgetHonestRow.laid w)/\sizedMet b prog f3 (OpenSpec.ofChange Rows.topBudgetHonestSpec) false w a)
   (Rows.topBudgetHonestSpec.post b prog f3 false true false false):=by
 refine Fl (C:=checked) (X:=fun w _=>laidMetH prog Rows.topBudgetHonestRow.laid w) (fun _ _ _ hh h=>h.of_heap hh) own d oK func3
  (ChangeSpec.witness_shaped (enc:=b) (C:=checked) (os:=g) (X:=fun w _=>laidMetH prog Rows.topBudgetHonestRow.laid w) false (Ic g) #[.agg #[.int .i64 0,.slice none 0 0],.slice none 0 0,.int .i64 0] 8 (WQ g) (cI g _) (nf g) (lR b g) (dY b g) (nL g _)) ?_
 intro W l a ds gs before f O M _ P i _;have c:∀(j:Nat) t v,f3.params[j]?=some t->a[j]?=some v->Value.okWide prog W .any l t v:=f;have z:=O;obtain⟨p,q,k,hV,rfl,a6,a5⟩:=O;have Q:DataW.TrodAll b prog W 0 (fun _=>true) true f3.params.toList a.toList ds p:=k;rw[params3] at Q c;obtain⟨D,a4,d0,a9,p0,q0,y,rfl,rfl,U,r0⟩:=trodAll_cons Q;obtain⟨B,a3,d1,a8,p1,q1,rfl,rfl,rfl,S,r1⟩:=trodAll_cons r0;obtain⟨A,a0,d2,a7,p2,q2,rfl,rfl,rfl,h2,r2⟩:=trodAll_cons r1;obtain⟨rfl,rfl,rfl⟩:=trodAll_nil r2;obtain rfl:a=#[D,B,A]:=by cases a;simp_all
 obtain⟨rfl,rfl⟩:=trodVars_none hV;have o0:=c 0 24 D rfl rfl;have G:=c 1 25 B rfl rfl;obtain⟨a1,len1,Y,rfl⟩:=okWide_slice underlying25 G;have L:=U;have lU:∀x∈p0,x.block<W.heap.size:=by obtain⟨m,u⟩:=L;exact DataW.trod_lt m _ _ _ u
 have J:=S;have o:∀x∈p1,x.block<W.heap.size:=by obtain⟨m,u⟩:=J;exact DataW.trod_lt m _ _ _ u
 obtain⟨n,V,R,rfl,hR⟩:=ZJ o0 U;obtain⟨Z,rfl,s,r⟩:=Xq G S;obtain⟨a2,rfl,rfl,rfl,w2⟩:=open_int underlying3 (c 2 3 A rfl rfl) h2;clear k f;refine(bX (n:=n) (R:=R) (asm:=Z) (bu:=a2) hR s r (Go.Refl.Wi i P) fun w' hb=>Go.Refl.R0 i P hb).mono fun e W' ⟨he,bel⟩=>?_
 subst he;exact⟨_,rfl,_,_,_,[],_,[],z,trodAll_mk1 (shut_bool underlying4 _),(trodAll_cons_mk (Below.trod laidOut oK (of_decide_eq_true oK) L bel lU) (trodAll_cons_mk (Below.trod laidOut oK (of_decide_eq_true oK) J bel o) (trodAll_cons_mk (shut_int underlying3 w2) trodAll_mk0))),rfl,bel.frame _,fun h=>by cases h⟩
theorem row_holds:Rows.TopBudgetHonestSaid:=
 OpenClaim.holds_of_wide 3 f3 rfl rfl rfl rfl rfl rfl rfl ⟨rfl,rfl,rfl,rfl,rfl⟩ rfl rfl rfl rfl rfl oK func3 Ud
  (of_decide_eq_true oK) (by unfold Func.isWrapper;first|(rw[if_pos (by decide+kernel)];kernel_rfl)|(rw[if_neg (by decide+kernel)];exact⟨rfl,rfl⟩))
  (fun d a H c _=>lifted d a H c)
