/- A part of TopBudgetHonest. -/
import Derived.SizedLaws
import Derived.Test.YtboflajfckfphaaGreatDoorA
namespace Go
variable{H:Type} {b:TypeId×Value->H}
theorem Fl {a:Assume} {C:Checked} {D:Os} {f:FuncId} {m:Func} {s:ChangeSpec} {k:List PathCond} {d fresh h p:Bool} {X:World->Array Value->Prop}
  (Z:∀(w P:World) (c:Array Value),w.heap=P.heap->X w c->X P c)
  (own:ownKnob C.prog.godebug=none) (o:D.Started) (q:C.prog.inits.idxOf? f=none) (M:C.prog.funcs[f]?=some m)
  (n:∃(w:World) (g:Tape) (i:Input),w.os=D/\(w.forCall g i).Shaped C.prog/\i.vars=[]/\Input.okWide C.prog (w.forCall g i) .any w.heap.size f i/\
   ((s.pre b C.prog m k d (w.forCall g i).memory i.args/\X (w.forCall g i).memory i.args)/\sizedMet b C.prog m (OpenSpec.ofChange s) d (w.forCall g i).memory i.args)/\a.holds C.prog (lone (Frame.enter C.prog f i.args .normal) [] (w.forCall g i)))
  (l:∀(W:World) (B:Nat) (c:Array Value) (A z:List (DataW H)) (before:List MemPlace),
   (∀(j:Nat) t v,m.params[j]?=some t->c[j]?=some v->Value.okWide C.prog W .any B t v)->
   DataW.Whole b C.prog m.params.toList s.vars d W c.toList A z before->
   k.all (PathCond.test C.prog ⟨m.params.toList,A,s.plain.varTypes C.prog,z⟩)=true->
   (DataW.weightsEach C.prog (m.params.toList++s.plain.varTypes C.prog) (A++z)).all (·<=reachBytes)=true->X W c->W.ShapedOpen C.prog->
   a.holds C.prog (lone (Frame.enter C.prog f c .normal) [] W)->
   Calls C.prog f c W fun e R=>∃v,e= .returned v/\s.post b C.prog m d fresh h p W c v R):
  ReturnsInHanded a C D f .any (fun w c=>(s.pre b C.prog m k d w c/\X w c)/\sizedMet b C.prog m (OpenSpec.ofChange s) d w c) (s.post b C.prog m d fresh h p):=by
 refine returnsInHanded_of_calls own o q n ?_;intro w g i _ J _ L x r;have⟨_,_,_,O,y,_,_,_,_,u⟩:=L;have e:O=m:=Ah (y.symm.trans M);subst e;have⟨⟨⟨A,z,before,Q,Y⟩,U⟩,S⟩:=x;have G:=DataW.Whole.of_heap (w':=w.forCall g i) (by rfl) Q;refine(l (w.forCall g i) w.heap.size i.args A z before u G Y (S.weights Q) (Z _ _ _ (by rfl) U) J r).mono fun e R ⟨v,he,hp⟩=>?_
 subst he;exact ChangeSpec.post_blind hp
end Go
