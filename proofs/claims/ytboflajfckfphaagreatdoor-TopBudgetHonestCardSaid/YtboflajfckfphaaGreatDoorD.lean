/- A part of the proof of TopBudgetHonest. -/
import Derived.Laws.EntriesVeiled
import Derived.Test.YtboflajfckfphaaGreatDoorC
set_option linter.all false
namespace Go.Proofs.YtboflajfckfphaaGreatDoor
open Go.RowKit Go.Maps Bud Go Go.Proofs.Tryz
set_option maxRecDepth 100000
def asIs (v:Value):Option (DataW Value×List MemPlace):=some (.held v,[])
def E5 (w:World) (b n:Nat) (f:Int->Option Value):Prop:=
 ∃D:DataW Value,w.ownsMap prog 3 asIs b n D/\IsMap D/\∀(k:Int) (z:Value),(Lit.int .i64 k).wf=true->D.atKey (.int .i64 k) (.held z)= .held ((f k).getD z)
def upd (f:Int->Option Value) (k:Int) (v:Value):Int->Option Value:=fun j=>if j=k then some v else f j
theorem bp:Keyed prog 3:=int_keyed underlying3
theorem E5.made (w:World):E5 (w.alloc (.map #[] 0)) w.heap.size 0 (fun _=>none):=
 ⟨.map [],World.ownsMap_made w _ _ _,isMap_empty,fun _ _ _=>rfl⟩
variable{w:World} {b n:Nat} {f:Int->Option Value}
theorem E5.obj (h:E5 w b n f):∃o,w.heap[b]?=some o/\o.isCells=false:=by
 have⟨D,⟨d,a,c,_⟩,_⟩:=h;exact⟨_,c,rfl⟩
theorem E5.keep {w':World} (h:E5 w b n f) (c:w'.heap[b]?=w.heap[b]?):E5 w' b n f:=by
 have⟨D,⟨i,a,d,g⟩,e⟩:=h;exact⟨D,⟨i,a,c.trans d,g⟩,e⟩
variable{k:Int}
theorem Nn (h:(Lit.int .i64 k).wf=true):keyOf prog 3 (.int .i64 k)=some (.int .i64 k):=keyOf_int_mk underlying3 h
theorem E5.update {w:World} {b n:Nat} {f:Int->Option Value} (h:E5 w b n f) {t e:TypeId} (l:prog.underlying t=some (.map 3 e)) (o:n<maxLen) {k:Int} (p:(Lit.int .i64 k).wf=true) (v:Value):
  ∃c,(Instr.mapUpdate t (.map (some b)) (.int .i64 k) v).run prog w= .ok () c/\E5 c b (n+1) (upd f k v)/\w.grownBy c (some b):=by
 have⟨D,u,i,s⟩:=h;have⟨c,g,m,r⟩:=u.update bp l o (d:= .held v) (ps:=[]) (Nn p) rfl;refine⟨c,g,⟨_,m,i.put _ _,fun j z q=>?_⟩,r⟩;unfold upd;by_cases a:j=k
 .subst a;rw[if_pos rfl,atKey_put_same i (by simp[WideAt.IsKeyLit])];rfl
 .rw[if_neg a,atKey_put_other (by simpa using a)];exact s j z q
theorem E5.look (h:E5 w b n f) {t e:TypeId} (r:prog.underlying t=some (.map 3 e)) {z:Value} (q:(zeroValue e).run prog w= .ok z w)
  {k:Int} (j:(Lit.int .i64 k).wf=true):(Instr.lookup t (.map (some b)) (.int .i64 k) true).run prog w= .ok (match f k with|some v=> .tuple #[v,bT]|none=> .tuple #[z,bF]) w:=by
 obtain⟨D,⟨u,p,s,F,_,rfl⟩,_,o⟩:=h;rcases fit_look true bp r q s F (Nn j) with⟨c,_,i⟩|⟨x,y,_,_,c,l,i,_⟩
 .have a:=o k bT j;have g:=o k bF j;rw[i] at a g
  cases m:f k with
  |none=>rw[c];rfl
  |some v=>
   rw[m] at a g;injection a with a;injection g with g;have d:=a.trans g.symm;injection d with d;cases d
 .have a:=o k bT j;have g:=o k bF j;rw[i] at a g;simp only[asIs,A0] at l
  cases m:f k with
  |none=>
   rw[m] at a g;have d:=a.symm.trans g;injection d with d;injection d with d;cases d
  |some v=>
   rw[m,<-l] at a;injection a with a;rw[c,a];rfl
theorem wf64 (h:B7 k<=maxLen):(Lit.int .i64 k).wf=true:=by
 unfold B7 maxLen at h;simp[Lit.wf,IntKind.min,IntKind.max,IntKind.signed,IntKind.bits];omega
theorem E5.small {M:Nat} (h:E5 w b n f) (hf:∀k,f k≠none->B7 k<M):E5 w b (2*M) f:=by
 obtain⟨D,⟨o,p,P,F,J,rfl⟩,h2,H⟩:=h;refine⟨_,⟨o,p,P,F,?_,rfl⟩,h2,H⟩;have U:(zeroValue 4).run prog w= .ok bF w:=oK;have A:∃t,prog.underlying t=some (.map 3 4):=⟨134,oK⟩;have⟨t,A⟩:=A;have e:∀x∈o.toList,∃a:Int,x.key= .int .i64 a/\B7 a<M:=fun x i=>by
  have⟨l,Z⟩:=F.keys x i;have d:=Z;rw[keyOf_int underlying3] at d;unfold mapKey at d;rw[underlying3] at d;cases L:x.key<;>rw[L] at d<;>simp at d
  rename_i q a;have⟨⟨B,j⟩,_⟩:=d;subst B;refine⟨a,rfl,hf a fun J=>?_⟩;rcases fit_look true bp A U P F (Nn j) with⟨_,h4,_⟩|⟨e0,y,_,_,_,_,G,_⟩
  .exact h4 x i L
  .have S:=H a bT j;have R:=H a bF j;rw[G,J] at S R;have r:=S.symm.trans R;injection r with r;injection r with r;cases r
 let g:MapEntry->Nat:=fun x=>match x.key with
  | .int _ a=>EC a
  |_=>0
 have C:(o.toList.map g).Nodup:=by
  have Q:=F.stamped.2.2;rw[List.nodup_iff_pairwise_ne,List.pairwise_map] at Q⊢;have h6:o.toList.Pairwise (fun x y=>x∈o.toList/\y∈o.toList/\x.key≠y.key):=by
   refine List.Pairwise.imp_of_mem ?_ Q;intro x y i z m;exact⟨i,z,m⟩
  refine h6.imp ?_;rintro x y ⟨i,z,m⟩ s;have⟨a,u,_⟩:=e x i;have⟨c,O,_⟩:=e y z;simp only[g,u,O] at s;refine m ?_;rw[u,O];unfold EC at s;congr 1;split at s<;>split at s<;>omega
 have:=JF (2*M) (o.toList.map g) C (fun v Y=>by
  obtain⟨x,i,rfl⟩:=BB.1 Y;have⟨a,u,hM⟩:=e x i;simp only[g,u];unfold EC B7 at*;split<;>omega)
 simpa using this
end Go.Proofs.YtboflajfckfphaaGreatDoor
namespace Go.Proofs.YtboflajfckfphaaGreatDoor
open Go.RowKit Go Bud Go.Proofs.Tryz
set_option maxRecDepth 1000000
section
def gZ (L:Sts) (d:Op):Option (Nat×Value×Value×Value):=
 match d with
 | .mapUpdate t m k v| .insert t m k v=>match ev L m,ev L k,ev L v with
  |some a,some b,some c=>some (t,a,b,c)
  |_,_,_=>none
 |_=>none
variable{P:Program} {N:Nat} {a:Act} {o:Oper} {j:World}
theorem map_ok {D:List Deferred} {L:Sts} (h:Has N D L a) {t:Nat} {m k v:Value} {w:World} (d:gZ L o.op=some (t,m,k,v)) (n:(Instr.mapUpdate t m k v).run P w= .ok () j):
  (execOp a.eval o).run P w= .ok .skip j:=by
 have⟨B,C,g,l,e,guard⟩:=o;unfold gZ at d;simp only at d;split at d
 case h_3=>cases d
 all_goals
  split at d
  case h_2=>cases d
  rename_i s q p;injection d with d;injection d with A d;injection d with y d;injection d with x u;subst A y x u;simp only[execOp,h.val s,h.val q,h.val p,Ay,n,Am,AJ]
def ZL (L:Sts) (d:Op):Option (Nat×Value×Value×Bool):=
 match d with
 | .lookup t m k e=>match ev L m,ev L k with
  |some a,some b=>some (t,a,b,e)
  |_,_=>none
 |_=>none
theorem look_ok {D:List Deferred} {L:Sts} (h:Has N D L a) {t:Nat} {m k v:Value} {l:Bool} {w:World} (d:ZL L o.op=some (t,m,k,l)) (p:(Instr.lookup t m k l).run P w= .ok v j):
  (execOp a.eval o).run P w= .ok (.value v) j:=by
 have⟨B,C,g,n,e,guard⟩:=o;unfold ZL at d;simp only at d;split at d
 case h_2=>cases d
 split at d
 case h_2=>cases d
 rename_i s q;injection d with d;injection d with A d;injection d with y d;injection d with x u;subst A y x u;simp only[execOp,h.val s,h.val q,Ay,p,Am,AJ]
def UC (L:Sts) (e:Op):Option Deferred:=
 match e with
 | .defer ⟨.value x,args,_⟩=>match ev L x with
  |some (.func g first d)=>bif first.isEmpty&&args.isEmpty then some {target:= .fn g d,args:=#[]} else none
  |_=>none
 |_=>none
theorem ZM {D:List Deferred} {L:Sts} (h:Has N D L a) {d:Deferred} (e:UC L o.op=some d) (w:World):(execOp a.eval o).run P w= .ok (.defer d) w:=by
 have⟨v,y,n,q,m,guard⟩:=o;unfold UC at e;simp only at e;split at e
 case h_2=>cases e
 rename_i x g p;split at e
 case h_2=>cases e
 rename_i A first k s
 cases l:(first.isEmpty&&g.isEmpty) with
 |false=>rw[l] at e;cases e
 |true=>
 simp only[AE] at l;have u:first=#[]:=by simpa using l.1
 have t:g=#[]:=by simpa using l.2
 subst u t;injection e with e;subst e;simp[execOp,resolve,h.val s,Deferred.ofValue]
def ZN (d:Op):Bool:=match d with
 | .makeMap _ none=>true
 |_=>false
section
variable{z:Option Nat} {D:List Deferred} {f:Func} {r:Nat} {Q:EO} {S:Option (World->Prop)} {b:List Nat} {c:List Stp} {L L':Sts} {w:World}
variable{i:Nat}
theorem I9 (t:Nat) (m k v:Value) (e:DD (Bt f r) L (B5 (Bt f r) i)=some true) (n:(B5 (Bt f r) i).dst=none) (l:gZ L (B5 (Bt f r) i).op=some (t,m,k,v))
  (g:(Instr.mapUpdate t m k v).run prog w= .ok () j) (p:b.contains i=true∨(CR S w w->CR S w j)) (h:Es z D f r Q S b c L j):Es z D f r Q S b (.one i::c) L w:=by
 refine EB e fun a d=>L8 (map_ok d l g) ⟨p,by rw[n];exact h a d⟩
theorem LF (d t:Nat) (m k v:Value) (g:Bool) (n:DD (Bt f r) L (B5 (Bt f r) i)=some true) (s:(B5 (Bt f r) i).dst=some d) (e:Nat.blt d f.ntmps=true) (q:ZL L (B5 (Bt f r) i).op=some (t,m,k,g))
  (p:(Instr.lookup t m k g).run prog w= .ok v j) (u:b.contains i=true∨(CR S w w->CR S w j)) (h:Es z D f r Q S b c ((d,v)::L) j):Es z D f r Q S b (.one i::c) L w:=by
 refine EB n fun a l=>D8 (look_ok l q p) ⟨u,by rw[s];exact h _ (l.put (Bn e) _)⟩
theorem aD (d:Deferred) (g:DD (Bt f r) L (B5 (Bt f r) i)=some true) (l:(B5 (Bt f r) i).dst=none) (k:UC L (B5 (Bt f r) i).op=some d)
  (m:b.contains i=true∨(CR S w w->CR S w w)) (h:Es none (d::D) f r Q S b c L w):Es none D f r Q S b (.one i::c) L w:=by
 refine EB g fun a e=>⟨fun _ _=>trivial,?_⟩
 rw[show(FR none).round=none from rfl,Oper.semAt_none,ZM e k];refine⟨m,?_⟩;rw[l];exact h _ ⟨e.1,by show d::a.defers=_;rw[e.2.1],e.2.2⟩
theorem OK (d:Nat) (p:DD (Bt f r) L (B5 (Bt f r) i)=some true) (s:(B5 (Bt f r) i).dst=some d) (k:Nat.blt d f.ntmps=true) (e:ZN (B5 (Bt f r) i).op=true)
  (t:b.contains i=true∨(CR S w w->CR S w (w.alloc (.map #[] 0)))) (h:Es z D f r Q S b c ((d,.map (some w.heap.size))::L) (w.alloc (.map #[] 0))):Es z D f r Q S b (.one i::c) L w:=by
 refine EB p fun a q=>D8 ?_ ⟨t,by rw[s];exact h _ (q.put (Bn k) _)⟩
 obtain⟨o,g⟩:∃o,o=B5 (Bt f r) i:=⟨_,rfl⟩;rw[<-g] at e⊢;have⟨u,v,m,n,l,guard⟩:=o;unfold ZN at e;simp only at e;split at e
 case h_2=>cases e
 simp[execOp,Instr.makeMap,go_sem]
end
theorem MW {p:Func} {m:Array Value} {R:Ending->World->Prop} {g:Nat} {d:Array Value} (l:KJ prog g=true):∀(q:List Nat) {w:World},Qu q w->
  (∀j,Wu q w j->CallsDIn Fence.wide 0 prog g d .returning j fun e u n=>u= .returning/\∃x,e= .returned x/\∃v,(results p m).run prog n= .ok v n/\R (.returned v) n)->
  LeavesInM Fence.wide 0 prog p m R (q.map mk++[{target:= .fn (.func g) d,args:=#[]}]) .returning w
 |[],w,_,h=>by
  refine⟨oS,.inr ⟨fun h=>(by cases h),_,_,g,d,rfl,?_,fun _ _=>trivial,?_⟩⟩
  .unfold KJ at l
   cases C:prog.funcs[g]? with
   |none=>rw[C] at l;cases l
   |some p=>
    rw[C] at l;simp only[AE,CL] at l;have A:p.body.isNone=false:=by cases A:p.body<;>simp_all
    have y:p.name≠ "runtime.NumGoroutine":=by simpa using l.1
    have H:p.body≠none:=fun e=>by rw[e] at A;cases A
    simp[invoke,callFunc,C,y,H,go_sem]
  .refine⟨(h w (Wu.refl w)).1,fun c Z G M=>?_⟩;have⟨e,J,j,fr,O,s⟩:=(h w (Wu.refl w)).2 c Z G M;refine⟨e,J,j,fr,?_,s⟩;obtain⟨rfl,x,rfl,v,Y,U⟩:=O;exact⟨v,Y,U⟩
 |b::q,w,⟨y,hm⟩,h=>by
  rw[Dc] at y;have A:=hm b oS;refine⟨oS,.inl ⟨b,w.putObj b (.deferred none),rfl,run_takeDeferred A,MW l q ⟨y.2,fun c l=>?_⟩ fun j t=>h j ?_⟩⟩
  .rw[World.putObj_heap_other (fun e=>y.1 (by grind))];exact hm c (by simp[l])
  .refine⟨t.os,t.tape,t.output,by rw[t.size];simp[World.putObj],fun k B=>?_⟩;have B:k≠b/\k∉q:=by simpa using B
   rw[t.keep k B.2,World.putObj_heap_other B.1]
end
end Go.Proofs.YtboflajfckfphaaGreatDoor
namespace Go.Proofs.YtboflajfckfphaaGreatDoor
open Go.RowKit Go.Maps Bud Go Go.Proofs.Tryz
set_option maxRecDepth 1000000
section
def lenV (L:Sts) (o:Oper):Option (Nat×Nat×Value):=
 match o.op with
 | .call ⟨.builtin .len,args,tys⟩=>match args.toList,tys.toList with
  |[x],[t]=>match ev L x with
   |some u=>some (t,o.type,u)
   |_=>none
  |_,_=>none
 |_=>none
theorem eX {P:Program} {N:Nat} {D:List Deferred} {L:Sts} {a:Act} (h:Has N D L a) {o:Oper} {t m:Nat} {u k:Value} {w j:World} (b:lenV L o=some (t,m,u)) (q:(Builtin.len_ #[t] m #[u]).run P w= .ok k j):
  (execOp a.eval o).run P w= .ok (.value k) j:=by
 have⟨C,H,l,n,i,guard⟩:=o;unfold lenV at b;simp only at b;split at b
 case h_2=>cases b
 rename_i e g;split at b
 case h_2=>cases b
 rename_i x t1 c d;split at b
 case h_2=>cases b
 rename_i G p;injection b with b;injection b with B b;injection b with A y;subst B A y;have v:e=#[x]:=by
  apply Ch;simpa using c
 have s:g=#[t1]:=by
  apply Ch;simpa using d
 subst v s;simp only[execOp,resolve,E4,BI,D4,h.val p];simp only[invoke,builtin,Ay,AJ,Am,q]
theorem E5.len {w:World} {b n:Nat} {f:Int->Option Value} (h:E5 w b n f) {t e:TypeId} (c:prog.underlying t=some (.map 3 e)) (a:TypeId):∃k:Int,(Builtin.len_ #[t] a #[.map (some b)]).run prog w= .ok (I k) w:=by
 have⟨D,d,_⟩:=h;exact⟨_,d.len c a⟩
section
variable{z:Option Nat} {D:List Deferred} {f:Func} {r:Nat} {Q:EO} {S:Option (World->Prop)} {Ls:List Nat} {st:List Stp} {L L':Sts} {w:World}
theorem gj {i:Nat} (d t g:Nat) (u:Value) {c:Value} (k:DD (Bt f r) L (B5 (Bt f r) i)=some true) (n:(B5 (Bt f r) i).dst=some d) (b:Nat.blt d f.ntmps=true)
  (m:lenV L (B5 (Bt f r) i)=some (t,g,u)) (l:(Builtin.len_ #[t] g #[u]).run prog w= .ok c w) (h:Es z D f r Q S Ls st ((d,c)::L) w):Es z D f r Q S Ls (.one i::st) L w:=by
 refine EB k fun a j=>?_
 have e:=eX j m l;refine D8 e ?_;exact⟨.inr id,by rw[n];exact h _ (j.put (Bn b) _)⟩
end
theorem Mc (w:World) (c:TypeId) (u b:Value):Reads (w.alloc (.cells #[u,b] c)) (fun k=>k<w.heap.size+1) 2 (some (ad w.heap.size 0)) 1 [u,b]:=
 ⟨oS,fun _=>⟨_,rfl,oS,fun j x a=>by
  match j,a with
  |0,a=>simp at a;subst a;simp[Addr.add]
  |1,a=>simp at a;subst a;simp[Addr.add]⟩⟩
theorem bC {P:Program} (w:World) (a t B e:Nat) {i:TypeInfo} {z:Value} {bytes:Nat} (H:P.underlying t=some (.slice e)) (J:P.info? e=some i) (G:i.zero=some z) (c:i.size=2) (q:i.bytes=bytes) (p:z.cells.size=2)
  {v:Value} {n:Nat} {o:List Value} (j:w.ownsRow a e 2 v n o) (A:TypeId) {u u':Value} (O:u.oneCell'=true) (M:u'.oneCell'=true) (x:n+1<=maxLen) (b:(n+1)*bytes<=140737488355328) (s:a<=w.heap.size):
  ∃m l d,(Builtin.append_ #[t,t] B #[v,vS w.heap.size 1 1]).run P (w.alloc (.cells #[u,u'] A))= .ok (.slice m (n+1) l) d/\d.ownsRow a e 2 (.slice m (n+1) l) (n+1) (o++[u,u'])/\w.grownBy d v.ownBlock/\
   ∀g,(Value.slice m (n+1) l).ownBlock=some g->v.ownBlock=some g∨w.heap.size<=g:=by
 have⟨R,d,h,q2,q3,q4⟩:=DW (w.alloc (.cells #[u,u'] A)) a t B e i z 2 bytes H J G c q p oO v n o (j.alloc _) _ _ 1 1 [u,u'] (Mc w A u u') (fun y C=>by simp at C;rcases C with rfl|rfl;exact O;exact M) x b oT;obtain⟨m,l,rfl⟩:=Cr q2;refine⟨m,l,d,h,q2,DP q3,fun g k=>?_⟩;rcases q4 with q4|q4
 .exact .inl (q4▸k)
 .rw[q4] at k;injection k with k;simp at k;exact .inr oO
end
end Go.Proofs.YtboflajfckfphaaGreatDoor
namespace Bud
structure Hp (s t:St):Prop where
 n:t.n=s.n
 W:t.W=s.W
 V:t.V=s.V
 H:t.H=s.H
 Y:t.Y=s.Y
 L:t.L=s.L
 D:t.D=s.D
 d:t.d=s.d
 F:t.F=s.F
 Q:t.Q=s.Q
 Z:t.Z=s.Z
 U:t.U=s.U
 len:t.K.length=s.K.length
 lits:∀(c:Nat) x,s.K[c]?=some x->∃y,t.K[c]?=some y/\y.l=x.l/\y.Q=x.Q
theorem Hp.refl (s:St):Hp s s:=⟨rfl,rfl,rfl,rfl,rfl,rfl,rfl,rfl,rfl,rfl,rfl,rfl,rfl,fun _ x h=>⟨x,h,rfl,rfl⟩⟩
theorem Hp.trans {s t u:St} (h:Hp s t) (k:Hp t u):Hp s u:=
 ⟨k.n.trans h.n,k.W.trans h.W,k.V.trans h.V,k.H.trans h.H,k.Y.trans h.Y,k.L.trans h.L,k.D.trans h.D,k.d.trans h.d,k.F.trans h.F,k.Q.trans h.Q,k.Z.trans h.Z,k.U.trans h.U,k.len.trans h.len,
  fun c x f=>by
   have⟨y,j,i,g⟩:=h.lits c x f;have⟨z,e,b,a⟩:=k.lits c y j;exact⟨z,e,b.trans i,a.trans g⟩⟩
variable{s t:St}
theorem UZ {i k:Nat} (h:H8 s i k=some t):Hp s t:=by
 unfold H8 at h;split at h
 case h_2=>cases h
 split at h
 .injection h with h;subst h;exact⟨rfl,rfl,rfl,rfl,rfl,rfl,rfl,rfl,rfl,rfl,rfl,rfl,rfl,fun _ x h=>⟨x,h,rfl,rfl⟩⟩
 .cases h
theorem Yf:∀(f:Nat) {s t:St} {i:Nat},VE f s i=some t->Hp s t
 |0,_,_,_,h=>by cases h
 |f+1,s,t,i,h=>by
  unfold VE at h;split at h
  .injection h with h;subst h;exact Hp.refl _
  .split at h
   case h_2=>cases h
   split at h
   .injection h with h;subst h;exact Hp.refl _
   .split at h
    case h_2=>cases h
    rename_i a;exact(UZ a).trans (Yf f h)
   .cases h
theorem Va:∀(f:Nat) {s t:St} {i:Nat},I7 f s i=some t->Hp s t
 |0,_,_,_,h=>by cases h
 |f+1,s,t,i,h=>by
  unfold I7 at h;split at h
  .cases h
  .split at h
   case h_2=>cases h
   split at h
   case h_2=>cases h
   split at h
   .injection h with h;subst h;exact Hp.refl _
   .split at h
    case h_2=>cases h
    rename_i a;exact(UZ a).trans (Va f h)
theorem RM:∀(i:Nat) {s t:St},Ii s i=some t->Hp s t
 |0,s,t,h=>by unfold Ii at h;injection h with h;subst h;exact Hp.refl _
 |i+1,s,t,h=>by
  unfold Ii at h;split at h
  case h_2=>cases h
  rename_i a;exact(Va _ a).trans (RM i h)
theorem Vb {c:Nat} {x y:Cl} (g:s.K[c]?=some x) (f:y.l=x.l) (b:y.Q=x.Q):Hp s {s with K:=s.K.set c y}:=
 ⟨rfl,rfl,rfl,rfl,rfl,rfl,rfl,rfl,rfl,rfl,rfl,rfl,oS,fun d z a=>by
  by_cases e:c=d
  .grind
  .exact⟨z,by show(s.K.set c y)[d]?=_;rw[AI e];exact a,rfl,rfl⟩⟩
theorem MC:∀(l:List Nat) {s t:St},Ei l s=some t->Hp s t
 |[],s,t,h=>by unfold Ei at h;injection h with h;subst h;exact Hp.refl _
 |i::r,s,t,h=>by
  unfold Ei L3 at h
  cases a:s.K[i]? with
  |none=>rw[a] at h;cases h
  |some x=>
   rw[a] at h;exact(Vb (y:={x with X:=G2 (x.X.tdiv 1024)}) a rfl rfl).trans (MC r h)
theorem Yg (h:Ij s=some t):Hp s t:=by
 unfold Ij at h;split at h
 case h_2=>cases h
 rename_i o m;have b:=MC _ m;have a:=RM _ h;exact⟨a.n.trans b.n,a.W.trans b.W,a.V.trans b.V,a.H.trans b.H,a.Y.trans b.Y,a.L.trans b.L,a.D.trans b.D,a.d.trans b.d,a.F.trans b.F,a.Q.trans b.Q,a.Z.trans b.Z,a.U.trans b.U,a.len.trans b.len,
  fun c x l=>by
   have⟨y,g,f,e⟩:=b.lits c x l;have⟨z,k,j,i⟩:=a.lits c y g;exact⟨z,k,j.trans f,i.trans e⟩⟩
theorem Vc {v:Nat} (h:MT s v=some t):Hp s t:=by
 unfold MT at h;split at h
 .cases h
 simp only at h;split at h
 .cases h
 rename_i b a;have c:Hp s b:=by
  split at a
  .have:=Yg a;exact⟨this.n,this.W,this.V,this.H,this.Y,this.L,this.D,this.d,this.F,this.Q,this.Z,this.U,this.len,this.lits⟩
  .injection a with a;subst a;exact⟨rfl,rfl,rfl,rfl,rfl,rfl,rfl,rfl,rfl,rfl,rfl,rfl,rfl,fun _ x h=>⟨x,h,rfl,rfl⟩⟩
 split at h
 case h_2=>cases h
 split at h
 .exact c.trans (Yf _ h)
 .grind
end Bud
namespace Go.Proofs.YtboflajfckfphaaGreatDoor
open Go.RowKit Bud Go Go.Proofs.Tryz
set_option maxRecDepth 1000000
theorem u25:prog.underlying 25=some (.slice 3):=oK
theorem Loc.appI {B:Nat} {p:Px} {s:St} {m S:Sl} {f w:World} {T:Nat->Value} {C:Nat->Cn} {l:List (Nat×Obj)} (h:Loc B p s m S f w T C l) (k:Nat) {n c:Nat} {A:Option Addr} {e:List Value} (t:T k= .slice A n c) (v:C k=(3,1,n,e)) (x:Int) (i:n<=lim):
  ∃o j g,(Builtin.append_ #[25,25] 25 #[.slice A n c,vS w.heap.size 1 1]).run prog (w.alloc (.cells #[I x] 3))= .ok (.slice o (n+1) j) g/\Loc B p s m S f g (CI T k (.slice o (n+1) j)) (CI C k (3,1,n+1,e++[I x])) l:=by
 have⟨q,r,d⟩:=Af.1 Ek;injection d with d a;injection a with a b;have:=h.app1 k 25 3 8 u25 r d a b rfl v 25 3 (u:=I x) rfl (by unfold lim at i;unfold maxLen;omega) (by unfold lim at i;omega);rw[t] at this;exact this
structure LV (e b2 b4 b6 b7 b8:Nat) (o:List Int) (m:List Nat) (k:Nat) (T:Nat->Value) (C:Nat->Cn):Prop where
 t2:T 2=vS b2 1 1
 c2:C 2=(136,1,1,[vP e 0])
 t4:T 4=vS b4 1 1
 c4:C 4=(25,1,1,[T 40])
 t6:T 6=vS b6 1 1
 c6:C 6=(25,1,1,[T 60])
 t7:T 7=vS b7 1 1
 c7:C 7=(243,1,1,[.func (.func 199) #[] #[vP b2 0,vP b6 0]])
 t8:T 8=vS b8 1 1
 c8:C 8=(3,1,1,[N k])
 c40:C 40=(3,1,o.length+1,I 0::o.map I)
 c60:C 60=(3,1,m.length,m.map N)
def jI:Sh:= .seq (.reg 0) (.reg 1)
theorem bR:f199.body=some (jI.code f199):=oK
theorem Yy {B:Nat} {p:Px} {s:St} {S0 S:Sl} {Q w:World} {T:Nat->Value} {C:Nat->Cn} {Y:List (Nat×Obj)} {e c0 q b4 n b7 Z k v:Nat} {o:List Int} {m:List Nat}
 (h:Loc B p s S0 S Q w T C Y) (he:S .E=vS e 1 c0) (a:LV e q b4 n b7 Z o m k T C) (y:v<s.U.length) (hm:m.length<lim):
 Cg 199 #[N v,vP q 0,vP n 0] w fun en w'=>en= .returned (.tuple #[])/\∃L M,Loc B p {s with U:=s.U.set v true} S0 S Q w' L M Y/\LV e q b4 n b7 Z o (m++[v]) k L M/\(∀i,i≠60->L i=T i)/\(∀i,i≠60->i≠6->M i=C i):=by
 refine CN bR<|Ad ?_;have⟨G,cs,hS,H,_,_,rS,fS,le,ls⟩:=h.rep.seenA he oO;have o2:=h.cell 2 a.t2 (j:=0) (u:=vP e 0) (by rw[a.c2];rfl);obtain⟨bv,z⟩:∃b,s.U[v]?=some b:=⟨_,Ab y⟩;have x:=rS v _ z;have C0:Aj [(ad q 0,vP e 0),(ad e 16,vQ G s.U cs)] w:= .cons o2 (.cons H .nil);refine AY [Cu 0 6 [(0,.c 0),(3,.c 1)],.one 6]<|E3 [0,1,2,9] [(9,vP G v)] (Bo (oO:oX v s.U.length)) C0<|Cz bT x (fS v)<|BG [0,1,2] ?_;have⟨D,t⟩:=h.rep.putSeen hS v true;have g:=h.E D t;refine Ae ?_;generalize(w.setCell (ad G v) bT)=P at g⊢;have⟨r,c6,d⟩:=g.form 60;rw[a.c60] at d;have o6:=g.cell 6 a.t6 (j:=0) (u:= sq r m c6) (by rw[a.c6,d];rfl);have⟨O,J,w2,er,A⟩:=g.appI 60 d a.c60 (v:Int) (Nat.le_of_lt hm);have C1:Aj [(ad n 0,sq r m c6)] P:= .cons o6 .nil;refine AY [Cu 0 2 [(0,.c 0)],.one 2,.one 3,.one 4]<|DO [0,1,2,10,11] [(10,sq r m c6),(11,N v)] C1<|Fa 12 25 3 (N v) (.int .i64 0) oK oK oK oK oK oK (.inr rfl) rfl (.inl oK)<|DY 13 25 25 (sq r m c6) (vS P.heap.size 1 1) oK oK oK oK er (.inl oK) ?_;have f:CI T 60 (.slice O (m.length+1) J) 6=vS n 1 1:=by rw[Au _ _ oD];exact a.t6
 have l:CI C 60 (3,1,m.length+1,m.map N++[I (v:Int)]) 6=(25,1,1,[T 60]):=by rw[Au _ _ oD];exact a.c6
 have R:=A.put 6 f 0 (.slice O (m.length+1) J);rw[l] at R;refine Cz (.slice O (m.length+1) J) (A.cell 6 f (j:=0) (u:=T 60) (by rw[l];rfl)) (A.free 6 f 0)<|AK<|Fu rfl ⟨rfl,_,_,R,⟨?_,?_,?_,?_,?_,?_,?_,?_,?_,?_,?_,?_⟩,fun i hi=>Au _ _ hi,fun i D g=>by rw[Au _ _ g,Au _ _ D]⟩
 .rw[Au _ _ oD];exact a.t2
 .rw[Au _ _ oD,Au _ _ oD];exact a.c2
 .rw[Au _ _ oD];exact a.t4
 .rw[Au _ _ oD,Au _ _ oD,Au _ _ oD];exact a.c4
 .exact f
 .rw[AB,AB];rfl
 .rw[Au _ _ oD];exact a.t7
 .rw[Au _ _ oD,Au _ _ oD];exact a.c7
 .rw[Au _ _ oD];exact a.t8
 .rw[Au _ _ oD,Au _ _ oD];exact a.c8
 .rw[Au _ _ oD,Au _ _ oD];exact a.c40
 .rw[Au _ _ oD,AB];simp
end Go.Proofs.YtboflajfckfphaaGreatDoor
namespace Go.Proofs.YtboflajfckfphaaGreatDoor
open Go.RowKit Bud Go
set_option maxRecDepth 1000000
section
def Dj (w:World) (V:Value) (z n:Nat) (b:List Value):Prop:=b.length=n*z/\((∃c,V= .slice none 0 c/\n=0)∨∃g o c,V= .slice (some (ad g o)) n c/\g<w.heap.size/\∀(j:Nat) u,b[j]?=some u->w.cell? (ad g (o+j))=some u)
theorem Gs {w d:World} {b:Nat} (h:d.heap[b]?=w.heap[b]?) (o:Nat):d.cell? (ad b o)=w.cell? (ad b o):=by unfold World.cell?;rw[h]
variable{V:Value} {z n:Nat} {b:List Value}
theorem Dj.below {w d:World} (h:Dj w V z n b) (i:Bl w d):Dj d V z n b:=by
 refine⟨h.1,?_⟩;rcases h.2 with m|⟨g,o,c,rfl,e,l⟩
 .exact .inl m
 .exact .inr ⟨g,o,c,rfl,Bx e i.size,fun j u k=>(Gs (i.block g e) _).trans (l j u k)⟩
theorem Ba.rd {B:Nat} {w:World} {e:Nat} (h:Ba B w V (e,z,n,b)):Dj w V z n b:=by
 refine⟨h.1,?_⟩;rcases h.2 with⟨m,i⟩|⟨g,cap,o,rfl,i,l,q⟩
 .exact .inl ⟨0,m,i⟩
 .have r:b.length=n*z:=h.1;refine .inr ⟨g,0,cap,rfl,(Ak.1 l).1,fun j u k=>?_⟩;have:=Ed h j (by grind);rw[k] at this;rw[CC];exact this
theorem Dj.form {w:World} (h:Dj w V z n b):∃A c,V= .slice A n c:=by
 rcases h.2 with⟨c,rfl,rfl⟩|⟨g,o,c,rfl,_⟩
 .exact⟨_,_,rfl⟩
 .exact⟨_,_,rfl⟩
theorem Dj.some_ {w:World} (h:Dj w V z n b) (e:0<n):∃g o c,V= .slice (some (ad g o)) n c/\g<w.heap.size/\∀(j:Nat) u,b[j]?=some u->w.cell? (ad g (o+j))=some u:=by
 rcases h.2 with⟨c,rfl,rfl⟩|h
 .omega
 .exact h
def aH (w:World) (V:Value) (z n:Nat) (b:List Value):Prop:=Dj w V z n b∨(n=0/\b=[]/\∃A c,V= .slice A 0 c)
theorem Dj.w {w:World} {V:Value} {z n:Nat} {b:List Value} (h:Dj w V z n b):aH w V z n b:= .inl h
theorem aH.below {w d:World} {V:Value} {z n:Nat} {b:List Value} (h:aH w V z n b) (e:Bl w d):aH d V z n b:=h.imp_left fun h=>h.below e
theorem aH.form {w:World} {V:Value} {z n:Nat} {b:List Value} (h:aH w V z n b):∃A c,V= .slice A n c:=by
 rcases h with h|⟨rfl,_,A,c,rfl⟩
 .exact h.form
 .exact⟨A,c,rfl⟩
theorem Dj.get {w:World} (h:Dj w V 1 n b):∃A c g o,V= .slice A n c/\(b≠[]->A=some (ad g o))/\∀(j:Nat) u,b[j]?=some u->w.cell? (ad g (o+j))=some u:=by
 rcases h.2 with⟨c,rfl,rfl⟩|⟨g,o,c,rfl,_,i⟩
 .have:b=[]:=BY (by have:=h.1;omega);exact⟨_,c,0,0,rfl,fun h=>absurd this h,fun j u e=>by rw[this] at e;simp at e⟩
 .exact⟨_,c,g,o,rfl,fun _=>rfl,i⟩
theorem G5 {P:Program} (w:World) (t L e:TypeId) (i:TypeInfo) (z:Value) (size bytes:Nat) (ht:P.underlying t=some (.slice e)) (hi:P.info? e=some i) (hz:i.zero=some z)
  (x:i.size=size) (Y:i.bytes=bytes) (M:z.cells.size=size) {A:Option Addr} {n:Nat} {b:List Value} (h:Dj w (.slice A n n) size n b)
  (a:Addr) (m c:Nat) (l:List Value) (J:l.length=m*size) (r:∀j u,l[j]?=some u->w.cell? (a.add j)=some u) (hm:0<m)
  (G:n+m<=maxLen) (v:(n+m)*bytes<=140737488355328):
  ∃A' c' d,(Builtin.append_ #[t,t] L #[.slice A n n,.slice (some a) m c]).run P w= .ok (.slice A' (n+m) c') d/\d.ownsRow w.heap.size e size (.slice A' (n+m) c') (n+m) (b++l)/\Bl w d:=by
 subst x;subst Y;have H:n+m<=9223372036854775807:=by simp only[maxLen] at G;omega
 have D:(b++l).length=(n+m)*i.size:=by rw[Cf,h.1,J,Nat.add_mul]
 have grown:∀(old:Nat),old<n+m->
   (w.drew.alloc (.cells (b.toArray++l.toArray++Builtin.zeroCells z.cells (grownCap w (n+m) old e-(n+m))) e)).ownsRow w.heap.size e i.size
    (vS w.heap.size (n+m) (grownCap w (n+m) old e)) (n+m) (b++l)/\
   Bl w (w.drew.alloc (.cells (b.toArray++l.toArray++Builtin.zeroCells z.cells (grownCap w (n+m) old e-(n+m))) e)):=by
  intro old ho;have R:=grownCap_ge w (n+m) old e;have U:grownCap w (n+m) old e<=maxLen:=grownCap_le_maxLen w (n+m) old e G;refine⟨⟨D,.inr ⟨w.heap.size,_,_,rfl,Ai _,heap_alloc_new w.drew _,R,U,?_,?_⟩⟩,⟨rfl,rfl,rfl,oS,fun k hk=>Below.heap_alloc w.drew _ k hk⟩⟩
  .simp only[Array.size_append,List.size_toArray,size_zeroCells,M,h.1,J,<-Nat.add_mul];congr 1;omega
  .grind
 rcases h.2 with⟨c0,O,rfl⟩|⟨g,o,c0,O,hg,hc⟩
 .injection O with Z _ _;subst Z;have hx:b=[]:=BY (by have:=h.1;omega);subst hx;have Q:=run_append_nil w t L e i z ht hi hz a m c l J r hm oO (by grind);have q:=grown 0 oO;simp only[CC,Jx,Array.empty_append] at q⊢;exact⟨_,_,_,Q,q.1,q.2⟩
 .injection O with Z _ _;subst Z;have y:∀j u,b[j]?=some u->w.cell? (((ad g o):Addr).add j)=some u:=fun j u hu=>by
   rw[show((ad g o):Addr).add j=(ad g (o+j)) by cases j<;>simp[Addr.add]];exact hc j u hu
  have Q:=run_append_grow w t L e i z ht hi hz (ad g o) n n b h.1 y a m c l J r oO oO (growslice_fits oO v);have q:=grown n oO;exact⟨_,_,_,Q,q.1,q.2⟩
section
variable{B:Nat} {p p':Px} {s s':St} {S0 S f:Sl} {a w d:World} {T:Nat->Value} {C:Nat->Cn} {c:List (Nat×Obj)}
theorem Loc.newN (h:Loc B p s S0 S a w T C c) (k:Nat) (e:TypeId) (i:List Value):Loc B p s S0 S a (w.alloc (.cells i.toArray e)) (CI T k (vS w.heap.size 1 1)) (CI C k (e,i.length,1,i)) c:=by
 have l:(w.alloc (.cells i.toArray e)).heap[w.heap.size]?=some (.cells i.toArray e):=heap_alloc_new w _;refine h.turn k ⟨oS,.inr ⟨w.heap.size,1,i.toArray,rfl,h.st.size,l,Ai 1,oD,oS,oS⟩⟩ ?_ (fun b g=> .inr ?_)
 .have g:Bl w (w.alloc (.cells i.toArray e)):=(Below.refl _ _).alloc (Ai _) _;exact⟨g.os,g.tape,g.output,g.size,fun b j _=>g.block b j⟩
 .injection g with g;exact Nat.le_of_eq g
theorem Loc.gain (h:Loc B p s S0 S a w T C c) (y:Rep B p' s' f d) (G:Step S f w d) (k:Nat) {x:Cn} (A:Ba w.heap.size d V x) (H:∀b,V.ownBlock=some b->∀r,(f r).ownBlock≠some b):
  Loc B p' s' S0 f a d (CI T k V) (CI C k x) c:=by
 have t:=h.E y G;have u:∀b,V.ownBlock=some b->w.heap.size<=b:=fun b v=>(Ax A b v).1
 refine⟨y,t.st,fun j=>?_,fun j m b l o g=>?_,fun j b q r i=>?_,t.mks⟩
 .by_cases e:j=k
  .subst e;rw[AB,AB];exact A.mono fun b v=>⟨Bj h.st.size (u b v),rfl⟩
  .rw[Au _ _ e,Au _ _ e];exact t.part j
 .by_cases e:j=k
  .subst e;rw[AB] at o;rw[Au _ _ (Ne.symm l)] at g;have:=(h.lo g).2;have:=u b o;omega
  .rw[Au _ _ e] at o;by_cases D:m=k
   .subst D;rw[AB] at g;have:=(h.lo o).2;have:=u b g;omega
   .rw[Au _ _ D] at g;exact h.apart j m b l o g
 .by_cases e:j=k
  .subst e;rw[AB] at q;exact H b q r i
  .rw[Au _ _ e] at q;exact t.out j b q r i
end
abbrev noS:Sl:=fun _=>An
theorem Step.bel {f:Sl} {w d:World} (h:Step noS f w d):Bl w d:=⟨h.os,h.tape,h.output,h.size,fun b g=>h.keep b g fun r e=>by cases e⟩
theorem Loc.bel {B:Nat} {p:Px} {s:St} {S:Sl} {a w:World} {T:Nat->Value} {C:Nat->Cn} {c:List (Nat×Obj)} (h:Loc B p s noS S a w T C c):Bl a w:=h.st.bel
end
end Go.Proofs.YtboflajfckfphaaGreatDoor
namespace Go.Proofs.YtboflajfckfphaaGreatDoor
open Go.RowKit Bud Go Go.Proofs.Tryz
set_option maxRecDepth 1000000
section
def gk (L:Sts) (a:Op):Option (Nat×Value):=
 match a with
 | .load t x=>(ev L x).map fun v=>(t,v)
 |_=>none
def gm (L:Sts) (a:Op):Option (Nat×Value×Value):=
 match a with
 | .store t x y=>match ev L x,ev L y with
  |some u,some v=>some (t,u,v)
  |_,_=>none
 |_=>none
noncomputable def rowT (t n:Nat):Bool:=(match prog.underlying t with
 |some d=>d.isRow
 |none=>false)&&(match prog.info? t with
 |some i=>Nat.beq i.size n
 |none=>false)
variable{t n:Nat}
theorem KQ (h:rowT t n=true):∃d,prog.underlying t=some d/\d.isRow=true/\(prog.info? t).map (·.size)=some n:=by
 unfold rowT at h;simp only[AE] at h;have⟨e,a⟩:=h;split at e
 case h_2=>cases e
 rename_i d k;split at a
 case h_2=>cases a
 rename_i i j;exact⟨d,k,e,by rw[j];exact congrArg some (Bh a)⟩
section
variable{z:Option Nat} {D:List Deferred} {f:Func} {r:Nat} {Q:EO} {S:Option (World->Prop)} {b:List Nat} {st:List Stp} {L L':Sts} {w:World}
theorem Tt {i:Nat} (d t g o:Nat) (k:List Value) (G:DD (Bt f r) L (B5 (Bt f r) i)=some true) (O:(B5 (Bt f r) i).dst=some d) (l:Nat.blt d f.ntmps=true) (j:gk L (B5 (Bt f r) i).op=some (t,vP g o)) (J:rowT t k.length=true)
  (P:w.rangeAt g o k) (U:b.contains i=true∨(CR S w w->CR S w w)) (h:Es z D f r Q S b st ((d,.agg k.toArray)::L) w):Es z D f r Q S b (.one i::st) L w:=by
 refine EB G fun a y=>D8 ?_ ⟨U,by rw[O];exact h _ (y.put (Bn l) _)⟩
 have⟨dd,h1,Z,Y⟩:=KQ J;have M:=run_loadAt_mid w g o t k dd P h1 Z Y;revert j;generalize B5 (Bt f r) i=q;intro j;have⟨a0,op,u,A,m,guard⟩:=q;unfold gk at j;simp only at j;split at j
 case h_2=>cases j
 rename_i t' x;have⟨v,H,e⟩:=Af.1 j;injection e with e1 e2;subst e1 e2;simp only[execOp,y.val H,Ay,M,Am,AJ]
theorem Qk {i:Nat} (t g o:Nat) (e:List Value) (x:DD (Bt f r) L (B5 (Bt f r) i)=some true) (G:(B5 (Bt f r) i).dst=none) (d:gm L (B5 (Bt f r) i).op=some (t,vP g o,.agg e.toArray)) (y:rowT t e.length=true) (O:e.all (·.oneCell')=true)
  (H:w.there g o e.length) (J:b.contains i=true∨(CR S w w->CR S w (w.setCells g o e))) (h:Es z D f r Q S b st L (w.setCells g o e)):Es z D f r Q S b (.one i::st) L w:=by
 refine EB x fun a j=>L8 ?_ ⟨J,by rw[G];exact h a j⟩
 have⟨dd,_,_,M⟩:=KQ y;have A:=run_storeAt_mid w g o t e.toArray (by simpa using H) (by simpa using M) (by simpa using O);revert d;generalize B5 (Bt f r) i=q;intro d;have⟨Z,op,l,m,k,guard⟩:=q;unfold gm at d;simp only at d;split at d
 case h_2=>cases d
 split at d
 case h_2=>cases d
 rename_i v u;injection d with d;injection d with Y d;injection d with U P;subst Y U P;simp only[execOp,j.val v,j.val u,Ay,A,Am,AJ]
theorem IC (g o:Nat) (a:List Value) (d:rowT t a.length=true) (e:w.rangeAt g o a):(loadVar t (ad g o)).run prog w= .ok (.agg a.toArray) w:=by
 have⟨k,j,i,h⟩:=KQ d;exact run_loadVar_mid w g o t a k e j i h
variable{R:Ending->World->Prop} {g:Nat} {cs:List Value}
theorem LC {p:Nat} (j:f.results=#[.cell p t]) (k:lk L p=some (vP g 0)) (i:rowT t cs.length=true) (l:w.rangeAt g 0 cs) (h:R (.returned (.agg cs.toArray)) w):HN f (fun a w=>bodyPost prog f R .ret a w) L w:=fun a e=>
 ⟨e.2.1,.agg cs.toArray,by
  have d:a.tmps[p]?.getD undef=vP g 0:=by rw[e.2.2 p _ k];rfl
  simp[results,j,d,asAddr,IC g 0 cs i l],h⟩
theorem EG {p q:Nat} {v:Value} (k:f.results=#[.cell p t,.tmp q]) (m:lk L p=some (vP g 0)) (l:lk L q=some v) (j:rowT t cs.length=true) (o:w.rangeAt g 0 cs) (h:R (.returned (.tuple #[.agg cs.toArray,v])) w):HN f (fun a w=>bodyPost prog f R .ret a w) L w:=fun a i=>
 ⟨i.2.1,.tuple #[.agg cs.toArray,v],by
  have e:a.tmps[p]?.getD undef=vP g 0:=by rw[i.2.2 p _ m];rfl
  have d:a.tmps[q]?.getD undef=v:=by rw[i.2.2 q _ l];rfl
  simp[results,k,e,d,asAddr,IC g 0 cs j o],h⟩
theorem Kk {p d l g' q:Nat} {cs':List Value} {v:Value} (o:f.results=#[.cell p t,.cell d l,.tmp q]) (x:lk L p=some (vP g 0)) (j:lk L d=some (vP g' 0)) (u:lk L q=some v) (m:rowT t cs.length=true) (i:rowT l cs'.length=true) (y:w.rangeAt g 0 cs) (k:w.rangeAt g' 0 cs') (h:R (.returned (.tuple #[.agg cs.toArray,.agg cs'.toArray,v])) w):HN f (fun a w=>bodyPost prog f R .ret a w) L w:=fun a e=>
 ⟨e.2.1,.tuple #[.agg cs.toArray,.agg cs'.toArray,v],by
  have H:a.tmps[p]?.getD undef=vP g 0:=by rw[e.2.2 p _ x];rfl
  have G:a.tmps[d]?.getD undef=vP g' 0:=by rw[e.2.2 d _ j];rfl
  have A:a.tmps[q]?.getD undef=v:=by rw[e.2.2 q _ u];rfl
  simp[results,o,H,G,A,asAddr,IC g 0 cs m y,IC g' 0 cs' i k],h⟩
end
def EQ:List Value->Nat->List Value->List Value
 |xs,_,[]=>xs
 |xs,o,y::ys=>EQ (xs.set o y) (o+1) ys
section
variable{B:Nat} {p:Px} {s:St} {S0 S:Sl} {w0 w:World} {T:Nat->Value} {C:Nat->Cn} {bs:List (Nat×Obj)}
theorem GG {a:Type} (T:Nat->a) (k:Nat) (v d:a):CI (CI T k v) k d=CI T k d:=by
 funext i;unfold CI;split<;>rfl
theorem Loc.putN (k:Nat) {g n c:Nat} (d:T k=vS g n c):∀(a:List Value) (o:Nat) {w:World} {C:Nat->Cn},Loc B p s S0 S w0 w T C bs->Loc B p s S0 S w0 (w.setCells g o a) T (CI C k ((C k).1,(C k).2.1,(C k).2.2.1,EQ (C k).2.2.2 o a)) bs
 |[],o,w,C,h=>by
  have e:CI C k ((C k).1,(C k).2.1,(C k).2.2.1,EQ (C k).2.2.2 o [])=C:=EZ C k;rw[e];exact h
 |y::a,o,w,C,h=>by
  have i:=Loc.putN k d a (o+1) (h.put k d o y);rw[AB,GG] at i;exact i
variable{g c:Nat}
theorem Loc.range (h:Loc B p s S0 S w0 w T C bs) (k:Nat) (l:T k=vS g n c) (o:Nat) (a:List Value) (e:((C k).2.2.2.drop o).take a.length=a):w.rangeAt g o a:=fun j v i=>by
 refine h.cell k l ?_;have d:=(Aa.1 i).1;have:(((C k).2.2.2.drop o).take a.length)[j]?=some v:=by rw[e];exact i
 rw[List.getElem?_take_of_lt d,Dl] at this;exact this
theorem Loc.there (h:Loc B p s S0 S w0 w T C bs) (k:Nat) {g n c:Nat} (d:T k=vS g n c) (o m:Nat) (e:o+m<=(C k).2.2.2.length):w.there g o m:=fun j i=>by
 have a:o+j<(C k).2.2.2.length:=oO;exact⟨by rw[h.cell k d (Ab a)];rfl,h.free k d _⟩
end
end
section
variable{z:Option Nat} {D:List Deferred} {f:Func} {r:Nat} {Q:EO} {S:Option (World->Prop)} {a:List Nat} {st:List Stp} {L:Sts} {w:World} {i:Nat}
theorem CH (d:Nat) (v:Value) (c:World) (h:Es z D f r Q S a st ((d,v)::L) c) (l:a.contains i=true:=by kernel_rfl) (e:DD (Bt f r) L (B5 (Bt f r) i)=some true:=by kernel_rfl) (k:(B5 (Bt f r) i).dst=some d:=by kernel_rfl) (b:Nat.blt d f.ntmps=true:=by kernel_rfl) (j:Jl L (B5 (Bt f r) i)=true:=by kernel_rfl)
  (g:(execOp (I6 L) (B5 (Bt f r) i)).run prog w= .ok (.value v) c:=by kernel_rfl):Es z D f r Q S a (.one i::st) L w:=Il d e k b j g (.inl l) h
theorem Fr (w:World) (c:TypeId) (b:List Value):Ba w.heap.size (w.alloc (.cells b.toArray c)) (vS w.heap.size 1 1) (c,b.length,1,b):=
 ⟨oS,.inr ⟨w.heap.size,1,b.toArray,rfl,Ai _,heap_alloc_new w _,Ai 1,oD,oS,oS⟩⟩
theorem DB (d g:Nat) (e:List Value) (h:∀b c,Ba w.heap.size c (vS b 1 1) (g,e.length,1,e)->Bl w c->w.heap.size=b/\b<c.heap.size->Es z D f r Q S a st ((d,vP b 0)::L) c) (p:a.contains i=true:=by kernel_rfl) (l:DD (Bt f r) L (B5 (Bt f r) i)=some true:=by kernel_rfl) (o:(B5 (Bt f r) i).dst=some d:=by kernel_rfl) (j:Nat.blt d f.ntmps=true:=by kernel_rfl) (n:Jl L (B5 (Bt f r) i)=true:=by kernel_rfl)
  (m:(execOp (I6 L) (B5 (Bt f r) i)).run prog w= .ok (.value (vP w.heap.size 0)) (w.alloc (.cells e.toArray g)):=by kernel_rfl):Es z D f r Q S a (.one i::st) L w:=by
 have k:=Fr w g e;exact Il d l o j n m (.inl p) (h _ _ k ((Below.refl _ _).alloc (Ai _) _) ⟨rfl,(Ax k w.heap.size rfl).2⟩)
end
end Go.Proofs.YtboflajfckfphaaGreatDoor
namespace Go.Proofs.YtboflajfckfphaaGreatDoor
open Go.RowKit Bud Go
section
variable{z:Option Nat} {D:List Deferred} {f:Func} {r:Nat} {Q:EO} {S:Option (World->Prop)} {a:List Nat} {b:List Stp} {L:Sts} {w:World} {i:Nat}
variable{g o:Nat}
theorem ZZ (t:Nat) (c:List Value) (n:c.all (·.oneCell')=true) (l:w.there g o c.length) (m:a.contains i=true∨(CR S w w->CR S w (w.setCells g o c))) (h:Es z D f r Q S a b L (w.setCells g o c)) (d:DD (Bt f r) L (B5 (Bt f r) i)=some true:=by kernel_rfl) (k:(B5 (Bt f r) i).dst=none:=by kernel_rfl) (j:gm L (B5 (Bt f r) i).op=some (t,vP g o,.agg c.toArray):=by kernel_rfl) (e:rowT t c.length=true:=by kernel_rfl):Es z D f r Q S a (.one i::b) L w:=Qk t g o c d k j e n l m h
theorem MX {cs:List Value} (d t:Nat) (m:w.rangeAt g o cs) (n:a.contains i=true∨(CR S w w->CR S w w)) (h:Es z D f r Q S a b ((d,.agg cs.toArray)::L) w) (e:DD (Bt f r) L (B5 (Bt f r) i)=some true:=by kernel_rfl) (l:(B5 (Bt f r) i).dst=some d:=by kernel_rfl) (c:Nat.blt d f.ntmps=true:=by kernel_rfl) (k:gk L (B5 (Bt f r) i).op=some (t,vP g o):=by kernel_rfl) (j:rowT t cs.length=true:=by kernel_rfl):Es z D f r Q S a (.one i::b) L w:=Tt d t g o cs e l c k j m n h
theorem De (t:Nat) (c:List Value) (n:c.all (·.oneCell')=true) (l:w.there g o c.length) (h:Es z D f r Q S a b L (w.setCells g o c)) (m:a.contains i=true:=by kernel_rfl) (d:DD (Bt f r) L (B5 (Bt f r) i)=some true:=by kernel_rfl) (k:(B5 (Bt f r) i).dst=none:=by kernel_rfl) (j:gm L (B5 (Bt f r) i).op=some (t,vP g o,.agg c.toArray):=by kernel_rfl) (e:rowT t c.length=true:=by kernel_rfl):Es z D f r Q S a (.one i::b) L w:=Qk t g o c d k j e n l (.inl m) h
theorem F7 {cs:List Value} (d t:Nat) (m:w.rangeAt g o cs) (h:Es z D f r Q S a b ((d,.agg cs.toArray)::L) w) (n:a.contains i=true:=by kernel_rfl) (e:DD (Bt f r) L (B5 (Bt f r) i)=some true:=by kernel_rfl) (l:(B5 (Bt f r) i).dst=some d:=by kernel_rfl) (c:Nat.blt d f.ntmps=true:=by kernel_rfl) (k:gk L (B5 (Bt f r) i).op=some (t,vP g o):=by kernel_rfl) (j:rowT t cs.length=true:=by kernel_rfl):Es z D f r Q S a (.one i::b) L w:=Tt d t g o cs e l c k j m (.inl n) h
theorem WL {c d:List Value}:∀{pre:List Value},d.length=c.length->EQ (pre++c) pre.length d=pre++d:=by
 intro pre
 induction d generalizing c pre with
 |nil=>intro h;cases c with
  |nil=>rfl
  |cons=>cases h
 |cons y d e=>
  intro h
  cases c with
  |nil=>cases h
  |cons x c=>
   have:=e (pre:=pre++[y]) (by simpa using h);show EQ ((pre++x::c).set pre.length y) (pre.length+1) d=_;rw[List.set_append_right _ _ (Ai _),Nat.sub_self,B3];simpa using this
end
end Go.Proofs.YtboflajfckfphaaGreatDoor
namespace Go.Proofs.YtboflajfckfphaaGreatDoor
open Go.RowKit Go.Maps Bud Go Go.Proofs.Tryz
set_option maxRecDepth 100000
theorem E5.look1 {w:World} {b n:Nat} {f:Int->Option Value} (h:E5 w b n f) {t e:TypeId} (r:prog.underlying t=some (.map 3 e)) {z:Value} (q:(zeroValue e).run prog w= .ok z w)
  {k:Int} (j:(Lit.int .i64 k).wf=true):(Instr.lookup t (.map (some b)) (.int .i64 k) false).run prog w= .ok ((f k).getD z) w:=by
 obtain⟨D,⟨u,p,s,F,_,rfl⟩,_,o⟩:=h;rcases fit_look false bp r q s F (Nn j) with⟨c,_,i⟩|⟨x,y,_,_,c,l,i,_⟩
 .have a:=o k bT j;have g:=o k bF j;rw[i] at a g
  cases m:f k with
  |none=>rw[c];rfl
  |some v=>
   rw[m] at a g;injection a with a;injection g with g;have d:=a.trans g.symm;injection d with d;cases d
 .have a:=o k bT j;have g:=o k bF j;rw[i] at a g;simp only[asIs,A0] at l
  cases m:f k with
  |none=>
   rw[m] at a g;have d:=a.symm.trans g;injection d with d;injection d with d;cases d
  |some v=>
   rw[m,<-l] at a;injection a with a;rw[c,a];rfl
end Go.Proofs.YtboflajfckfphaaGreatDoor
namespace Go.Proofs.YtboflajfckfphaaGreatDoor
open Go.RowKit Bud Go Go.Proofs.Tryz
set_option maxRecDepth 1000000
def fin0:Sh:= .reg 0
theorem eQ:f203.body=some (fin0.code f203):=oK
theorem RN:prog.underlying 134=some (.map 3 4):=oK
theorem ar {w:World} {i h b d n:Nat} {x:Int} {y:Bool} {g:Int->Option Value} (m:w.cell? (ad i 0)=some (I x)) (l:w.cell? (ad h 0)=some (.bool y)) (j:w.cell? (ad b 0)=some (.map (some d)))
 (r:E5 w d n g) (q:n<maxLen) (o:B7 x<=maxLen):
 CallsDIn Fence.wide 0 prog 203 #[vP h 0,vP b 0,vP i 0] .returning w fun e u f=>u= .returning/\e= .returned (.tuple #[])/\E5 f d (n+1) (upd g x (.bool y))/\w.grownBy f (some d):=by
 refine callsDIn_of_wp (fn:=f203) oK eQ trivial ?_;have k:HW f203 fin0 (bodyPost prog f203 fun e f=>e= .returned (.tuple #[])/\E5 f d (n+1) (upd g x (.bool y))/\w.grownBy f (some d)) [qv 0 h,qv 1 b,qv 2 i] w:=by
  have A:Aj [(ad b 0,.map (some d)),(ad i 0,I x),(ad h 0,.bool y)] w:= .cons j (.cons m (.cons l .nil));have⟨B,p,z,s⟩:=r.update RN q (wf64 o) (.bool y);refine AY [Cu 0 3 [(0,.c 0),(1,.c 1),(2,.c 2)],.one 3]<|DO [0,1,2,3,4,5] [qv 0 h,qv 1 b,qv 2 i,(3,.map (some d)),(4,I x),(5,.bool y)] A<|I9 134 (.map (some d)) (I x) (.bool y) oK oK oK p (.inl oK)<|AK<|Fu rfl ⟨rfl,z,s⟩
 exact k _ ⟨oK,rfl,fun t v a=>by
  match t,a with
  |0,a=>injection a with a;subst a;rfl
  |1,a=>injection a with a;subst a;rfl
  |2,a=>injection a with a;subst a;rfl
  |t+3,a=>cases a⟩
def ij:Sh:= .block 1 (.seq (.reg 10) (.seq (.reg 11) (.cond (.tmp 68) (.seq (.reg 12) .ret) .skip)))
def ik:Sh:= .seq (.reg 0) (.seq (.seq (.reg 1) (.seq (.reg 2) (.cond (.tmp 19) (.seq (.reg 3) .ret) .skip))) (.seq (.reg 4) (.seq (.reg 5) (.seq (.seq (.reg 6) (.cond (.tmp 35) (.seq (.reg 7) .ret) .skip)) (.seq (.seq (.reg 8) (.block 0 (.rangeFunc (.tmp 39) #[40] (.reg 9) ij))) (.seq (.reg 13) .ret))))))
theorem eJ:f202.body=some (ik.code f202):=oK
def kf (K:Kn):Int->Option Value:=fun z=>(K z).map Value.bool
theorem XY (K:Kn) (x:Int) (b:Bool):upd (kf K) x (.bool b)=kf (OM K x b):=by
 funext z;unfold upd kf OM;split<;>rfl
variable{w f:World}
theorem RH {e:World} {b:Option Nat} (h:w.grownBy f b) (k:f.grownBy e b):w.grownBy e b:=
 ⟨k.os.trans h.os,k.tape.trans h.tape,k.output.trans h.output,Bj h.size k.size,fun i j g=>(k.block i (Bx j h.size) g).trans (h.block i j g)⟩
theorem grown_below {b:Option Nat} (h:Bl w f):w.grownBy f b:=⟨h.os,h.tape,h.output,h.size,fun i e _=>h.block i e⟩
variable{v:Value}
theorem Ww {b:Option Nat} {ad:Addr} (h:w.grownBy f b) (k:w.heap.size<=ad.block):w.grownBy (f.setCell ad v) b:=
 ⟨by simp[World.setCell,h.os],by simp[World.setCell,h.tape],by simp[World.setCell,h.output],by simpa using h.size,fun i j g=>(Below.heap_setCell _ _ _ _ (fun e=>oO)).trans (h.block i j g)⟩
variable{B bm:Nat} {p:Px} {s:St} {S:Sl}
theorem Rep.grown {i:World} (h:Rep B p s S w) (j:w.grownBy i (some bm)) (k:∀r,(S r).ownBlock≠some bm):Rep B p s S i:=
 ⟨fun r=>(h.part r).mono fun b g=>⟨(h.lo g).1,j.block b (h.lo g).2 (fun e=>k r (by rw[g,e]))⟩,h.apart,Bj h.base j.size⟩
variable{b:Nat}
theorem cell_of {e:TypeId} (h:w.heap[b]?=some (.cells #[v] e)):w.cell? (ad b 0)=some v:=by simp[World.cell?,h]
theorem Nh {e:TypeId} (h:w.heap[b]?=some (.cells #[v] e)):w.frozen? (ad b 0)=false:=by simp[World.frozen?,h]
theorem eK {u:Value} {e:TypeId} (h:w.heap[b]?=some (.cells #[u] e)):(w.setCell (ad b 0) v).heap[b]?=some (.cells #[v] e):=by
 simp[World.setCell,DN,h]
theorem GU {c:Nat} (h:c≠b):(w.setCell (ad b 0) v).heap[c]?=w.heap[c]?:=Below.heap_setCell _ _ _ _ h
structure IW (w W:World) (bm d c b7:Nat) (x:Int) (a:Nat) (y:Bool) (K:Kn) (M:Nat):Prop where
 g:w.grownBy W (some bm)
 h5:W.heap[d]?=some (.cells #[I x] 3)
 h6:W.heap[c]?=some (.cells #[N a] 3)
 h7:W.heap[b7]?=some (.cells #[.bool y] 4)
 m:∃n,E5 W bm n (kf K)
 sup:∀z,K z≠none->B7 z<M
structure IE (B:Nat) (p:Px) (s:St) (S:Sl) (w:World) (bm e b2 b13 b14:Nat):Prop where
 rep:Rep B p s S w
 out:∀r,(S r).ownBlock≠some bm
 o2:w.cell? (ad b2 0)=some (vP e 0)
 o13:w.cell? (ad b13 0)=some (.map (some bm))
 o14:w.cell? (ad b14 0)=some (.func (.func 202) #[] #[vP b13 0,vP b2 0,vP b14 0])
 bm:∃o,w.heap[bm]?=some o/\o.isCells=false
theorem IE.ne {e m j i:Nat} (h:IE B p s S w bm e m j i) {a:Addr} (g:w.cell? a=some v):some a.block≠some bm:=fun e=>by
 have⟨o,l,k⟩:=h.bm;injection e with e;unfold World.cell? at g;rw[e,l] at g;cases o<;>first|(cases g;done)|(cases k;done)
theorem IE.grown {B:Nat} {p:Px} {s:St} {S:Sl} {w k:World} {bm e l i g:Nat} (h:IE B p s S w bm e l i g) (j:w.grownBy k (some bm)) (m:∃o,k.heap[bm]?=some o/\o.isCells=false):IE B p s S k bm e l i g:=
 ⟨h.rep.grown j h.out,h.out,j.cell h.o2 (h.ne h.o2),j.cell h.o13 (h.ne h.o13),j.cell h.o14 (h.ne h.o14),m⟩
theorem IW.obj {w W:World} {bm d c g:Nat} {x:Int} {a:Nat} {y:Bool} {K:Kn} {M:Nat} (h:IW w W bm d c g x a y K M):∃o,W.heap[bm]?=some o/\o.isCells=false:=by
 have⟨n,e⟩:=h.m;exact e.obj
variable{W:World} {d c b7 a M:Nat} {x:Int} {y:Bool} {K:Kn}
theorem IW.ne (h:IW w W bm d c b7 x a y K M) {i:Array Value} {e:TypeId} (g:W.heap[b]?=some (.cells i e)):b≠bm:=fun j=>by
 have⟨o,l,k⟩:=h.obj;rw[j,l] at g;injection g with g;subst g;cases k
theorem IW.grown {i:World} {l:Kn} (h:IW w W bm d c b7 x a y K M) (m:W.grownBy i (some bm)) (q:∃n,E5 i bm n (kf l)) (o:∀z,l z≠none->B7 z<M):IW w i bm d c b7 x a y l M:=by
 have j:∀{b:Nat} {cur:Array Value} {e:TypeId},W.heap[b]?=some (.cells cur e)->i.heap[b]?=some (.cells cur e):=fun{b} {cur} {e} k=>(m.block b (Ak.1 k).1 (fun r=>h.ne k (Ah r))).trans k
 exact⟨RH h.g m,j h.h5,j h.h6,j h.h7,q,o⟩
theorem IW.set7 (h:IW w W bm d c b7 x a y K M) (k:w.heap.size<=b7) (j:d≠b7) (i:c≠b7) (v:Bool):IW w (W.setCell (ad b7 0) (.bool v)) bm d c b7 x a v K M:=by
 have⟨n,e⟩:=h.m;exact⟨Ww h.g k,(GU j).trans h.h5,(GU i).trans h.h6,eK h.h7,⟨n,e.keep (GU (Ne.symm (h.ne h.h7)))⟩,h.sup⟩
theorem UV {t:Array Value} (h7:t[7]?=some (vP b7 0)) (g:w.cell? (ad b7 0)=some (.bool y)):(results f202 t).run prog w= .ok (.bool y) w:=by
 have e:f202.results=#[.cell 7 4]:=oK;have h:prog.underlying 4=some .bool:=oK;simp[results,e,go_sem,h7,loadVar,isAgg,run_underlying h,g,asAddr]
def Yq (w:World) (c M:Nat) (b:Bool) (d:Kn) (e:Ending) (a:World):Prop:=e= .returned (.bool b)/\(∃n,E5 a c n (kf d))/\(∀z,d z≠none->B7 z<M)/\w.grownBy a (some c)
def Yr (B:Nat) (p:Px) (s:St) (S:Sl) (g e h d c f a:Nat):Prop:=
 ∀(w:World) (K i:Kn) (x:Int) (b:Bool),IE B p s S w g e h d c->(∃n,E5 w g n (kf K))->(∀z,K z≠none->B7 z<s.Y.length)->ER s f K x=some (b,i)->Cg 202 #[I x,N a,vP d 0,vP h 0,vP c 0] w (Yq w g s.Y.length b i)
def bN (s:St) (f:Nat) (w:World) (e i h g c d:Nat) (x:Int) (a:Nat) (b:Bool×Kn) (r:List Int) (W:World):Prop:=
 ∃K,IW w W e i h g x a false K s.Y.length/\W.heap[c]?=some (.cells #[vP d 0] 237)/\W.heap[c+1]?=some (.cells #[I (-x)] 3)/\J5 (ER s f) s r K=some b
def jC (s:St) (w:World) (c f e d:Nat) (x:Int) (b:Nat) (a:Bool×Kn) (W:World):Prop:=a.1=false/\IW w W c f e d x b false a.2 s.Y.length
theorem Ys {B:Nat} {p:Px} {s:St} {S:Sl} {w W:World} {M e c0 b2 n j b5 Q k bi gc f i l d:Nat} {x y:Int} {L:Bool×Kn} {r:List Int} {z:Option Nat}
 (a1:Yr B p s S M e b2 n j f (i+1)) (hE:IE B p s S w M e b2 n j) (he:S .E=vS e 1 c0) (a0:i<maxLen) (h7:w.heap.size<=k) (c3:b5≠k) (c2:Q≠k) (c6:bi≠k/\bi+1≠k)
 (Z:∃rec:Loop,W.heap[l]?=some (.loop rec)) (hd:∃ds,W.heap[d]?=some (.deferred ds)) (b4:l≠M) (b9:d≠M)
 (hJ:bN s f w M b5 Q k bi gc x i L (y::r) W):
 GS z [] f202 ij (Rd l d (bN s f w M b5 Q k bi gc x i L r) (jC s w M b5 Q k x i L) W) [qv 2 n,qv 3 b2,qv 4 j,qv 5 b5,qv 6 Q,qv 7 k,(11,I y)] W:=by
 have⟨rec,Z⟩:=Z;have⟨ds,hd⟩:=hd;have⟨K,A,i1,i2,h⟩:=hJ;have C:=hE.grown A.g A.obj;unfold J5 at h
 cases G:s.U[B7 y]? with
 |none=>rw[G] at h;cases h
 |some b=>
 cases t:s.H[B7 y]? with
 |none=>rw[G,t] at h;cases h
 |some lv=>
 rw[G,t] at h;simp only at h;have a7:B7 y<s.U.length:=(Aa.1 G).1;have a4:B7 y<s.H.length:=(Aa.1 t).1;have⟨gs,cs,hS,c4,q5,q6,rS,fS,le,ls⟩:=C.rep.seenA he oO;have⟨gv,cv,hV,e3,_,_,rV,fV,_,c5⟩:=C.rep.levelA he oO;have a2:=rS _ _ G;have a3:=rV _ _ t;have o2:=C.o2;obtain⟨v,Y⟩:∃v,v=B7 y:=⟨_,rfl⟩;rw[<-Y] at a2 a3 G t a7 a4;have OF:∀W',Cg 43 #[I y] W' fun en R=>en= .returned (N v)/\W'=R:=fun W'=>Y▸FT y (by rw[<-Y];omega) W'
 refine Bd (Ad<|Be (O:=[(∀R,CR none W R->Cg 43 #[I y] R fun en a8=>en=Ending.returned (N v)/\R=a8)]) [(1,.q (N v))] [2,3,4,5,6,7,11,12] [qv 2 n,qv 3 b2,qv 4 j,qv 5 b5,qv 6 Q,qv 7 k,(11,I y),(12,N v)] ⟨(fun R _=>OF R),trivial⟩<|Ae (Ad ?_));have C0:Aj [(ad b2 0,vP e 0),(ad e 16,vQ gs s.U cs),(ad gs v,.bool b),(ad e 3,vQ gv s.H cv),(ad gv v,N lv),(ad j 0,.func (.func 202) #[] #[vP n 0,vP b2 0,vP j 0]),(ad Q 0,N i)] W:= .cons o2 (.cons c4 (.cons a2 (.cons e3 (.cons a3 (.cons C.o14 (.cons (cell_of A.h6) .nil))))));have keep:¬(b=false/\0<lv)->bN s f w M b5 Q k bi gc x i L r W:=fun D=>by
  rw[if_neg D] at h;exact⟨K,A,i1,i2,h⟩
 have qd:i<maxLen:=a0
 cases b with
 |true=>
  refine BA [(0,.c 0),(3,.c 1),(6,.c 2)] [2,3,4,5,6,7,11,12,68] [(68,bF)] (Bo (oO:oX v s.U.length)) C0<|Ae (B1 rfl (AZ (BN (fun a _=>⟨⟨rfl,rfl⟩,keep oS⟩))))
 |false=>
  by_cases P:0<lv
  .have q1:(0:Int)<(lv:Int):=oO;rw[if_pos ⟨rfl,P⟩] at h
   cases u:ER s f K y with
   |none=>rw[u] at h;cases h
   |some q=>
   have⟨bt,K2⟩:=q;rw[u] at h;have call:=a1 W K K2 y bt C A.m A.sup u;refine AY [Cu 0 23 [(0,.c 0),(3,.c 1),(6,.c 2),(9,.c 0),(12,.c 3),(15,.c 4),(16,.T),(19,.c 5),(21,.c 6),(22,.e (N (i+1)))],.one 23,AM 24 2]<|E3 [2,3,4,5,6,7,11,12,61,62,63,65] [(61,bT),(62,.func (.func 202) #[] #[vP n 0,vP b2 0,vP j 0]),(63,I y),(65,N (i+1))] (Sm (oO:oX v s.U.length) (oO:oX v s.H.length) (EE q1) (vJ (Ec qd rfl))) C0<|BW 66 (call.mono ?_);rintro en W2 ⟨rfl,m2,s2,g2⟩;refine⟨_,rfl,.inl oK,?_⟩;have J:=A.grown g2 m2 s2;have kp:∀{b:Nat} {o:Obj},W.heap[b]?=some o->b≠M->W2.heap[b]?=some o:=fun{b} {o} G b1=>(g2.block b (Ak.1 G).1 (fun D=>b1 (Ah D))).trans G
   have b0:=kp i1 (A.ne i1);have a9:=kp i2 (A.ne i2);have a5:=(kp Z b4).trans Z.symm;have a6:=(kp hd b9).trans hd.symm
   cases bt with
   |true=>
    refine AN [2,3,4,5,6,7,11,12,68] [(68,bF)]<|AK<|Ae (B1 rfl (AZ (BN (fun a _=>⟨⟨a5,a6⟩,K2,J,b0,a9,h⟩))))
   |false=>
    refine AN [2,3,4,5,6,7,11,12,68] [(68,bT)]<|AK<|Ae (Bg rfl (Ad ?_));have h:=Ah h;refine AY [.one 0]<|Cz bF (cell_of J.h7) (Nh J.h7)<|AK ?_;have c1:=J.set7 h7 c3 c2 false;have b3:l≠k:=fun D=>by rw[D] at Z;rw[A.h7] at Z;cases Z
    have b8:d≠k:=fun D=>by rw[D] at hd;rw[A.h7] at hd;cases hd
    exact Ae (Br (BL (fun a _=>⟨⟨(GU b3).trans a5,(GU b8).trans a6⟩,by rw[<-h],by rw[<-h];exact c1⟩)))
  .have q1:¬(0:Int)<(lv:Int):=oO;refine BA [(0,.c 0),(3,.c 1),(6,.c 2),(9,.c 0),(12,.c 3),(15,.c 4),(16,.F)] [2,3,4,5,6,7,11,12,68] [(68,bF)] (NW (oO:oX v s.U.length) (oO:oX v s.H.length) (Er q1)) C0<|Ae (B1 rfl (AZ (BN (fun a _=>⟨⟨rfl,rfl⟩,keep (fun D=>P D.2)⟩))))
theorem HZ (w:World):(zeroValue 4).run prog w= .ok bF w:=oK
theorem Mb {w W:World} {p O Y s d M r:Nat} {x:Int} {y:Bool} {K:Kn} {bs:List Nat} {a:Act} {L:Sts} (f:IW w W p O Y s x r y K M) (h:W.cell? (ad d 0)=some (.map (some p))) (Z:M<=lim) (Q:B7 x<M)
 (B:Qu bs W) (C:p∉bs) (U:∀b∈bs,w.heap.size<=b) (H:Has f202.ntmps (bs.map mk++[{target:= .fn (.func 203) #[vP s 0,vP d 0,vP O 0],args:=#[]}]) L a) (S:lk L 7=some (vP s 0)):
 JT f202 (Yq w p M y (OM K x y)) .ret a W:=by
 show LeavesInM Fence.wide 0 prog f202 a.tmps _ a.defers .returning W;rw[H.2.1];refine MW oK bs B fun D c=>?_
 have l:∀{b:Nat} {cur:Array Value} {e:TypeId},W.heap[b]?=some (.cells cur e)->D.heap[b]?=some (.cells cur e):=fun{b} {cur} {e} G=>(c.keep b (fun o=>by have:=B.2 b o;rw[G] at this;cases this)).trans G
 have⟨n,R⟩:=f.m;have A:=(R.keep (c.keep p C)).small (M:=M) (fun k q=>f.sup k (by unfold kf at q;intro e;rw[e] at q;exact q rfl));have P:D.cell? (ad d 0)=some (.map (some p)):=by
  have:D.heap[d]?=W.heap[d]?:=c.keep d (fun o=>by
   have j:=B.2 d o;unfold World.cell? at h;rw[j] at h;cases h)
  unfold World.cell? at h⊢;rw[this];exact h
 refine CallsDIn.mono (ar (cell_of (l f.h5)) (cell_of (l f.h7)) P A (by unfold lim maxLen at*;omega) (by unfold lim maxLen at*;omega)) ?_;rintro e u W2 ⟨rfl,rfl,J,j⟩;rw[XY] at J;refine⟨rfl,_,rfl,.bool y,UV (b7:=s) (H.2.2 7 _ S) (j.cell (cell_of (l f.h7)) (fun o=>(f.ne f.h7) (Ah o))),rfl,⟨_,J⟩,fun z v=>?_,?_⟩
 .unfold OM at v;split at v
  .rename_i t;rw[t];exact Q
  .exact f.sup z v
 .exact⟨j.os.trans (c.os.trans f.g.os),j.tape.trans (c.tape.trans f.g.tape),j.output.trans (c.output.trans f.g.output),by have:=j.size;have:=c.size;have:=f.g.size;omega,fun k q i=>
   (j.block k (by have:=c.size;have:=f.g.size;omega) i).trans ((c.keep k (fun o=>by have:=U k o;omega)).trans (f.g.block k q i))⟩
def gh:Sh:= .block 3 (.seq (.reg 10) (.seq (.seq (.reg 11) (.cond (.tmp 66) (.exit 3) .skip)) (.seq (.reg 12) (.seq (.reg 13) (.seq (.reg 14) (.cond (.tmp 85) (.reg 15) (.reg 16)))))))
abbrev Fin:=St×List Nat×List Int×Nat
structure LJ (B:Nat) (p:Px) (S:Sl) (w0:World) (bs:List (Nat×Obj)) (e b2 b4 b6 b7 b8 bi c gc:Nat) (lit:Int) (xl:List Int) (fin:Fin) (r:List Int) (W:World) (s:St) (m:List Nat) (o:List Int) (k:Nat) (T:Nat->Value) (C:Nat->Cn):Prop where
 loc:Loc B p s S S w0 W T C bs
 lv:LV e b2 b4 b6 b7 b8 o m k T C
 t20:T 20=vS bi 1 1
 c20:C 20=(237,1,1,[vP gc 0])
 t21:T 21=vS (bi+1) 1 1
 c21:C 21=(3,1,1,[I lit])
 cl:∃x,s.K[c]?=some x/\x.l=xl
 run:DI r s m o k=some fin
def lO (B:Nat) (p:Px) (S:Sl) (f:World) (h:List (Nat×Obj)) (e t q n l j i c g:Nat) (a:Int) (d:List Int) (b:Fin) (r:List Int) (W:World):Prop:=∃s m o k T C,LJ B p S f h e t q n l j i c g a d b r W s m o k T C
theorem ZT {B:Nat} {p:Px} {S:Sl} {w0:World} {bs:List (Nat×Obj)} {e c0 L b4 b6 b7 b8 bi c gc:Nat} {A y:Int} {xl:List Int} {a3:Fin} {r:List Int} {W:World} {l d:Nat} {z:Option Nat}
 (he:S .E=vS e 1 c0) (hl:∃rec:Loop,W.heap[l]?=some (.loop rec)) (hd:∃ds,W.heap[d]?=some (.deferred ds)) (e6:w0.heap.size<=l) (e7:w0.heap.size<=d) (e2:l≠d) (e4:l∉bs.map (·.1)) (e5:d∉bs.map (·.1))
 (i:lO B p S w0 bs e L b4 b6 b7 b8 bi c gc A xl a3 (y::r) W):
 GS z [] f104 gh (Rd l d (lO B p S w0 bs e L b4 b6 b7 b8 bi c gc A xl a3 r) (fun _=>False) W) [qv 1 gc,qv 2 L,qv 4 b4,qv 6 b6,qv 7 b7,qv 8 b8,(9,I A),(11,I y)] W:=by
 have⟨s,m,o,k,T,C,i⟩:=i;have⟨rec,hl⟩:=hl;have⟨ds,hd⟩:=hd;have h:=(i.loc.mark hl rfl e6 e4).mark hd rfl e7 (by simp only[BI,Az,not_or];exact⟨Ne.symm e2,e5⟩);have a1:∀{s':St} {R:World} {T':Nat->Value} {C':Nat->Cn},Loc B p s' S S w0 R T' C' ((d,.deferred ds)::(l,.loop rec)::bs)->(R.heap[l]?=W.heap[l]?/\R.heap[d]?=W.heap[d]?)/\Loc B p s' S S w0 R T' C' bs:=fun h'=>
  ⟨⟨(h'.mks.2 (l,.loop rec) oS).1.trans hl.symm,(h'.mks.2 (d,.deferred ds) oS).1.trans hd.symm⟩,h'.unmark.unmark⟩
 have hv:=i.lv;have g:=i.run;unfold DI at g
 cases hb:s.U[B7 y]? with
 |none=>rw[hb] at g;cases g
 |some b=>
 cases G:s.H[B7 y]? with
 |none=>rw[hb,G] at g;cases g
 |some lv=>
 rw[hb,G] at g;simp only at g;have a0:B7 y<s.U.length:=(Aa.1 hb).1;have b0:B7 y<s.H.length:=(Aa.1 G).1;have⟨gs,cs,hS,e8,q5,q6,rS,fS,le,ls⟩:=h.rep.seenA he oO;have⟨gv,cv,hV,e3,_,_,rV,fV,_,g0⟩:=h.rep.levelA he oO;have o2:=h.cell 2 hv.t2 (j:=0) (u:=vP e 0) (by rw[hv.c2];rfl);have a5:=rS _ _ hb;have a7:=rV _ _ G;obtain⟨v,a2⟩:∃v,v=B7 y:=⟨_,rfl⟩;rw[<-a2] at a5 a7 hb G g a0 b0;have OF:∀R,Cg 43 #[I y] R fun en w'=>en= .returned (N v)/\R=w':=fun R=>a2▸FT y (by rw[<-a2];omega) R
 refine Bd (Ad<|Be (O:=[(∀w',CR none W w'->Cg 43 #[I y] w' fun en c5=>en=Ending.returned (N v)/\w'=c5)]) [(1,.q (N v))] [1,2,4,6,7,8,9,11,12] [qv 1 gc,qv 2 L,qv 4 b4,qv 6 b6,qv 7 b7,qv 8 b8,(9,I A),(11,I y),(12,N v)] ⟨(fun w' _=>OF w'),trivial⟩<|Ae (Ad (Ad ?_)));have C0:Aj [(ad L 0,vP e 0),(ad e 16,vS gs s.U.length cs),(ad gs v,.bool b),(ad e 3,vS gv s.H.length cv),(ad gv v,N lv)] W:= .cons o2 (.cons e8 (.cons a5 (.cons e3 (.cons a7 .nil))));have keep:b=true∨lv=0->lO B p S w0 bs e L b4 b6 b7 b8 bi c gc A xl a3 r W:=fun hh=>by
  rw[if_pos hh] at g;exact⟨s,m,o,k,T,C,⟨i.loc,hv,i.t20,i.c20,i.t21,i.c21,i.cl,g⟩⟩
 cases b with
 |true=>
  refine BA [(0,.c 0),(3,.c 1),(6,.c 2)] [1,2,4,6,7,8,9,11,12,66] [(66,bT)] (Bo (oO:oX v s.U.length)) C0<|Ae (Bg rfl (BQ (Bc nX (Ck (fun a _=>⟨⟨rfl,rfl⟩,keep (.inl rfl)⟩)))))
 |false=>
  by_cases n:lv=0
  .have q1:((lv:Int)==0)=true:=by simpa using n
   refine BA [(0,.c 0),(3,.c 1),(6,.c 2),(8,.c 0),(11,.c 3),(14,.c 4),(15,.T)] [1,2,4,6,7,8,9,11,12,66] [(66,bT)] (NW (oO:oX v s.U.length) (oO:oX v s.H.length) (vB q1)) C0<|Ae (Bg rfl (BQ (Bc nX (Ck (fun a _=>⟨⟨rfl,rfl⟩,keep (.inr n)⟩)))))
  .have q1:((lv:Int)==0)=false:=by simpa using n
   refine BA [(0,.c 0),(3,.c 1),(6,.c 2),(8,.c 0),(11,.c 3),(14,.c 4),(15,.F)] [1,2,4,6,7,8,9,11,12,66] [(66,bF)] (NW (oO:oX v s.U.length) (oO:oX v s.H.length) (vB q1)) C0 ?_;rw[if_neg (by simpa using n)] at g;split at g
   .cases g
   rename_i t;have t:m.length<lim/\o.length<lim/\k<lim:=oO
   cases P:MT {s with U:=s.U.set v true} v with
   |none=>rw[P] at g;cases g
   |some s2=>
   rw[P] at g;simp only at g;have hp:=Vc P;refine Ae (B1 rfl (AZ (Ae (Ad ?_))));have o7:=h.cell 7 hv.t7 (j:=0) (u:= .func (.func 199) #[] #[vP L 0,vP b6 0]) (by rw[hv.c7];rfl);have mk:=Yy h he hv a0 t.1;have C7:Aj [(ad b7 0,.func (.func 199) #[] #[vP L 0,vP b6 0])] W:= .cons o7 .nil;refine AY [Cu 0 2 [(0,.c 0)],.one 2]<|DO [1,2,4,6,7,8,9,11,12,67,68] [(67,.func (.func 199) #[] #[vP L 0,vP b6 0]),(68,N v)] C7<|BW 69 (mk.mono ?_);rintro en W1 ⟨rfl,T1,C1,h1,f,a8,b5⟩;refine⟨_,rfl,.inl oK,BG [1,2,4,6,7,8,9,11,12]<|Ae (Ad ?_)⟩;have o2:=h1.cell 2 f.t2 (j:=0) (u:=vP e 0) (by rw[f.c2];rfl);have bu:=bump_any h1.rep he v P;have C2:Aj [(ad L 0,vP e 0)] W1:= .cons o2 .nil;refine AY [Cu 0 2 [(0,.c 0)],.one 2]<|DO [1,2,4,6,7,8,9,11,12,70,71] [qv 70 e,(71,N v)] C2<|BW 72 (bu.mono ?_);rintro en W2 ⟨rfl,r2,c9⟩;refine⟨_,rfl,.inl oK,BG [1,2,4,6,7,8,9,11,12] ?_⟩;have Q:=h1.E r2 c9;refine Ae (Ad ?_);have Y:s2.H[v]?=some lv:=by rw[hp.H];exact G
   have a9:s2.D=s.D:=hp.D;have e1:=Q.cell 2 f.t2 (j:=0) (u:=vP e 0) (by rw[f.c2];rfl);have⟨b9,e9,g1,c1,_,_,e0,_,_,_⟩:=Q.rep.levelA he (by have:=(Aa.1 Y).1;omega);have⟨As,c3,g2,a4,_,_,_⟩:=Q.rep.startsE he;have a6:=e0 _ _ Y;rw[hp.H] at c1;have a4:W2.cell? (ad e 6)=some (.slice As s.D.length c3):=by rw[<-a9];exact a4
   have Z:∃x,s2.K[c]?=some x/\x.l=xl:=by
    have⟨x,q1,q2⟩:=i.cl;have⟨x2,q3,q4,_⟩:=hp.lits c x q1;exact⟨x2,q3,q4.trans q2⟩
   have t20:T1 20=vS bi 1 1:=(a8 20 oD).trans i.t20;have c20:C1 20=(237,1,1,[vP gc 0]):=(b5 20 oD oD).trans i.c20;have t21:T1 21=vS (bi+1) 1 1:=(a8 21 oD).trans i.t21;have c21:C1 21=(3,1,1,[I A]):=(b5 21 oD oD).trans i.c21;have C3:Aj [(ad L 0,vP e 0),(ad e 3,vS b9 s.H.length e9),(ad b9 v,N lv),(ad e 6,.slice As s.D.length c3)] W2.drew:= .cons e1 (.cons c1 (.cons a6 (.cons a4 .nil)));by_cases b1:lv=s.D.length
   .have q1:((lv:Int)==(s.D.length:Int))=true:=by rw[beq_iff_eq];omega
    rw[if_pos b1] at g;refine Dr [] (Gi [(0,.c 0),(3,.c 1),(6,.c 2),(7,.c 0),(10,.c 3),(12,.T)] 0 13) [] [1,2,4,6,7,8,9,11,12,85] [(85,bT)] (EP (oO:oX v s.H.length) (vB q1)) C3<|AK<|Ae (Bg rfl ?_);have o8:=Q.drew.cell 8 f.t8 (j:=0) (u:=N k) (by rw[f.c8];rfl);have qk:k<maxLen:=by have:=t.2.2;unfold lim at this;unfold maxLen;omega
    have C8:Aj [(ad b8 0,N k)] W2.drew:= .cons o8 .nil;refine AY [Cu 0 2 [(0,.c 0),(1,.e (N (k+1)))],.one 2]<|E3 [1,2,4,6,7,8,9,11,12,85,87] [(87,N (k+1))] (Bo (vJ (Ec qk rfl))) C8<|Cz (N (k+1)) o8 (Q.drew.free 8 f.t8 0)<|AK ?_;have h3:=Q.drew.put 8 f.t8 0 (N (k+1));rw[f.c8] at h3;have⟨q7,q8⟩:=a1 h3;refine BN fun a _=>⟨q7,s2,m++[v],o,k+1,_,_,⟨q8,⟨f.t2,?_,f.t4,?_,f.t6,?_,f.t7,?_,f.t8,?_,?_,?_⟩,t20,?_,t21,?_,Z,g⟩⟩
    .rw[Au _ _ oD];exact f.c2
    .rw[Au _ _ oD];exact f.c4
    .rw[Au _ _ oD];exact f.c6
    .rw[Au _ _ oD];exact f.c7
    .rw[AB];rfl
    .rw[Au _ _ oD];exact f.c40
    .rw[Au _ _ oD];exact f.c60
    .rw[Au _ _ oD];exact c20
    .rw[Au _ _ oD];exact c21
   .have q1:((lv:Int)==(s.D.length:Int))=false:=by rw[beq_eq_false_iff_ne];omega
    rw[if_neg b1] at g;refine Dr [] (Gi [(0,.c 0),(3,.c 1),(6,.c 2),(7,.c 0),(10,.c 3),(12,.F)] 0 13) [] [1,2,4,6,7,8,9,11,12,85] [(85,bF)] (EP (oO:oX v s.H.length) (vB q1)) C3<|AK<|Ae (B1 rfl ?_);have⟨A4,c4,J⟩:=Q.drew.form 40;rw[f.c40] at J;have o4:=Q.drew.cell 4 f.t4 (j:=0) (u:= .slice A4 (o.length+1) c4) (by rw[f.c4,J];rfl);have⟨A',c',w3,er,h3⟩:=Q.drew.appI 40 J f.c40 y (Nat.succ_le_of_lt t.2.1);have C4:Aj [(ad b4 0,.slice A4 (o.length+1) c4)] W2.drew:= .cons o4 .nil;refine AY [Cu 0 2 [(0,.c 0)],.one 2,.one 3,.one 4]<|DO [1,2,4,6,7,8,9,11,12,85,88,89] [(88,.slice A4 (o.length+1) c4),(89,I y)] C4<|Fa 90 25 3 (I y) (.int .i64 0) oK oK oK oK oK oK (.inr rfl) rfl (.inl oK)<|DY 91 25 25 (.slice A4 (o.length+1) c4) (vS W2.drew.heap.size 1 1) oK oK oK oK er (.inl oK) ?_;have M:CI T1 40 (.slice A' (o.length+1+1) c') 4=vS b4 1 1:=by rw[Au _ _ oD];exact f.t4
    have b3:CI C1 40 (3,1,o.length+1+1,(I 0::o.map I)++[I y]) 4=(25,1,1,[T1 40]):=by rw[Au _ _ oD];exact f.c4
    have h4:=h3.put 4 M 0 (.slice A' (o.length+1+1) c');rw[b3] at h4;refine Cz (.slice A' (o.length+1+1) c') (h3.cell 4 M (j:=0) (u:=T1 40) (by rw[b3];rfl)) (h3.free 4 M 0)<|AK ?_;have⟨q7,q8⟩:=a1 h4;refine BN fun a _=>⟨q7,s2,m++[v],o++[y],k,_,_,⟨q8,⟨?_,?_,M,?_,?_,?_,?_,?_,?_,?_,?_,?_⟩,?_,?_,?_,?_,Z,g⟩⟩
    .rw[Au _ _ oD];exact f.t2
    .rw[Au _ _ oD,Au _ _ oD];exact f.c2
    .rw[AB,AB];rfl
    .rw[Au _ _ oD];exact f.t6
    .rw[Au _ _ oD,Au _ _ oD,Au _ _ oD];exact f.c6
    .rw[Au _ _ oD];exact f.t7
    .rw[Au _ _ oD,Au _ _ oD];exact f.c7
    .rw[Au _ _ oD];exact f.t8
    .rw[Au _ _ oD,Au _ _ oD];exact f.c8
    .rw[Au _ _ oD,AB];simp
    .rw[Au _ _ oD,Au _ _ oD];exact f.c60
    .rw[Au _ _ oD];exact t20
    .rw[Au _ _ oD,Au _ _ oD];exact c20
    .rw[Au _ _ oD];exact t21
    .rw[Au _ _ oD,Au _ _ oD];exact c21
def Z3:Sh:= .seq (.seq (.reg 18) (.cond (.tmp 108) .skip (.exit 4))) (.seq (.block 5 .skip) (.reg 19))
def gO:Sh:= .block 1 (.seq (.seq (.reg 6) (.cond (.tmp 32) (.reg 7) .skip)) (.seq (.seq (.reg 8) (.block 2 (.rangeFunc (.tmp 46) #[47] (.reg 9) gh))) (.seq (.seq (.reg 17) (.block 4 (.loop Z3))) (.seq (.reg 20) (.seq (.seq (.reg 21) (.seq (.reg 22) (.cond (.tmp 121) (.exit 0) .skip))) (.reg 23))))))
def MS (a:List Nat):List (Nat×Obj):=a.map fun b=>(b,.deferred (some []))
theorem No (a:List Nat):(MS a).map (·.1)=a:=by
 unfold MS;rw[EN];exact List.map_id a
theorem GN:∀(r:List Int) {s b:St} {m d:List Nat} {o c:List Int} {k a:Nat},DI r s m o k=some (b,d,c,a)->a<=lim∨a=k
 |[],_,_,_,_,_,_,_,_,h=>by unfold DI at h;injection h with h;injection h with _ h;injection h with _ h;injection h with _ h;exact .inr h.symm
 |x::r,s,b,m,d,o,c,k,a,h=>by
  unfold DI at h;split at h
  case h_2=>cases h
  split at h
  .exact GN r h
  split at h
  .cases h
  rename_i f;split at h
  case h_2=>cases h
  split at h
  .rcases GN r h with e|e
   .exact .inl e
   .exact .inl oO
  .exact GN r h
theorem Xc {B:Nat} {p:Px} {s:St} {S:Sl} {w0 w:World} {T:Nat->Value} {C:Nat->Cn} {bs:List (Nat×Obj)} {D:List Deferred} {e c0 gc t b4 Z Y R k i j:Nat} {o:List Int} {m:List Nat} {g:Int} {Q:EO} [BZ Q]
 (h:Loc B p s S S w0 w T C bs) (he:S .E=vS e 1 c0) (hv:LV e t b4 Z Y R o m k T C) (d:IF s i=some j) (hi:i<=maxLen)
 (hQ:∀r,Loc B p s S S w0 r T C bs->j<i->GK D f104 (fun a w=>Q .normal a w) [qv 1 gc,qv 2 t,qv 4 b4,(5,I 0),qv 6 Z,qv 7 Y,qv 8 R,(9,I g),(10,N j)] r):
 GS none D f104 (.seq (.reg 17) (.block 4 (.loop Z3))) Q [qv 1 gc,qv 2 t,qv 4 b4,(5,I 0),qv 6 Z,qv 7 Y,qv 8 R,(9,I g),(10,N i)] w:=by
 refine Ad ?_;have a1:0<i:=by
  cases i with
  |zero=>cases d
  |succ i=>omega
 have q0:IntKind.i64.wrap ((i:Int)- 1)=((i- 1:Nat):Int):=by
  unfold maxLen at hi;rw[Bb _ oO];omega
 refine Be [(1,.e (N (i- 1)))] [1,2,4,5,6,7,8,9,10] [qv 1 gc,qv 2 t,qv 4 b4,(5,I 0),qv 6 Z,qv 7 Y,qv 8 R,(9,I g),(10,N (i- 1))] (Bo (vJ q0))<|Ae (Bd ?_);refine Ct (fun n L r=>∃H,L=[qv 1 gc,qv 2 t,qv 4 b4,(5,I 0),qv 6 Z,qv 7 Y,qv 8 R,(9,I g),(10,N H)]/\H<i/\n=H/\IF s (H+1)=some j/\Loc B p s S S w0 r T C bs) (n:=i- 1) ⟨i- 1,rfl,oO,rfl,by rw[Nat.sub_add_cancel a1];exact d,h⟩ ?_;rintro n L r ⟨H,rfl,a2,rfl,d,h⟩;unfold IF at d
 cases hl:s.L[n]? with
 |none=>rw[hl] at d;cases d
 |some l=>
 rw[hl] at d;simp only at d
 cases M:s.U[B7 l]? with
 |none=>rw[M] at d;cases d
 |some b=>
 rw[M] at d;have J:=(Aa.1 M).1;have a4:=(Aa.1 hl).1;have⟨A,cs,hS,a3,q5,q6,rS,fS,le,ls⟩:=h.rep.seenA he oO;have⟨z,ct,hT,e5,_,_,rT,fT,_,_⟩:=h.rep.trailA he oO;have o2:=h.cell 2 hv.t2 (j:=0) (u:=vP e 0) (by rw[hv.c2];rfl);have G:=rS _ _ M;have a0:=rT _ _ hl;obtain⟨v,y⟩:∃v,v=B7 l:=⟨_,rfl⟩;rw[<-y] at G M J;have OF:∀W',Cg 43 #[I l] W' fun P f=>P= .returned (N v)/\W'=f:=fun W'=>y▸FT l (by rw[<-y];omega) W'
 refine Ad (Ad ?_);have C0:Aj [(ad t 0,vP e 0),(ad e 16,vS A s.U.length cs),(ad e 5,vS z s.L.length ct),(ad z n,I l),(ad A v,.bool b)] r.drew:= .cons o2 (.cons a3 (.cons e5 (.cons a0 (.cons G .nil))))
 cases b with
 |true=>
  refine Dr (O:=[0<=(n:Int)/\(n:Int)<(s.L.length:Int),(∀f,CR (some (Aj [(ad t 0,vP e 0),(ad e 16,vS A s.U.length cs),(ad e 5,vS z s.L.length ct),(ad z n,I l),(ad A v,bT)])) r.drew f->Cg 43 #[I l] f fun P x=>P=Ending.returned (N v)/\f=x),0<=(v:Int)/\(v:Int)<(s.U.length:Int)]) [] (Gi [(0,.c 0),(3,.c 1),(4,.c 0),(7,.c 2),(10,.c 3),(11,.q (N v)),(13,.c 4)] 0 15) [] [1,2,4,5,6,7,8,9,10,108] [(10,N n),(108,bF)] ⟨oO,(fun f _=>OF f),oO,trivial⟩ C0<|AK ?_;obtain rfl:=Ah d;exact Ae (B1 rfl (BQ (Bc nX (B6 nX (Ck (BV (hQ _ h.drew a2)))))))
 |false=>
  refine Dr (O:=[0<=(n:Int)/\(n:Int)<(s.L.length:Int),(∀f,CR (some (Aj [(ad t 0,vP e 0),(ad e 16,vS A s.U.length cs),(ad e 5,vS z s.L.length ct),(ad z n,I l),(ad A v,bF)])) r.drew f->Cg 43 #[I l] f fun P x=>P=Ending.returned (N v)/\f=x),0<=(v:Int)/\(v:Int)<(s.U.length:Int)]) [] (Gi [(0,.c 0),(3,.c 1),(4,.c 0),(7,.c 2),(10,.c 3),(11,.q (N v)),(13,.c 4)] 0 15) [] [1,2,4,5,6,7,8,9,10,108] [(10,N n),(108,bT)] ⟨oO,(fun f _=>OF f),oO,trivial⟩ C0<|AK<|Ae (Bg rfl (AZ (Ae (Ad (Bd (AZ (BN (Ae ?_))))))));have hn0:0<n:=by
   cases n with
   |zero=>cases d
   |succ n=>omega
  have q1:IntKind.i64.wrap ((n:Int)- 1)=((n- 1:Nat):Int):=by
   unfold maxLen at hi;rw[Bb _ oO];omega
  refine Be [(1,.e (N (n- 1)))] [1,2,4,5,6,7,8,9,10] [(10,N (n- 1))] (Bo (vJ q1)) ?_;exact BF (m:=n- 1) oO ⟨n- 1,rfl,oO,rfl,by rw[Nat.sub_add_cancel hn0];exact d,h.drew⟩
def dS:Sh:= .seq (.reg 20) (.seq (.seq (.reg 21) (.seq (.reg 22) (.cond (.tmp 121) (.exit 0) .skip))) (.reg 23))
def kP:Sh:= .seq (.seq (.reg 8) (.block 2 (.rangeFunc (.tmp 46) #[47] (.reg 9) gh))) (.seq (.seq (.reg 17) (.block 4 (.loop Z3))) dS)
theorem lN:gO= .block 1 (.seq (.seq (.reg 6) (.cond (.tmp 32) (.reg 7) .skip)) kP):=rfl
theorem Loc.lits {B:Nat} {p:Px} {s:St} {q S:Sl} {k w:World} {T:Nat->Value} {C:Nat->Cn} {o:List (Nat×Obj)} (h:Loc B p s q S k w T C o) {c:Nat} {x:Cl} (a:s.K[c]?=some x):∃A cap,S (.lit c)= .slice A x.l.length cap/\x.l.length<=maxLen/\∀(j:Nat) y,x.l[j]?=some y->∃g,A=some (ad g 0)/\w.cell? (ad g j)=some (I y):=by
 have⟨A,cap,b⟩:=h.rep.form (.lit c);have n:(cont p s S (.lit c)).2.2.1=x.l.length:=by simp[cont,a]
 rw[n] at b;refine⟨A,cap,b,?_,fun j y e=>?_⟩
 .rcases D6 x.l.length with d|d
  .rw[d];exact Ha _
  .have⟨_,_,_,q1,q2,_⟩:=h.rep.litA a d;omega
 .have:=(Aa.1 e).1;have⟨g,i,f,_,_,q3,_⟩:=h.rep.litA a oO;rw[b] at f;injection f with m;exact⟨g,m,q3 j y e⟩
theorem Xp {B:Nat} {p:Px} {s:St} {S:Sl} {U w:World} {T:Nat->Value} {C:Nat->Cn} {bs:List (Nat×Obj)} {D:List Deferred} {e c0 gc n z y x i k j:Nat} {o:List Int} {m:List Nat} {a2 l:Int} {Q:EO} [BZ Q]
 (h:Loc B p s S S U w T C bs) (he:S .E=vS e 1 c0) (b:LV e n z y x i o m k T C) (hj:s.L[j]?=some l) (hk:0<k) (a3:k<=lim)
 (a5:k=1->∀g P R,Loc B p s S S U g P R bs->LV e n z y x i o m 0 P R->GK D f104 (fun a w=>Q (.exit 0) a w) [qv 1 gc,qv 2 n,qv 4 z,(5,I 0),qv 6 y,qv 7 x,qv 8 i,(9,I l),(10,N j)] g)
 (a4:k≠1->∃c1 d,s.Y[B7 l]?=some (some c1)/\E6 S c1=vP d 0/\∀g P R,Loc B p s S S U g P R bs->LV e n z y x i o m (k- 1) P R->GK D f104 (fun a w=>Q .normal a w) [qv 1 d,qv 2 n,qv 4 z,(5,I 0),qv 6 y,qv 7 x,qv 8 i,(9,I l),(10,N j)] g):
 GS none D f104 dS Q [qv 1 gc,qv 2 n,qv 4 z,(5,I 0),qv 6 y,qv 7 x,qv 8 i,(9,I a2),(10,N j)] w:=by
 refine Ad ?_;have o2:=h.cell 2 b.t2 (j:=0) (u:=vP e 0) (by rw[b.c2];rfl);have a7:=(Aa.1 hj).1;have⟨gt,ct,hT,e5,_,_,rT,fT,_,_⟩:=h.rep.trailA he oO;have a1:=rT _ _ hj;have C0:Aj [(ad n 0,vP e 0),(ad e 5,vS gt s.L.length ct),(ad gt j,I l)] w:= .cons o2 (.cons e5 (.cons a1 .nil));refine BA [(0,.c 0),(3,.c 1),(6,.c 2)] [1,2,4,5,6,7,8,9,10] [qv 1 gc,qv 2 n,qv 4 z,(5,I 0),qv 6 y,qv 7 x,qv 8 i,(9,I l),(10,N j)] (Bo (oO:oX j s.L.length)) C0<|Ae (Ad (Ad ?_));have Z:=h.cell 8 b.t8 (j:=0) (u:=N k) (by rw[b.c8];rfl);have qk:IntKind.i64.wrap ((k:Int)- 1)=((k- 1:Nat):Int):=by
  unfold lim at a3;rw[Bb _ oO];omega
 have C8:Aj [(ad i 0,N k)] w:= .cons Z .nil;refine AY [Cu 0 2 [(0,.c 0),(1,.e (N (k- 1)))],.one 2]<|E3 [1,2,4,5,6,7,8,9,10,119] [(119,N (k- 1))] (Bo (vJ qk)) C8<|Cz (N (k- 1)) Z (h.free 8 b.t8 0)<|BG [1,2,4,5,6,7,8,9,10] ?_;have t:=h.put 8 b.t8 0 (N (k- 1));rw[b.c8] at t;generalize(w.setCell (ad i 0) (N (k- 1)))=g at t⊢;have f:LV e n z y x i o m (k- 1) T (CI C 8 (3,1,1,[N (k- 1)])):=by
  refine⟨b.t2,?_,b.t4,?_,b.t6,?_,b.t7,?_,b.t8,?_,?_,?_⟩
  .rw[Au _ _ oD];exact b.c2
  .rw[Au _ _ oD];exact b.c4
  .rw[Au _ _ oD];exact b.c6
  .rw[Au _ _ oD];exact b.c7
  .rw[AB]
  .rw[Au _ _ oD];exact b.c40
  .rw[Au _ _ oD];exact b.c60
 have t:Loc B p s S S U g T (CI C 8 (3,1,1,[N (k- 1)])) bs:=t;have Z:=t.cell 8 f.t8 (j:=0) (u:=N (k- 1)) (by rw[f.c8];rfl);refine Ae (Ad ?_);have C9:Aj [(ad i 0,N (k- 1))] g:= .cons Z .nil;by_cases h1:k=1
 .have q1:((((k- 1:Nat):Nat):Int)==0)=true:=by rw[beq_iff_eq];omega
  refine BA [(0,.c 0),(1,.T)] [1,2,4,5,6,7,8,9,10,121] [(121,bT)] (Bo (vB q1)) C9 ?_;subst h1;exact Ae (Bg rfl (BQ (Bc nX (BV (a5 rfl g _ _ t f)))))
 .have q1:((((k- 1:Nat):Nat):Int)==0)=false:=by rw[beq_eq_false_iff_ne];omega
  refine BA [(0,.c 0),(1,.F)] [1,2,4,5,6,7,8,9,10,121] [(121,bF)] (Bo (vB q1)) C9 ?_;have⟨c1,d,J,a6,hQ⟩:=a4 h1;have H:=(Aa.1 J).1;have o2:=t.cell 2 f.t2 (j:=0) (u:=vP e 0) (by rw[f.c2];rfl);have⟨M,cw,hW,e4,q5,q6,rW,_,_,_⟩:=t.rep.whyA he oO;have r:=rW _ _ J;have r:g.cell? ⟨M,B7 l,none⟩=some (vP d 0):=by rw[r];exact congrArg some a6
  obtain⟨v,G⟩:∃v,v=B7 l:=⟨_,rfl⟩;rw[<-G] at r H;have OF:∀W',Cg 43 #[I l] W' fun en A=>en= .returned (N v)/\W'=A:=fun W'=>G▸FT l (by rw[<-G];omega) W'
  refine Ae (B1 rfl (AZ (Ae ?_)));have C4:Aj [(ad n 0,vP e 0),(ad e 4,vS M s.Y.length cw),(ad M v,vP d 0)] g.drew:= .cons o2 (.cons e4 (.cons r .nil));refine Dr (O:=[(∀A,CR (some (Aj [(ad n 0,vP e 0),(ad e 4,vS M s.Y.length cw),(ad M v,vP d 0)])) g.drew A->Cg 43 #[I l] A fun en a0=>en=Ending.returned (N v)/\A=a0),0<=(v:Int)/\(v:Int)<(s.Y.length:Int)]) [] (Gi [(0,.c 0),(3,.c 1),(5,.q (N v)),(7,.c 2)] 0 9) [] [1,2,4,5,6,7,8,9,10] [qv 1 d] ⟨(fun A _=>OF A),oO,trivial⟩ C4<|AK<|BV (hQ _ _ _ t.drew f)
theorem MO {B:Nat} {p:Px} {s:St} {S:Sl} {bm e c0 b2 b13 b14:Nat} (he:S .E=vS e 1 c0) (a5:s.Y.length<=lim):∀(f t:Nat),t+f<=1000->Yr B p s S bm e b2 b13 b14 f t
 |0,t,_=>fun w K K1 x b _ _ _ h=>by cases h
 |f+1,t,hdeep=>fun w K K1 x b hE hm a9 d=>by
  have c2:=MO (B:=B) (p:=p) (bm:=bm) (b2:=b2) (b13:=b13) (b14:=b14) he a5 f (t+1) oO;unfold ER at d;have g9:B7 x<s.Y.length:=by
   cases hk:K x with
   |some v=>exact a9 x (by rw[hk];simp)
   |none=>
    rw[hk] at d;simp only at d
    cases hw:s.Y[B7 x]? with
    |none=>rw[hw] at d;cases d
    |some y=>exact(Aa.1 hw).1
  have b4:B7 x<=maxLen:=by unfold lim maxLen at*;omega
  refine Mz (f:=f202) oK eJ oK ?_;show HW f202 ik _ [(0,I x),(1,N t),qv 2 b13,qv 3 b2,qv 4 b14] w;refine Ad<|AY [.one 0,.one 1,.one 2]<|M1 5 3 (I x) oK oK oK oK (.inl oK)<|M1 6 3 (N t) oK oK oK oK (.inl oK)<|FX 7 4 bF oK oK oK oK (.inl oK)<|BG [2,3,4,5,6,7] ?_;obtain⟨z,M⟩:∃z,z=((w.alloc (.cells #[I x] 3)).alloc (.cells #[N t] 3)).alloc (.cells #[bF] 4):=⟨_,rfl⟩;have e6:(w.alloc (.cells #[I x] 3)).heap.size=w.heap.size+1:=oS;have e7:((w.alloc (.cells #[I x] 3)).alloc (.cells #[N t] 3)).heap.size=w.heap.size+2:=oS;have b9:Bl w z:=by rw[M];exact(((Below.refl _ _).alloc (Ai _) _).alloc oS _).alloc oT _
  have c7:z.heap.size=w.heap.size+3:=by rw[M];simp
  have⟨h4,c4,g7⟩:=hE.bm;have c5:bm<w.heap.size:=(Ak.1 c4).1;have G:IW w z bm w.heap.size (w.heap.size+1) (w.heap.size+2) x t false K s.Y.length:=by
   refine⟨grown_below b9,?_,?_,?_,?_,a9⟩
   .rw[M,heap_alloc_old _ _ (by first|(simp;done)|(simp;omega)),heap_alloc_old _ _ (by first|(simp;done)|(simp;omega))];exact heap_alloc_new w _
   .rw[M,heap_alloc_old _ _ (by first|(simp;done)|(simp;omega)),<-e6];exact heap_alloc_new _ _
   .rw[M,<-e7];exact heap_alloc_new _ _
   .have⟨n,hn⟩:=hm;exact⟨n,hn.keep (b9.block bm c5)⟩
  rw[e6,e7,<-M];obtain⟨J,g4⟩:∃J,J=w.heap.size:=⟨_,rfl⟩;obtain⟨b6,g3⟩:∃b6,b6=w.heap.size+1:=⟨_,rfl⟩;obtain⟨P,g2⟩:∃P,P=w.heap.size+2:=⟨_,rfl⟩;rw[<-g2,<-g3,<-g4] at G⊢;have a8:=hE.grown G.g G.obj;clear M e6 e7 b9;have⟨n,hn⟩:=G.m;have a4:=hn.look RN (HZ z) (wf64 b4);refine Ae (Ad (Ad ?_));have C0:Aj [(ad b13 0,.map (some bm)),(ad J 0,I x)] z:= .cons a8.o13 (.cons (cell_of G.h5) .nil)
  cases hk:K x with
  |some b0=>
   rw[hk] at d;have b8:kf K x=some (.bool b0):=by unfold kf;rw[hk];rfl
   rw[b8] at a4;refine AY [Cu 0 2 [(0,.c 0),(1,.c 1)],.one 2,AM 3 5]<|DO [2,3,4,5,6,7,14,15] [qv 5 J,qv 6 b6,qv 7 P,(14,.map (some bm)),(15,I x)] C0<|LF 16 134 (.map (some bm)) (I x) (.tuple #[.bool b0,bT]) true oK oK oK oK a4 (.inl oK)<|AN [2,3,4,5,6,7,8,9] [(8,.bool b0),(9,bT)]<|AK<|Ae (Ad<|B8 [] [2,3,4,5,6,7,8,9,19] [(19,bT)]<|Ae (Bg rfl (Ad ?_)));have d:=Ah d;injection d with e1 e2;subst e1 e2;refine AY [AM 0 1,.one 1]<|AN [2,3,4,5,6,7,8,9,19,20] [(20,.bool b0)]<|Cz (.bool b0) (cell_of G.h7) (Nh G.h7)<|AK ?_;have u:=G.set7 oO oO oO b0;refine Ae (Br (Bc nR (fun a ha=>?_)));show LeavesInM Fence.wide 0 prog f202 a.tmps _ a.defers .returning _;rw[ha.2.1];exact⟨.bool b0,UV (b7:=P) (ha.2.2 7 _ rfl) (cell_of u.h7),rfl,u.m,u.sup,u.g⟩
  |none=>
   rw[hk] at d;simp only at d;have b8:kf K x=none:=by unfold kf;rw[hk];rfl
   rw[b8] at a4;refine AY [Cu 0 2 [(0,.c 0),(1,.c 1)],.one 2,AM 3 5]<|DO [2,3,4,5,6,7,14,15] [qv 5 J,qv 6 b6,qv 7 P,(14,.map (some bm)),(15,I x)] C0<|LF 16 134 (.map (some bm)) (I x) (.tuple #[bF,bF]) true oK oK oK oK a4 (.inl oK)<|AN [2,3,4,5,6,7,8,9] [(8,bF),(9,bF)]<|AK<|Ae (Ad<|B8 [] [2,3,4,5,6,7,8,9,19] [(19,bF)]<|Ae (B1 rfl (AZ (Ae (Ad<|AY [AM 0 1,.one 1]<|AN [2,3,4,5,6,7,21] [(21,.func (.func 203) #[] #[vP P 0,vP b13 0,vP J 0])]<|aD {target:= .fn (.func 203) #[vP P 0,vP b13 0,vP J 0],args:=#[]} oK oK oK (.inl oK)<|BG [2,3,4,5,6,7] ?_)))))
   cases hw:s.Y[B7 x]? with
   |none=>rw[hw] at d;cases d
   |some wy=>
   rw[hw] at d;have⟨gw,cw,hW,e4,_,_,rW,_,_,_⟩:=a8.rep.whyA he oO;have a0:=rW _ _ hw;obtain⟨v,c3⟩:∃v,v=B7 x:=⟨_,rfl⟩;rw[<-c3] at a0;have OF:∀W',Cg 43 #[I x] W' fun en Q=>en= .returned (N v)/\W'=Q:=fun W'=>c3▸FT x b4 W'
   refine Ae (Ad ?_);have D:IW w z.drew bm J b6 P x t false K s.Y.length:=⟨⟨G.g.os,G.g.tape,G.g.output,G.g.size,G.g.block⟩,G.h5,G.h6,G.h7,G.m,G.sup⟩;have e0:=hE.grown D.g D.obj
   cases wy with
   |none=>
    simp only at d;have C5:Aj [(ad b2 0,vP e 0),(ad e 4,vQ gw s.Y cw),(ad J 0,I x),(ad gw v,.pointer none)] z.drew:= .cons a8.o2 (.cons e4 (.cons (cell_of G.h5) (.cons a0 .nil)));refine Dr (O:=[(∀Q,CR (some (Aj [(ad b2 0,vP e 0),(ad e 4,vQ gw s.Y cw),(ad J 0,I x),(ad gw v,.pointer none)])) z.drew Q->Cg 43 #[I x] Q fun en b1=>en=Ending.returned (N v)/\Q=b1),0<=(v:Int)/\(v:Int)<(s.Y.length:Int)]) [] (Gi [(0,.c 0),(3,.c 1),(4,.c 2),(5,.q (N v)),(7,.c 3)] 0 9) [] [2,3,4,5,6,7,10] [(10,.pointer none)] ⟨(fun Q _=>OF Q),oO,trivial⟩ C5<|AK<|Ae (Ad (Ad<|B8 [] [2,3,4,5,6,7,10,35] [(35,bT)]<|Ae (Bg rfl (Ad ?_))));have d:=Ah d;injection d with e1 e2;subst e1 e2;refine AY [.one 0]<|Cz bF (cell_of D.h7) (Nh D.h7)<|AK ?_;have u:=D.set7 oO oO oO false;refine Ae (Br (Bc nR (fun a ha=>Mb (bs:=[]) u (hE.grown u.g u.obj).o13 a5 oO ⟨Hq,fun b C=>(by cases C)⟩ oS (fun b C=>(by cases C)) ha rfl)))
   |some c=>
    simp only at d
    cases U:s.K[c]? with
    |none=>rw[U] at d;cases d
    |some kx=>
    rw[U] at d;simp only at d;have⟨gc,cc,hC,hP,nZ,_⟩:=e0.rep.clA U;have a0:z.cell? (ad gw v)=some (vP gc 0):=by rw[a0];exact congrArg some hP
    have C5:Aj [(ad b2 0,vP e 0),(ad e 4,vQ gw s.Y cw),(ad J 0,I x),(ad gw v,vP gc 0)] z.drew:= .cons a8.o2 (.cons e4 (.cons (cell_of G.h5) (.cons a0 .nil)));refine Dr (O:=[(∀Q,CR (some (Aj [(ad b2 0,vP e 0),(ad e 4,vQ gw s.Y cw),(ad J 0,I x),(ad gw v,vP gc 0)])) z.drew Q->Cg 43 #[I x] Q fun en b1=>en=Ending.returned (N v)/\Q=b1),0<=(v:Int)/\(v:Int)<(s.Y.length:Int)]) [] (Gi [(0,.c 0),(3,.c 1),(4,.c 2),(5,.q (N v)),(7,.c 3)] 0 9) [] [2,3,4,5,6,7,10] [qv 10 gc] ⟨(fun Q _=>OF Q),oO,trivial⟩ C5<|AK<|Ae (Ad (Ad ?_));have b3:¬(1000:Int)<(t:Int):=oO;have C6:Aj [(ad b6 0,N t)] z.drew:= .cons (cell_of D.h6) .nil;refine BA [(3,.c 0),(4,.F)] [2,3,4,5,6,7,10,35] [(35,bF)] (Bo (Er b3)) C6<|Ae (B1 rfl (AZ (Ae (Ad (Ad ?_)))));have qx:IntKind.i64.wrap (-x)=-x:=(S9 b4).1;have C8:Aj [(ad J 0,I x)] z.drew:= .cons (cell_of D.h5) .nil;refine AY [Cu 0 3 [(1,.c 0),(2,.e (I (-x)))],.one 3]<|E3 [2,3,4,5,6,7,10,36,38] [qv 36 gc,(38,I (-x))] (Bo (vJ qx)) C8<|BW 39 ((J3 gc (-x) z.drew).mono ?_);rintro en W2 ⟨rfl,rfl⟩;refine⟨_,rfl,.inl oK,BG [2,3,4,5,6,7,10,39] ?_⟩;obtain⟨W3,a3⟩:∃W3,W3=(z.drew.alloc (.cells #[vP gc 0] 237)).alloc (.cells #[I (-x)] 3):=⟨_,rfl⟩;have e2:(z.drew.alloc (.cells #[vP gc 0] 237)).heap.size=z.drew.heap.size+1:=oS;have c6:Bl z.drew W3:=by rw[a3];exact((Below.refl _ _).alloc (Ai _) _).alloc oS _
    have e9:W3.heap.size=z.drew.heap.size+2:=by rw[a3];simp
    have g0:z.drew.heap.size=w.heap.size+3:=c7;have u:IW w W3 bm J b6 P x t false K s.Y.length:=D.grown (grown_below c6) (by
     have⟨n,hn⟩:=D.m;exact⟨n,hn.keep (c6.block bm oO)⟩) D.sup
    have i1:W3.heap[z.drew.heap.size]?=some (.cells #[vP gc 0] 237):=by rw[a3,heap_alloc_old _ _ oS];exact heap_alloc_new _ _
    have i2:W3.heap[z.drew.heap.size+1]?=some (.cells #[I (-x)] 3):=by rw[a3,<-e2];exact heap_alloc_new _ _
    rw[<-a3];generalize z.drew.heap.size=bi at e9 i1 i2 g0⊢
    cases a2:J5 (ER s f) s (kx.l.filter fun y=>decide (y≠-x)) K with
    |none=>rw[a2] at d;cases d
    |some g6=>
    rw[a2] at d;have⟨bb,K2⟩:=g6;have d:=Ah d;injection d with e1 e2;subst e1 e2;have⟨A,cap,hA,e8,_⟩:=(Loc.init e0.rep).lits U;refine Ae (Bd ?_);refine Rb (A:=A) (cap:=cap) (gc:=gc) (lit:=-x) (l:=kx.l) (b:=bi) rfl oK e8
     (bN s f w bm J b6 P bi gc x t (bb,K2)) (jC s w bm J b6 P x t (bb,K2)) (fun r W hJ=>?_) (fun r=>?_) ?_ (fun ob L=>?_)
     (fun y=>[qv 2 b13,qv 3 b2,qv 4 b14,qv 5 J,qv 6 b6,qv 7 P,(11,I y)]) (fun y Q' W hh=>?_) (fun y r W hJ hl hd=>?_) (fun W hJ hd=>?_) (fun W hX hd=>?_)
    .have⟨K3,k,j1,j2,_⟩:=hJ;have c9:=hE.grown k.g k.obj;have⟨g5,h3,_,c8,q0,_⟩:=c9.rep.clA U;rw[hP] at c8;obtain rfl:gc=g5:=by injection c8 with a7;injection a7 with a7;injection a7 with a7
     rw[hA] at q0;refine⟨cell_of j1,cell_of j2,q0,fun j y hj=>?_⟩;have⟨A3,g8,e5,_,q1⟩:=(Loc.init c9.rep).lits U;have⟨g,q2,q3⟩:=q1 j y hj;rw[hA] at e5;injection e5 with e3;exact⟨g,e3.trans q2,q3⟩
    .refine⟨fun W Z ob L hJ hk ho hc=>?_⟩;have⟨K3,k,j1,j2,j3⟩:=hJ;have H:∀{b:Nat} {cur:Array Value} {e:TypeId},W.heap[b]?=some (.cells cur e)->b≠Z:=fun{b} {cur} {e} C e'=>by rw[e',ho] at C;injection C with C;rw[C] at hc;cases hc
     have kp:∀{b:Nat} {o:Obj},b≠Z->W.heap[b]?=some o->(W.putObj Z L).heap[b]?=some o:=fun{b} {o} h1 h2=>(World.putObj_heap_other h1).trans h2
     have h0:bi+2<=Z:=by rcases hk with rfl|rfl<;>omega
     have R:Wu [Z] W (W.putObj Z L):=⟨rfl,rfl,rfl,by simp[World.putObj],fun j hj=>World.putObj_heap_other (by simpa using hj)⟩;refine⟨K3,⟨⟨R.os.trans k.g.os,R.tape.trans k.g.tape,R.output.trans k.g.output,by rw[R.size];exact k.g.size,fun i h1 h2=>(R.keep i oT).trans (k.g.block i h1 h2)⟩,kp (H k.h5) k.h5,kp (H k.h6) k.h6,kp (H k.h7) k.h7,?_,k.sup⟩,kp (H j1) j1,kp (H j2) j2,j3⟩;have⟨n3,a1⟩:=k.m;exact⟨n3,a1.keep (R.keep bm oT)⟩
    .refine⟨fun W Z ob L hJ hk ho hc=>?_⟩;have⟨j0,k⟩:=hJ;have H:∀{b:Nat} {cur:Array Value} {e:TypeId},W.heap[b]?=some (.cells cur e)->b≠Z:=fun{b} {cur} {e} C e'=>by rw[e',ho] at C;injection C with C;rw[C] at hc;cases hc
     have kp:∀{b:Nat} {o:Obj},b≠Z->W.heap[b]?=some o->(W.putObj Z L).heap[b]?=some o:=fun{b} {o} h1 h2=>(World.putObj_heap_other h1).trans h2
     have R:Wu [Z] W (W.putObj Z L):=⟨rfl,rfl,rfl,by simp[World.putObj],fun j hj=>World.putObj_heap_other (by simpa using hj)⟩;refine⟨j0,⟨⟨R.os.trans k.g.os,R.tape.trans k.g.tape,R.output.trans k.g.output,by rw[R.size];exact k.g.size,fun i h1 h2=>(R.keep i oT).trans (k.g.block i h1 h2)⟩,kp (H k.h5) k.h5,kp (H k.h6) k.h6,kp (H k.h7) k.h7,?_,k.sup⟩⟩;have⟨n3,a1⟩:=k.m;exact⟨n3,a1.keep (R.keep bm oT)⟩
    .have a6:Bl W3 ((W3.alloc ob).alloc L):=((Below.refl _ _).alloc (Ai _) _).alloc oS _;refine⟨K,u.grown (grown_below a6) ?_ u.sup,(a6.block _ oO).trans i1,(a6.block _ oO).trans i2,a2⟩;have⟨n3,a1⟩:=u.m;exact⟨n3,a1.keep (a6.block bm oO)⟩
    ·
     refine B8 [] [2,3,4,5,6,7,11] [qv 2 b13,qv 3 b2,qv 4 b14,qv 5 J,qv 6 b6,qv 7 P,(11,I y)]<|hh
    .exact Ys c2 hE he (by unfold maxLen;omega) oO oO oO ⟨oO,oO⟩ hl hd oO oO hJ
    .have⟨K3,k,j1,j2,j3⟩:=hJ;have j3:=Ah j3;injection j3 with e3 e4;subst e3 e4;refine BN (Ae (Ad<|AY [.one 0]<|Cz bT (cell_of k.h7) (Nh k.h7)<|AK ?_));have c1:=k.set7 oO oO oO true;refine Ae (Br (fun a ha=>?_));have g1:W3.heap.size≠P:=oO;exact Mb (bs:=[W3.heap.size]) c1 (hE.grown c1.g c1.obj).o13 a5 oO ⟨oS,fun b C=>by simp at C;subst C;exact(GU g1).trans hd⟩ oT (fun b C=>by simp at C;omega) ha rfl
    .have⟨j0,k⟩:=hX;subst j0;refine BL (Bc nR (fun a ha=>?_));exact Mb (bs:=[W3.heap.size]) k (hE.grown k.g k.obj).o13 a5 oO ⟨oS,fun b C=>by simp at C;subst C;exact hd⟩ oT (fun b C=>by simp at C;omega) ha rfl
theorem Loc.obs_lt {B:Nat} {p:Px} {g S:Sl} {d w:World} {T:Nat->Value} {C:Nat->Cn} {a:List (Nat×Obj)} (h:Loc B p s g S d w T C a) {b:Nat} (f:b∈a.map (·.1)):b<w.heap.size:=by
 obtain⟨q,e,rfl⟩:=BB.1 f;exact(Ak.1 (h.mks.2 q e).1).1
theorem TX {x:Cl} (a:s.K[c]?=some x):∃y,(Hb s c x).K[c]?=some y/\y.l=x.l:=by
 unfold Hb;split
 .exact⟨_,AD (Aa.1 a).1,rfl⟩
 .exact⟨x,a,rfl⟩
theorem Hp.X {x:Cl} (a:s.K[c]?=some x):Hp s (Hb s c x):=by
 unfold Hb;split
 .exact Vb a rfl rfl
 .exact Hp.refl s
theorem Yv {B:Nat} {p:Px} {s':St} {S:Sl} {w0 w:World} {T:Nat->Value} {C:Nat->Cn} {e c0 v M P O Z U f i:Nat} {t a0:Int} {m':List Nat} {o':List Int} {Q:EO} [BZ Q]
 (h:Loc B p s S S w0 w T C []) (he:S .E=vS e 1 c0) (R:LV e M P O Z U [] [] 0 T C) (hP:E6 S c=vP v 0) (d:DF f s c t i [] [] 0=some (s',m',o',a0)) (hi:i<=maxLen)
 (hQ:∀ds w1 T' C',Loc B p s' S S w0 w1 T' C' (MS ds)->LV e M P O Z U o' m' 0 T' C'->GK (ds.map mk) f104 (fun a w=>Q .normal a w) [qv 2 M,qv 4 P,(5,I 0),qv 6 O,(9,I a0)] w1):
 HW f104 (.block 0 (.loop gO)) Q [qv 1 v,qv 2 M,qv 4 P,(5,I 0),qv 6 O,qv 7 Z,qv 8 U,(9,I t),(10,N i)] w:=by
 refine Bd ?_;refine Ty (fun n L D W=>∃ds s c v t i m o k T C,D=ds.map mk/\L=[qv 1 v,qv 2 M,qv 4 P,(5,I 0),qv 6 O,qv 7 Z,qv 8 U,(9,I t),(10,N i)]/\Loc B p s S S w0 W T C (MS ds)/\LV e M P O Z U o m k T C/\E6 S c=vP v 0/\DF n s c t i m o k=some (s',m',o',a0)/\i<=maxLen/\k<=lim) (n:=f)
  ⟨[],s,c,v,t,i,[],[],0,T,C,rfl,rfl,h,R,hP,d,hi,Ha _⟩ ?_
 rintro n L D W ⟨ds,s,c,v,t,i,m,o,k,T,C,rfl,rfl,h,R,hP,d,hi,i4⟩
 cases n with
 |zero=>cases d
 |succ n=>
 unfold DF at d
 cases a2:s.K[c]? with
 |none=>rw[a2] at d;cases d
 |some x=>
 rw[a2] at d;simp only at d;refine Bd (Ad (Ad ?_));have⟨i0,cc,hC,G,o0,o1,_,o3,i2,lc⟩:=h.rep.clA a2;rw[hP] at G;obtain rfl:v=i0:=by injection G with G;injection G with G;injection G with G
 have⟨x1,a8,c5⟩:=TX a2;have g0:=Hp.X a2;generalize e8:Hb s c x=s1 at d a8 g0;have b5:∀H,Loc B p s1 S S w0 H T C (MS ds)->GS none (ds.map mk) f104 kP (Exit.inBlock 1 (XT f104 (fun n L D W=>∃ds s c v t i m o k T C,D=ds.map mk/\L=[qv 1 v,qv 2 M,qv 4 P,(5,I 0),qv 6 O,qv 7 Z,qv 8 U,(9,I t),(10,N i)]/\Loc B p s S S w0 W T C (MS ds)/\LV e M P O Z U o m k T C/\E6 S c=vP v 0/\DF n s c t i m o k=some (s',m',o',a0)/\i<=maxLen/\k<=lim) (n+1) (Exit.inBlock 0 Q))) [qv 1 v,qv 2 M,qv 4 P,(5,I 0),qv 6 O,qv 7 Z,qv 8 U,(9,I t),(10,N i)] H:=by
  intro H h;refine Ad (Ad<|AY [AM 0 2,.one 2]<|AN [1,2,4,5,6,7,8,9,10,44,45] [qv 1 v,qv 2 M,qv 4 P,(5,I 0),qv 6 O,qv 7 Z,qv 8 U,(9,I t),(10,N i),qv 44 v,(45,I t)]<|BW 46 ((J3 v t H).mono ?_));rintro en W2 ⟨rfl,rfl⟩;refine⟨_,rfl,.inl oK,BG [1,2,4,5,6,7,8,9,10,46] ?_⟩;have h2:=(h.new 20 237 (vP v 0)).new 21 3 (I t);have e2:(H.alloc (.cells #[vP v 0] 237)).heap.size=H.heap.size+1:=oS;rw[e2] at h2;have e7:((H.alloc (.cells #[vP v 0] 237)).alloc (.cells #[I t] 3)).heap.size=H.heap.size+2:=oS;have b1:LV e M P O Z U o m k (CI (CI T 20 (vS H.heap.size 1 1)) 21 (vS (H.heap.size+1) 1 1)) (CI (CI C 20 (237,1,1,[vP v 0])) 21 (3,1,1,[I t])):=by
   refine⟨?_,?_,?_,?_,?_,?_,?_,?_,?_,?_,?_,?_⟩
   all_goals repeat rw[Au _ _ oD]
   .exact R.t2
   .exact R.c2
   .exact R.t4
   .exact R.c4
   .exact R.t6
   .exact R.c6
   .exact R.t7
   .exact R.c7
   .exact R.t8
   .exact R.c8
   .exact R.c40
   .exact R.c60
  have t20:(CI (CI T 20 (vS H.heap.size 1 1)) 21 (vS (H.heap.size+1) 1 1)) 20=vS H.heap.size 1 1:=by rw[Au _ _ oD,AB]
  have g5:(CI (CI C 20 (237,1,1,[vP v 0])) 21 (3,1,1,[I t])) 20=(237,1,1,[vP v 0]):=by rw[Au _ _ oD,AB]
  have t21:(CI (CI T 20 (vS H.heap.size 1 1)) 21 (vS (H.heap.size+1) 1 1)) 21=vS (H.heap.size+1) 1 1:=AB _ _ _;have g4:(CI (CI C 20 (237,1,1,[vP v 0])) 21 (3,1,1,[I t])) 21=(3,1,1,[I t]):=AB _ _ _;generalize(CI (CI T 20 (vS H.heap.size 1 1)) 21 (vS (H.heap.size+1) 1 1))=T2 at h2 b1 t20 t21;generalize(CI (CI C 20 (237,1,1,[vP v 0])) 21 (3,1,1,[I t]))=C2 at h2 b1 g5 g4;generalize((H.alloc (.cells #[vP v 0] 237)).alloc (.cells #[I t] 3))=W3 at h2 e7⊢;generalize H.heap.size=bi at h2 t20 t21 e7⊢
  cases a1:DI (x.l.filter fun y=>decide (y≠t)) s1 m o k with
  |none=>rw[a1] at d;cases d
  |some i1=>
  rw[a1] at d;have⟨s2,m2,o2,k2⟩:=i1;simp only at d;have⟨A,cap,hA,b9,_⟩:=h2.lits a8;rw[c5] at hA b9;have a4:∀j,W3.heap.size<=j->j∉(MS ds).map (·.1):=fun j hj hm=>by have:=h2.obs_lt hm;omega
  have h4:w0.heap.size<=W3.heap.size:=h2.st.size;refine Ae (Bd ?_);refine Rb (A:=A) (cap:=cap) (gc:=v) (lit:=t) (l:=x.l) (b:=bi) rfl oK b9
   (lO B p S w0 (MS ds) e M P O Z U bi c v t x.l (s2,m2,o2,k2)) (fun _=>False) (fun r W z=>?_) (fun r=>?_) ⟨fun _ _ _ _ h=>h.elim⟩ (fun ob b3=>?_)
   (fun y=>[qv 1 v,qv 2 M,qv 4 P,qv 6 O,qv 7 Z,qv 8 U,(9,I t),(11,I y)]) (fun y Q' W hh=>?_) (fun y r W z hl hd=>?_) (fun W z hd=>?_) (fun W hf=>hf.elim)
  .have⟨s3,m3,o3,k3,T3,C3,z⟩:=z;have⟨x3,c9,c3⟩:=z.cl;have⟨h8,i6,_,g1,q0,_⟩:=z.loc.rep.clA c9;rw[hP] at g1;obtain rfl:v=h8:=by injection g1 with G;injection G with G;injection G with G
   rw[hA] at q0;refine⟨z.loc.cell 20 z.t20 (by rw[z.c20];rfl),z.loc.cell 21 z.t21 (by rw[z.c21];rfl),q0,fun j y hj=>?_⟩;have⟨A3,i3,g3,_,q1⟩:=z.loc.lits c9;rw[c3] at q1;have⟨g,q2,q3⟩:=q1 j y hj;rw[hA] at g3;injection g3 with e3;exact⟨g,e3.trans q2,q3⟩
  .refine⟨fun W kk ob b3 z hk ho hc=>?_⟩;have⟨s3,m3,o3,k3,T3,C3,z⟩:=z;exact⟨s3,m3,o3,k3,T3,C3,(Loc.abides oO oO (a4 _ oO) (a4 _ oO)).put W kk ob b3 z.loc hk ho hc,z.lv,z.t20,z.c20,z.t21,z.c21,z.cl,z.run⟩
  .refine⟨s1,m,o,k,T2,C2,h2.below (((Below.refl _ _).alloc (Ai _) _).alloc oS _),b1,t20,g5,t21,g4,⟨x1,a8,c5⟩,a1⟩
  ·
   refine B8 [] [1,2,4,6,7,8,9,11] [qv 1 v,qv 2 M,qv 4 P,qv 6 O,qv 7 Z,qv 8 U,(9,I t),(11,I y)]<|hh
  .exact ZT he hl hd oO oO oO (a4 _ oO) (a4 _ oO) z
  .have⟨s3,m3,o3,k3,T3,C3,z⟩:=z;have hr:=z.run;unfold DI at hr;have hr:=Ah hr;injection hr with e3 hr;injection hr with e4 hr;injection hr with e5 e6;subst e3 e4 e5 e6;have h5:=z.loc.mark hd rfl h4 (a4 _ oO);have g8:(W3.heap.size,Obj.deferred (some []))::MS ds=MS (W3.heap.size::ds):=rfl;rw[g8] at h5;split at d
   .cases d
   rename_i j h3;split at d
   .cases d
   rename_i l g7;refine BN (Ae (BV (L':=[qv 1 v,qv 2 M,qv 4 P,(5,I 0),qv 6 O,qv 7 Z,qv 8 U,(9,I t),(10,N i)])<|Ad<|Xc h5 he z.lv h3 hi fun w5 h6 i5=>Ae ?_));split at d
   .cases d
   rename_i hk0;have h0:k3<=lim:=by rcases GN _ a1 with h9|h9<;>omega
   refine Xp h6 he z.lv g7 oO h0 (fun e1 w6 T6 C6 h7 b0=>?_) fun g9=>?_
   .subst e1;rw[if_pos rfl] at d;have hr:=Ah d;injection hr with e3 hr;injection hr with e4 hr;injection hr with e5 e6;subst e3 e4 e5 e6;exact QY rfl (Tx nX (Ck (BV (hQ _ _ _ _ h7 b0))))
   .rw[if_neg g9] at d
    cases a9:s3.Y[B7 l]? with
    |none=>rw[a9] at d;cases d
    |some y=>
    cases y with
    |none=>rw[a9] at d;cases d
    |some c1=>
    rw[a9] at d;simp only at d;have a6:∃a7,E6 S c1=vP a7 0:=by
     cases n with
     |zero=>cases d
     |succ n=>
      unfold DF at d
      cases a6:s3.K[c1]? with
      |none=>rw[a6] at d;cases d
      |some x1=>
       have⟨g,_,_,q,_⟩:=h6.rep.clA a6;exact⟨g,q⟩
    have⟨a7,g2⟩:=a6;refine⟨c1,a7,rfl,g2,fun w6 T6 C6 h7 b0=>BN (My (DV n) ⟨_,s3,c1,a7,l,j,m3,o3,k3- 1,T6,C6,rfl,rfl,h7,b0,g2,d,oO,oO⟩)⟩
 cases a5:x.Q with
 |true=>
  rw[a5] at o1;have C6:Aj [(ad v 1,bT)] W:= .cons o1 .nil;refine Fi [(3,.c 0)] [1,2,4,5,6,7,8,9,10,32] [qv 1 v,qv 2 M,qv 4 P,(5,I 0),qv 6 O,qv 7 Z,qv 8 U,(9,I t),(10,N i),(32,bT)] C6<|Ae (Bg rfl ?_);have o2:=h.cell 2 R.t2 (j:=0) (u:=vP e 0) (by rw[R.c2];rfl);have⟨_,_,e9,_⟩:=h.rep.engF he;have e0:IntKind.i64.wrap (x.X+s.J)=G2 (x.X+s.J):=J7 _;have⟨h1,g6⟩:=h.rep.drew.putClAct a2 hC (G2 (x.X+s.J));have C7:Aj [(ad v 3,I x.X),(ad M 0,vP e 0),(ad e 9,I s.J)] W.drew:= .cons o3 (.cons o2 (.cons e9 .nil));refine Dr [11] (Gi [(3,.c 0),(4,.c 1),(7,.c 2),(8,.e (I (G2 (x.X+s.J))))] 0 11) [.one 11] [1,2,4,5,6,7,8,9,10,41,43] [(41,I (G2 (x.X+s.J))),(43,vP v 3)] (Bo (vJ e0)) C7<|Cz (I (G2 (x.X+s.J))) o3 (i2 3)<|BG [1,2,4,5,6,7,8,9,10] ?_;have a3:{s with K:=s.K.set c {x with X:=G2 (x.X+s.J)}}=s1:=by rw[<-e8];unfold Hb;rw[a5];rfl
  rw[a3] at h1;exact Ae (b5 _ (h.drew.E h1 g6))
 |false=>
  rw[a5] at o1;have C6:Aj [(ad v 1,bF)] W:= .cons o1 .nil;refine Fi [(3,.c 0)] [1,2,4,5,6,7,8,9,10,32] [qv 1 v,qv 2 M,qv 4 P,(5,I 0),qv 6 O,qv 7 Z,qv 8 U,(9,I t),(10,N i),(32,bF)] C6 ?_;have a3:s=s1:=by rw[<-e8];unfold Hb;rw[a5];rfl
  rw[a3] at h;exact Ae (B1 rfl (AZ (Ae (Eu (b5 _ h)))))
def ci:Sh:= .seq (.reg 30) (.seq (.cond (.tmp 144) .skip (.exit 6)) (.seq (.block 7 (.seq (.reg 31) (.seq (.reg 32) (.cond (.tmp 150) (.reg 33) .skip)))) (.reg 34)))
def cj:Sh:= .seq (.reg 36) (.seq (.cond (.tmp 159) .skip (.exit 8)) (.seq (.block 9 (.seq (.reg 37) (.reg 38))) (.reg 39)))
def cm:Sh:= .seq (.seq (.reg 41) (.cond (.tmp 172) .skip (.exit 10))) (.seq (.block 11 (.seq (.reg 43) (.seq (.reg 44) (.cond (.tmp 188) (.seq (.reg 45) (.reg 46)) .skip)))) (.reg 42))
def cu:Sh:= .seq (.seq (.reg 35) (.block 8 (.loop cj))) (.seq (.seq (.reg 40) (.block 10 (.loop cm))) (.seq (.reg 47) .ret))
def ir:Sh:= .seq (.seq (.reg 29) (.block 6 (.loop ci))) cu
def cx:Sh:= .seq (.reg 24) (.seq (.reg 25) (.seq (.reg 26) (.seq (.reg 27) (.seq (.reg 28) ir))))
theorem JU:∀(r:List Int) {s a:St} {m c:List Nat} {o b:List Int} {k d:Nat},DI r s m o k=some (a,c,b,d)->o.length<=lim->b.length<=lim/\a.Y=s.Y
 |[],_,_,_,_,_,_,_,_,h,ho=>by unfold DI at h;injection h with h;injection h with g h;injection h with _ h;injection h with h _;rw[<-h,<-g];exact⟨ho,rfl⟩
 |x::r,s,a,m,c,o,b,k,d,h,ho=>by
  unfold DI at h;split at h
  case h_2=>cases h
  split at h
  .exact JU r h ho
  split at h
  .cases h
  rename_i j;split at h
  case h_2=>cases h
  rename_i i f;have e:=(Vc f).Y;split at h
  .have:=JU r h ho;exact⟨this.1,this.2.trans e⟩
  .have:=JU r h oT;exact⟨this.1,this.2.trans e⟩
theorem MD:∀(f:Nat) {s d:St} {c:Nat} {a l:Int} {i:Nat} {m j:List Nat} {o e:List Int} {k:Nat},DF f s c a i m o k=some (d,j,e,l)->o.length<=lim->e.length<=lim/\d.Y=s.Y
 |0,_,_,_,_,_,_,_,_,_,_,_,h,_=>by cases h
 |f+1,s,d,c,a,l,i,m,j,o,e,k,h,ho=>by
  unfold DF at h;split at h
  .cases h
  rename_i x g;split at h
  .cases h
  rename_i q t r u b;have⟨q1,q2⟩:=JU _ b ho;have q2:=q2.trans (Hp.X g).Y;split at h
  .cases h
  split at h
  .cases h
  split at h
  .cases h
  split at h
  .have h:=Ah h;injection h with p h;injection h with _ h;injection h with n _;subst p n;exact⟨q1,q2⟩
  .split at h
   .have:=MD f h q1;exact⟨this.1,this.2.trans q2⟩
   .cases h
structure LM (b2 b13 b14 bm:Nat) (r:List Int) (T:Nat->Value) (C:Nat->Cn):Prop where
 t13:T 13=vS b13 1 1
 c13:C 13=(134,1,1,[.map (some bm)])
 t14:T 14=vS b14 1 1
 c14:C 14=(177,1,1,[.func (.func 202) #[] #[vP b13 0,vP b2 0,vP b14 0]])
 c50:C 50=(3,1,r.length,r.map I)
theorem Wz {B:Nat} {p:Px} {s:St} {S:Sl} {w0 w:World} {T:Nat->Value} {C:Nat->Cn} {ds:List Nat} {D:List Deferred} {e c0 M b4 b6 b7 b8 G k l go_ co A:Nat} {ob:Obj} {o f:List Int} {m:List Nat} {R x0:Int} {A5 AA:Option Addr} {Q:EO} [BZ Q]
 (h:Loc B p s S S w0 w T C ((l,ob)::MS ds)) (he:S .E=vS e 1 c0) (t:LV e M b4 b6 b7 b8 o m 0 T (CI C 40 (3,1,o.length+1,I 0::o.map I))) (hm:LM M G k l [-R] T C) (b0:T 40=vS go_ (o.length+1) (co+1)) (a6:C 40=(3,1,o.length+1,I x0::o.map I)) (a9:0<o.length->AA=some (ad go_ 1))
 (a7:T 50= .slice A5 1 A) (hK:∃n,E5 w l n (kf fun _=>none)) (a8:s.Y.length<=lim) (b5:o.length<=lim) (b:KT s deepest o (fun _=>none) [-R]=some f)
 (hQ:∀w1 H J g A' c',Loc B p s S S w0 w1 H J ((l,g)::MS ds)->H 50= .slice A' f.length c'->J 50=(3,1,f.length,f.map I)->(∀i,i≠50->H i=T i/\J i=C i)->GK D f104 (fun a w=>Q .normal a w) [qv 2 M,qv 4 b4,(5,I 0),qv 6 b6,(15,.slice A' f.length c')] w1):
 GS none D f104 (.block 6 (.loop ci)) Q [qv 2 M,qv 4 b4,(5,I 0),qv 6 b6,qv 14 k,(15,.slice A5 1 A),(141,.slice AA o.length co),(142,N o.length),(143,N 0)] w:=by
 have b1:=MO (B:=B) (p:=p) (bm:=l) (b2:=M) (b13:=G) (b14:=k) he a8 deepest 0 oD;refine Bd ?_;refine Ct (fun n L W=>∃i r K H J g A5 A,L=[qv 2 M,qv 4 b4,(5,I 0),qv 6 b6,qv 14 k,(15,.slice A5 r.length A),(141,.slice AA o.length co),(142,N o.length),(143,N i)]/\i<=o.length/\n=o.length-i/\Loc B p s S S w0 W H J ((l,g)::MS ds)/\H 50= .slice A5 r.length A/\J 50=(3,1,r.length,r.map I)/\(∀i,i≠50->H i=T i/\J i=C i)/\r.length<=i+1/\(∃n,E5 W l n (kf K))/\(∀z,K z≠none->B7 z<s.Y.length)/\KT s deepest (o.drop i) K r=some f) (n:=o.length)
  ⟨0,[-R],_,T,C,ob,A5,A,rfl,oO,oO,h,a7,hm.c50,fun _ _=>⟨rfl,rfl⟩,oS,hK,fun z hz=>absurd rfl hz,b⟩ ?_
 rintro n L W ⟨i,r,K,H,J,g,A5,A,rfl,hi,rfl,h,Z,y,d,b3,hK,a1,b⟩;refine Ad ?_;by_cases a4:i<o.length
 .have q1:(i:Int)<(o.length:Int):=oO;refine Be [(0,.T)] [2,4,5,6,14,15,141,142,143,144] [(144,bT)] (Bo (EE q1))<|Ae (Ad<|Bg rfl (AZ (Ae (Ad (Bd (Ad ?_))))));obtain rfl:=a9 oO;obtain⟨x,hx⟩:∃x,o[i]?=some x:=⟨_,Ab a4⟩;have hd:o.drop i=x::o.drop (i+1):=by
   have⟨_,h2⟩:=Aa.1 hx;rw[Co a4,h2]
  rw[hd] at b;have ox:=h.cell 40 ((d 40 oD).1.trans b0) (j:=1+i) (u:=I x) (by rw[(d 40 oD).2,a6,Nat.add_comm 1 i];simp[hx]);have q2:i<maxLen:=by unfold lim maxLen at*;omega
  have C0:Aj [(ad go_ (1+i),I x)] W:= .cons ox .nil;refine BA [(1,.c 0)] [2,4,5,6,14,15,17,141,142,143] [(17,I x),(141,.slice (some (ad go_ 1)) o.length co)] (Bo (oO:oX i o.length)) C0<|Ae (Ad ?_);unfold KT at b
  cases v:ER s deepest K x with
  |none=>rw[v] at b;cases b
  |some q=>
  have⟨bt,K2⟩:=q;rw[v] at b;have a0:LV e M b4 b6 b7 b8 o m 0 H (CI J 40 (3,1,o.length+1,I 0::o.map I)):=by
   refine⟨?_,?_,?_,?_,?_,?_,?_,?_,?_,?_,AB _ _ _,?_⟩
   .rw[(d 2 oD).1];exact t.t2
   .rw[Au _ _ oD,(d 2 oD).2];have:=t.c2;rwa [Au _ _ oD] at this
   .rw[(d 4 oD).1];exact t.t4
   .rw[Au _ _ oD,(d 4 oD).2,(d 40 oD).1];have:=t.c4;rwa [Au _ _ oD] at this
   .rw[(d 6 oD).1];exact t.t6
   .rw[Au _ _ oD,(d 6 oD).2,(d 60 oD).1];have:=t.c6;rwa [Au _ _ oD] at this
   .rw[(d 7 oD).1];exact t.t7
   .rw[Au _ _ oD,(d 7 oD).2];have:=t.c7;rwa [Au _ _ oD] at this
   .rw[(d 8 oD).1];exact t.t8
   .rw[Au _ _ oD,(d 8 oD).2];have:=t.c8;rwa [Au _ _ oD] at this
   .rw[Au _ _ oD,(d 60 oD).2];have:=t.c60;rwa [Au _ _ oD] at this
  have hE:IE B p s S W l e M G k:=⟨h.rep,(h.mkS (q:=(l,g)) oS).1,h.cell 2 a0.t2 (by have:=a0.c2;rw[Au _ _ oD] at this;rw[this];rfl),h.cell 13 ((d 13 oD).1.trans hm.t13) (by rw[(d 13 oD).2,hm.c13];rfl),h.cell 14 ((d 14 oD).1.trans hm.t14) (by rw[(d 14 oD).2,hm.c14];rfl),⟨g,(h.mks.2 (l,g) oS).1,(h.mks.2 (l,g) oS).2.1⟩⟩;have call:=b1 W K K2 x bt hE hK a1 v;have C1:Aj [(ad k 0,.func (.func 202) #[] #[vP G 0,vP M 0,vP k 0])] W:= .cons hE.o14 .nil;refine AY [Cu 0 2 [(0,.c 0)],.one 2,AM 3 1]<|DO [2,4,5,6,14,15,17,141,142,143,147,148] [(147,.func (.func 202) #[] #[vP G 0,vP M 0,vP k 0]),(148,I x)] C1<|BW 149 (call.mono ?_);rintro en W2 ⟨rfl,m2,s2,g2⟩;refine⟨_,rfl,.inl oK,?_⟩;have⟨n2,U⟩:=m2;have⟨O,a3,a2⟩:=U.obj;have h2:=h.kept g2 a3 a2;have a5:o.length-(i+1)<o.length-i:=oO
  cases bt with
  |true=>
   refine AN [2,4,5,6,14,15,17,141,142,143,150] [(150,bF)]<|AK<|Ae (B1 rfl (AZ (BN (Ae<|Be [(0,.e (N (i+1)))] [2,4,5,6,14,15,141,142,143] [(143,N (i+1))] (Bo (vJ (Ec q2 rfl)))<|BF a5 ⟨i+1,r,K2,H,J,O,A5,A,rfl,oO,rfl,h2,Z,y,d,oO,⟨n2,U⟩,s2,b⟩))))
  |false=>
   refine AN [2,4,5,6,14,15,17,141,142,143,150] [(150,bT)]<|AK ?_;have⟨A',c',w3,er,h3⟩:=h2.appI 50 Z y x oO;refine Ae (Bg rfl<|AY [AM 0 2,.one 2,.one 3,AM 4 1]<|AN [2,4,5,6,14,15,17,141,142,143,151,152] [(151,.slice A5 r.length A),(152,I x)]<|Fa 153 25 3 (I x) (.int .i64 0) oK oK oK oK oK oK (.inr rfl) rfl (.inl oK)<|DY 154 25 25 (.slice A5 r.length A) (vS W2.heap.size 1 1) oK oK oK oK er (.inl oK)<|AN [2,4,5,6,14,15,17,141,142,143] [(15,.slice A' (r.length+1) c')]<|AK<|BN (Ae<|Be [(0,.e (N (i+1)))] [2,4,5,6,14,15,141,142,143] [(143,N (i+1))] (Bo (vJ (Ec q2 rfl))) ?_));have g3:w3.heap[l]?=some O:=(h3.mks.2 (l,O) oS).1;have P:(r++[x]).length=r.length+1:=oS;refine BF a5 ⟨i+1,r++[x],K2,_,_,O,A',c',by rw[P];rfl,oO,rfl,h3,by rw[AB,P],by rw[AB,P];simp,fun j hj=>?_,by rw[P];omega,⟨n2,U.keep (g3.trans a3.symm)⟩,s2,b⟩;rw[Au _ _ hj,Au _ _ hj];exact d j hj
 .have q1:¬(i:Int)<(o.length:Int):=oO;refine Be [(0,.F)] [2,4,5,6,14,15,141,142,143,144] [(144,bF)] (Bo (Er q1))<|Ae (Ad ?_);have b9:i=o.length:=oO;rw[Ew oO] at b;unfold KT at b;obtain rfl:=Ah b;exact B1 rfl (BQ (Bc nX (B6 nX (Ck (BV (hQ W H J g A5 A h Z y d))))))
theorem Wg {B:Nat} {p:Px} {s v:St} {S:Sl} {r w:World} {T:Nat->Value} {C:Nat->Cn} {J:List (Nat×Obj)} {D:List Deferred} {e c0 o M q:Nat} {m:List Nat} {P:Option Addr} {O:Value} {Q:EO} [BZ Q]
 (h:Loc B p s S S r w T C J) (he:S .E=vS e 1 c0) (t2:T 2=vS o 1 1) (c2:C 2=(136,1,1,[vP e 0])) (t60:T 60= .slice P m.length q) (g:C 60=(3,1,m.length,m.map N)) (d:Gq m s=some v)
 (hQ:∀R,Loc B p v S S r R T C J->GK D f104 (fun a w=>Q .normal a w) [qv 2 o,qv 4 M,(5,I 0),(15,O)] R):
 GS none D f104 (.block 8 (.loop cj)) Q [qv 2 o,qv 4 M,(5,I 0),(15,O),(156,.slice P m.length q),(157,N m.length),(158,N 0)] w:=by
 refine Bd<|Ct (fun n L W=>∃i s,L=[qv 2 o,qv 4 M,(5,I 0),(15,O),(156,.slice P m.length q),(157,N m.length),(158,N i)]/\i<=m.length/\n=m.length-i/\Loc B p s S S r W T C J/\Gq (m.drop i) s=some v) (n:=m.length) ⟨0,s,rfl,oO,oO,h,d⟩ ?_;rintro n L W ⟨i,s,rfl,hi,rfl,h,d⟩;refine Ad ?_;by_cases k:i<m.length
 .have q1:(i:Int)<(m.length:Int):=oO;refine Be [(0,.T)] [2,4,5,15,156,157,158,159] [(159,bT)] (Bo (EE q1))<|Ae (Ad<|Bg rfl (AZ (Ae (Ad (Bd (Ad ?_))))));have⟨g6,a2,f,_,l,a1⟩:=h.formSome 60 (by rw[g];show 0<m.length;omega);rw[g] at f l;simp only at f l;rw[t60] at f;injection f with hA _ hc;subst hA hc;obtain⟨x,Y⟩:∃x,m[i]?=some x:=⟨_,Ab k⟩;have hd:m.drop i=x::m.drop (i+1):=by
   have⟨_,G⟩:=Aa.1 Y;rw[Co k,G]
  rw[hd] at d;unfold Gq at d;split at d
  case isFalse=>cases d
  rename_i z;have ox:=h.cell 60 t60 (j:=i) (u:=N x) (by rw[g];simp[Y]);have q2:i<maxLen:=oO;have o2:=h.cell 2 t2 (j:=0) (u:=vP e 0) (by rw[c2];rfl);have⟨Z,cs,hS,H,_,_,rS,fS,le,ls⟩:=h.rep.seenA he oO;obtain⟨bv,A⟩:∃b,s.U[x]?=some b:=⟨_,Ab z⟩;have y:=rS x _ A;have C0:Aj [(ad g6 i,N x)] W:= .cons ox .nil;refine BA [(1,.c 0)] [2,4,5,15,19,156,157,158] [(19,N x),(156,vS g6 m.length q)] (Bo (oO:oX i m.length)) C0<|Ae ?_;have C1:Aj [(ad o 0,vP e 0),(ad e 16,vS Z s.U.length cs)] W:= .cons o2 (.cons H .nil);refine AY [Cu 0 6 [(0,.c 0),(3,.c 1)],.one 6]<|E3 [2,4,5,15,19,156,157,158,167] [(167,vP Z x)] (Bo (oO:oX x s.U.length)) C1<|Cz bF y (fS x)<|BG [2,4,5,15,19,156,157,158] ?_;have⟨h1,t⟩:=h.rep.putSeen hS x false;have G:=h.E h1 t;refine BN (Ae<|Be [(0,.e (N (i+1)))] [2,4,5,15,156,157,158] [(158,N (i+1))] (Bo (vJ (Ec q2 rfl)))<|BF oO ⟨i+1,_,rfl,oO,rfl,G,d⟩)
 .have q1:¬(i:Int)<(m.length:Int):=oO;refine Be [(0,.F)] [2,4,5,15,156,157,158,159] [(159,bF)] (Bo (Er q1))<|Ae (Ad ?_);have a0:i=m.length:=oO;rw[Ew oO] at d;unfold Gq at d;obtain rfl:=Ah d;exact B1 rfl (BQ (Bc nX (B6 nX (Ck (BV (hQ W h))))))
theorem Wh {B:Nat} {p:Px} {s:St} {S:Sl} {w0 w:World} {T:Nat->Value} {C:Nat->Cn} {bs:List (Nat×Obj)} {D:List Deferred} {e c0 Y b4 U lv:Nat} {g l:List Int} {A5:Option Addr} {Q:EO} [BZ Q]
 (h:Loc B p s S S w0 w T C bs) (he:S .E=vS e 1 c0) (t2:T 2=vS Y 1 1) (c2:C 2=(136,1,1,[vP e 0])) (t50:T 50= .slice A5 g.length U) (o:C 50=(3,1,g.length,g.map I)) (d:Fy s g.length g 1 0=some (l,lv))
 (hQ:∀w1 A,Loc B p s S S w0 w1 T A bs->l.length=g.length->A 50=(3,1,g.length,l.map I)->(∀i,i≠50->A i=C i)->GK D f104 (fun a w=>Q .normal a w) [qv 2 Y,qv 4 b4,(5,N lv),(15,.slice A5 g.length U)] w1):
 GS none D f104 (.block 10 (.loop cm)) Q [qv 2 Y,qv 4 b4,(5,N 0),(15,.slice A5 g.length U),(20,N 1)] w:=by
 refine Bd<|Ct (fun n L W=>∃i t G A,L=[qv 2 Y,qv 4 b4,(5,N G),(15,.slice A5 g.length U),(20,N i)]/\1<=i/\n=g.length+1-i/\t.length=g.length/\Loc B p s S S w0 W T A bs/\A 50=(3,1,g.length,t.map I)/\(∀i,i≠50->A i=C i)/\Fy s n t i G=some (l,lv)) (n:=g.length) ⟨1,g,0,C,rfl,oO,oO,rfl,h,o,fun _ _=>rfl,d⟩ ?_;rintro n L W ⟨i,t,G,A,rfl,hi,hn,R,h,o,hs,d⟩;refine Ad (Ad ?_);by_cases a8:i<g.length
 .have q1:(i:Int)<(g.length:Int):=oO;refine Be [(3,.T)] [2,4,5,15,20,172] [(172,bT)] (Bo (EE q1))<|Ae (Bg rfl (AZ (Ae (Ad (Bd (Ad ?_))))));obtain⟨f,rfl⟩:∃f,n=f+1:=⟨n- 1,oO⟩;have⟨z,b1,J,_,b0,a9⟩:=h.formSome 50 (by rw[o];show 0<g.length;omega);have r:=t50;rw[t50] at J;injection J with hA _ hc;subst hA hc;have a0:i<t.length:=oO;obtain⟨x,hx⟩:∃x,t[i]?=some x:=⟨_,Ab a0⟩;obtain⟨y,hy⟩:∃y,t[1]?=some y:=⟨_,Ab oO⟩;unfold Fy at d;rw[hx] at d;simp only at d;obtain⟨v,P⟩:∃v,v=B7 x:=⟨_,rfl⟩;rw[<-P] at d;split at d
  .cases d
  rename_i k Z;have a4:v<s.H.length:=(Aa.1 Z).1;have⟨gv,cv,hV,e3,a7,a6,rV,fV,_,a5⟩:=h.rep.levelA he oO;have o2:=h.cell 2 t2 (j:=0) (u:=vP e 0) (by rw[hs 2 oD,c2];rfl);have a3:=rV _ _ Z;have ox:=h.cell 50 t50 (j:=i) (u:=I x) (by rw[o];simp[hx]);have oy:=h.cell 50 t50 (j:=1) (u:=I y) (by rw[o];simp[hy]);have q2:i<maxLen:=oO;have OF:∀W',Cg 43 #[I x] W' fun en M=>en= .returned (N v)/\W'=M:=fun W'=>P▸FT x (by rw[<-P];omega) W'
  have C0:Aj [(ad Y 0,vP e 0),(ad e 3,vS gv s.H.length cv),(ad gv v,N k),(ad z i,I x)] W.drew:= .cons o2 (.cons e3 (.cons a3 (.cons ox .nil)));refine Dr (O:=[0<=(i:Int)/\(i:Int)<(g.length:Int),(∀M,CR (some (Aj [(ad Y 0,vP e 0),(ad e 3,vS gv s.H.length cv),(ad gv v,N k),(ad z i,I x)])) W.drew M->Cg 43 #[I x] M fun en a2=>en=Ending.returned (N v)/\M=a2),0<=(v:Int)/\(v:Int)<(s.H.length:Int)]) [] (Gi [(0,.c 0),(3,.c 1),(7,.c 3),(8,.q (N v)),(10,.c 2)] 0 12) [] [2,4,5,15,20,21] [(15,vS z g.length U),(21,N k)] ⟨oO,(fun M _=>OF M),oO,trivial⟩ C0<|AK<|Ae (Ad ?_);have h:=h.drew;by_cases a1:G<k
  .have q3:(G:Int)<(k:Int):=oO;refine Be [(2,.T)] [2,4,5,15,20,21,188] [(188,bT)] (Bo (EE q3)) ?_;rw[if_pos a1,hy] at d;refine Ae (Bg rfl (Ad<|B8 [] [2,4,5,15,20] [(5,N k)]<|Ae ?_));have C1:Aj [(ad z i,I x),(ad z 1,I y)] W.drew.drew:= .cons ox (.cons oy .nil);have h2:=h.drew.put 50 r 1 (I x);have oz:∃u,(W.drew.drew.setCell (ad z 1) (I x)).cell? (ad z i)=some u:=by
    obtain⟨u,hu⟩:∃u,((t.map I).set 1 (I x))[i]?=some u:=⟨_,Ab oT⟩;exact⟨u,h2.cell 50 r (by rw[AB,o];exact hu)⟩
   have⟨uz,oz⟩:=oz;have h3:=h2.put 50 r i (I y);refine Dr [11,13] [(0,.p),(3,.p),(4,.p),(5,.p),(6,.c 0),(7,.p),(8,.p),(9,.c 1),(10,.p)] [.ps [(1,.p),(2,.p)],.one 11,.ps [(12,.p)],.one 13] [2,4,5,15,20,196,199,200] [(196,I x),(199,I y),(200,vP z 1)] (NW (oO:oX i g.length) (oO:oX 1 g.length) (oO:oX 1 g.length)) C1<|Fh (O:=[]) [2,4,5,15,20,191,192,196,199,200] [(191,vS z g.length U),(192,N i)] trivial<|Cz (I x) oy (h.drew.free 50 r 1)<|Fh [2,4,5,15,20,199,201] [(201,vP z i)] (Bo (oO:oX i g.length))<|Cz (I y) oz (h2.free 50 r i)<|BG [2,4,5,15,20]<|BN (Ae<|Be [(1,.e (N (i+1)))] [2,4,5,15,20] [(20,N (i+1))] (Bo (vJ (Ec q2 rfl)))<|BF (m:=f) oO ⟨i+1,_,k,_,rfl,oO,oO,by simp[R],h3,?_,fun j hj=>?_,d⟩)
   .rw[AB,AB,o];simp[Dp]
   .rw[Au _ _ hj,Au _ _ hj];exact hs j hj
  .have q3:¬(G:Int)<(k:Int):=oO;refine Be [(2,.F)] [2,4,5,15,20,21,188] [(188,bF)] (Bo (Er q3)) ?_;rw[if_neg a1] at d;refine Ae (B1 rfl (AZ (BN (Ae<|Be [(1,.e (N (i+1)))] [2,4,5,15,20] [(20,N (i+1))] (Bo (vJ (Ec q2 rfl)))<|BF (m:=f) oO ⟨i+1,t,G,A,rfl,oO,oO,R,h,o,hs,d⟩))))
 .have q1:¬(i:Int)<(g.length:Int):=oO;refine Be [(3,.F)] [2,4,5,15,20,172] [(172,bF)] (Bo (Er q1)) ?_;have e1:t=l/\G=lv:=by
   cases n with
   |zero=>unfold Fy at d;have:=Ah d;injection this with a b;exact⟨a,b⟩
   |succ f=>
    unfold Fy at d;rw[BX oO] at d;have:=Ah d;injection this with a b;exact⟨a,b⟩
  obtain⟨rfl,rfl⟩:=e1;exact Ae (B1 rfl (BQ (Bc nX (B6 nX (Ck (BV (hQ W A h R o hs)))))))
theorem ME:∀{s:St} {i j:Nat},IF s i=some j->∃l,s.L[j]?=some l/\B7 l<s.U.length
 |_,0,_,h=>by cases h
 |s,i+1,j,h=>by
  unfold IF at h
  cases a:s.L[i]? with
  |none=>rw[a] at h;cases h
  |some l=>
  rw[a] at h;simp only at h
  cases c:s.U[B7 l]? with
  |none=>rw[c] at h;cases h
  |some b=>
  rw[c] at h
  cases b with
  |true=>obtain rfl:=Ah h;exact⟨l,a,(Aa.1 c).1⟩
  |false=>exact ME h
theorem K0:∀(f:Nat) {s b:St} {c:Nat} {a d:Int} {i:Nat} {m g:List Nat} {o e:List Int} {k:Nat},DF f s c a i m o k=some (b,g,e,d)->B7 d<b.U.length
 |0,_,_,_,_,_,_,_,_,_,_,_,h=>by cases h
 |f+1,s,b,c,a,d,i,m,g,o,e,k,h=>by
  unfold DF at h;split at h
  .cases h
  split at h
  .cases h
  split at h
  .cases h
  rename_i n;split at h
  .cases h
  rename_i l j;split at h
  .cases h
  split at h
  .have h:=Ah h;injection h with t h;injection h with _ h;injection h with _ r;subst t r;have⟨y,q,p⟩:=ME n;rw[q] at j;obtain rfl:=Ah j;exact p
  .split at h
   .exact K0 f h
   .cases h
theorem NI:∀(o:List Int) {s:St} {f:Nat} {K:Kn} {r a:List Int},KT s f o K r=some a->r.length<=a.length
 |[],_,_,_,_,_,h=>by unfold KT at h;rw[Ah h];exact Ai _
 |x::t,s,f,K,r,a,h=>by
  unfold KT at h;split at h
  .exact NI t h
  .have:=NI t h;simp at this;omega
  .cases h
theorem WD {B:Nat} {p:Px} {s y:St} {S:Sl} {J w:World} {T:Nat->Value} {C:Nat->Cn} {O:List (Nat×Obj)} {D:List Deferred} {e c0 t n A d v:Nat} {b l:List Int} {m:List Nat} {f:Option Addr} {u4:Value} {Q:EO} [BZ Q]
 (h:Loc B p s S S J w T C O) (L:S .E=vS e 1 c0) (t2:T 2=vS t 1 1) (M:C 2=(136,1,1,[vP e 0])) (t4:T 4=vS n 1 1) (c4:C 4=(25,1,1,[u4])) (t6:T 6=vS A 1 1) (c6:C 6=(25,1,1,[T 60])) (q:C 60=(3,1,m.length,m.map N))
 (t50:T 50= .slice f b.length d) (k:C 50=(3,1,b.length,b.map I)) (o:Gq m s=some y) (g:Fy y b.length b 1 0=some (l,v))
 (Y:∀x G,Loc B p y S S J x T G O->l.length=b.length->G 50=(3,1,b.length,l.map I)->G 4=(25,1,1,[.slice f b.length d])->GK D f104 (fun a w=>Q .ret a w) [qv 4 n,(5,N v)] x):
 GS none D f104 cu Q [qv 2 t,qv 4 n,(5,I 0),qv 6 A,(15,.slice f b.length d)] w:=by
 refine Ad (Ad ?_);have⟨H,i,t60⟩:=h.form 60;rw[q] at t60;have P:=h.cell 6 t6 (j:=0) (u:= .slice H m.length i) (by rw[c6,t60];rfl);have C0:Aj [(ad A 0,.slice H m.length i)] w:= .cons P .nil;refine Fi [(0,.c 0)] [2,4,5,15,156,157,158] [qv 2 t,qv 4 n,(5,I 0),(15,.slice f b.length d),(156,.slice H m.length i),(157,N m.length),(158,I 0)] C0<|Ae (Wg h L t2 M t60 q o fun x h1=>Ae (Ad (Ad<|B8 [] [2,4,5,15,20] [(20,I 1)]<|BV (L':=[qv 2 t,qv 4 n,(5,N 0),(15,.slice f b.length d),(20,N 1)]) (Ae (Wh h1 L t2 M t50 k g fun w2 C2 z U k R=>Ae (Ad ?_))))));have r:C2 4=(25,1,1,[u4]):=(R 4 oD).trans c4;refine AY [AM 0 2,.one 2,AM 3 1]<|AN [2,4,5,15,202,203] [qv 2 t,qv 4 n,(5,N v),(15,.slice f b.length d),(202,.slice f b.length d),(203,N v)]<|Cz (.slice f b.length d) (z.cell 4 t4 (j:=0) (u:=u4) (by rw[r];rfl)) (z.free 4 t4 0)<|AN [4,5] []<|AK ?_;have Z:=z.put 4 t4 0 (.slice f b.length d);refine Ae (Br (BV (Y _ _ Z U (by rw[Au _ _ oD];exact k) ?_)));rw[AB,r];rfl
theorem WE {B:Nat} {p:Px} {s s2:St} {S:Sl} {w0 w:World} {T:Nat->Value} {C:Nat->Cn} {ds:List Nat} {D:List Deferred} {e c0 z v b6 b7 b8 lv:Nat} {o d l:List Int} {m:List Nat} {b:Int} {Q:EO} [BZ Q]
 (h:Loc B p s S S w0 w T C (MS ds)) (he:S .E=vS e 1 c0) (f:LV e z v b6 b7 b8 o m 0 T C) (a4:s.Y.length<=lim) (a6:o.length<=lim) (M:B7 b<s.U.length)
 (t:KT s deepest o (fun _=>none) [-b]=some d) (L:Gq m s=some s2) (x:Fy s2 d.length d 1 0=some (l,lv))
 (hQ:∀n T' C' k r c',Loc B p s2 S S w0 n T' C' ((k,r)::MS ds)->l.length=d.length->0<d.length->(∃A,T' 50= .slice A d.length c'/\C' 4=(25,1,1,[.slice A d.length c']))->C' 50=(3,1,d.length,l.map I)->T' 4=vS v 1 1->GK D f104 (fun a w=>Q .ret a w) [qv 4 v,(5,N lv)] n):
 GS none D f104 cx Q [qv 2 z,qv 4 v,(5,I 0),qv 6 b6,(9,I b)] w:=by
 refine Ad ?_;have⟨gs,cs,_,_,b9,a3,_,_,_,_⟩:=h.rep.seenA he oO;have qb:IntKind.i64.wrap (-b)=-b:=by
  unfold B7 at M;unfold maxLen at a3;exact Bb _ oO
 have⟨g,co,t40,_,a0,c3⟩:=h.formSome 40 (by rw[f.c40];show 0<o.length+1;omega);rw[f.c40] at t40 a0;simp only at t40 a0;obtain⟨co,rfl⟩:∃c,co=c+1:=⟨co- 1,oO⟩;have J:=h.cell 4 f.t4 (j:=0) (u:=vS g (o.length+1) (co+1)) (by rw[f.c4,t40];rfl);have h1:=h.put 40 t40 0 (I (-b));have e1:((C 40).1,(C 40).2.1,(C 40).2.2.1,(C 40).2.2.2.set 0 (I (-b)))=((3,1,o.length+1,I (-b)::o.map I):Cn):=by rw[f.c40];rfl
 rw[e1] at h1;have C0:Aj [(ad v 0,vS g (o.length+1) (co+1))] w:= .cons J .nil;refine AY [Cu 0 4 [(0,.c 0),(2,.e (I (-b)))],.one 4]<|E3 [2,4,5,6,132,133] [qv 2 z,qv 4 v,(5,I 0),qv 6 b6,(132,I (-b)),qv 133 g] (EP (vJ qb) (oO:oX 0 ((o.length+1:Nat):Int))) C0<|Cz (I (-b)) (h.cell 40 t40 (j:=0) (u:=I 0) (by rw[f.c40];rfl)) (h.free 40 t40 0)<|BG [2,4,5,6]<|Ae (Ad ?_);generalize(w.setCell (ad g 0) (I (-b)))=n at h1⊢;have Z:=(h1.below ((Below.refl n.heap.size n).alloc (Ai _) (.map #[] 0))).mark (heap_alloc_new n _) rfl h1.st.size (fun hm=>by have:=h1.obs_lt hm;omega);have m2:E5 (n.alloc (.map #[] 0)) n.heap.size 0 (fun _=>none):=E5.made n;generalize a8:n.heap.size=k at Z m2;generalize a7:(Obj.map #[] 0)=r at Z m2;refine AY [.one 0,.one 1,.one 2]<|OK 134 oK oK oK oK (.inl oK) ?_;rw[a8,a7];generalize(n.alloc r)=w2 at Z m2⊢;have h3:=Z.new 13 134 (.map none);refine FX 13 134 (.map none) oK oK oK oK (.inl oK) ?_;have G:=h3.put 13 (AB _ _ _) 0 (.map (some k));refine Cz (.map (some k)) (h3.cell 13 (AB _ _ _) (j:=0) (u:= .map none) (by rw[AB];rfl)) (h3.free 13 (AB _ _ _) 0)<|BG [2,4,5,6,13]<|Ae (Ad ?_);rw[AB] at G;generalize b3:w2.heap.size=i at G⊢;have hk:((w2.alloc (.cells #[.map none] 134)).setCell (ad i 0) (.map (some k))).heap[k]?=some r:=(G.mks.2 (k,r) oS).1;have m4:=m2.keep (w':=(w2.alloc (.cells #[.map none] 134)).setCell (ad i 0) (.map (some k))) (hk.trans (Z.mks.2 (k,r) oS).1.symm);generalize((w2.alloc (.cells #[.map none] 134)).setCell (ad i 0) (.map (some k)))=w4 at G m4⊢;have R:=G.new 14 177 .nilFunc;refine AY [.one 0]<|FX 14 177 (.nilFunc) oK oK oK oK (.inl oK)<|BG [2,4,5,6,13,14]<|Ae (Ad ?_);have y:=R.put 14 (AB _ _ _) 0 (.func (.func 202) #[] #[vP i 0,vP z 0,vP w4.heap.size 0]);have x5:=R.cell 14 (AB _ _ _) (j:=0) (u:= .nilFunc) (by rw[AB];rfl);have f5:=R.free 14 (AB _ _ _) 0;generalize b1:w4.heap.size=q at R y x5 f5⊢;have k6:=(y.mks.2 (k,r) oS).1;have m6:=m4.keep (k6.trans (G.mks.2 (k,r) oS).1.symm);generalize(w4.alloc (.cells #[.nilFunc] 177))=w5 at R y x5 f5 m6 k6⊢;refine AY [AM 0 1,.one 1]<|AN [2,4,5,6,13,14,135] [qv 14 q,(135,.func (.func 202) #[] #[vP i 0,vP z 0,vP q 0])]<|Cz (.func (.func 202) #[] #[vP i 0,vP z 0,vP q 0]) x5 f5<|BG [2,4,5,6,13,14]<|Ae (Ad ?_);generalize(w5.setCell (ad q 0) (.func (.func 202) #[] #[vP i 0,vP z 0,vP q 0]))=w6 at y m6 k6⊢;have J:=y.cell 4 f.t4 (j:=0) (u:=vS g (o.length+1) (co+1)) (by show(C 4).2.2.2[0]?=_;rw[f.c4,t40];rfl);have a2:=y.cell 40 t40 (j:=0) (u:=I (-b)) rfl;have P:=y.new 50 3 (I (-b));have k7:=(P.mks.2 (k,r) oS).1;have m7:=m6.keep (k7.trans k6.symm);have C6:Aj [(ad v 0,vS g (o.length+1) (co+1)),(ad g 0,I (-b))] w6:= .cons J (.cons a2 .nil);refine AY [Cu 0 3 [(0,.c 0),(2,.c 1)],.one 3,AM 4 1]<|E3 [2,4,5,6,13,14,138] [(138,I (-b))] (Bo (oO:oX 0 ((o.length+1:Nat):Int))) C6<|Fa 139 25 3 (I (-b)) (.int .i64 0) oK oK oK oK oK oK (.inr rfl) rfl (.inl oK)<|AN [2,4,5,6,13,14,15] [(15,vS w6.heap.size 1 1)]<|AK<|Ae (Ad (Ad ?_));generalize c1:w6.heap.size=b5 at P⊢;generalize(w6.alloc (.cells #[I (-b)] 3))=w7 at P m7 k7⊢;have J:=P.cell 4 f.t4 (j:=0) (u:=vS g (o.length+1) (co+1)) (by show(C 4).2.2.2[0]?=_;rw[f.c4,t40];rfl);have C7:Aj [(ad v 0,vS g (o.length+1) (co+1))] w7:= .cons J .nil;refine BA (O:=[0<=(1:Int)/\(1:Int)<=((o.length+1:Nat):Int)]) [(0,.c 0)] [2,4,5,6,13,14,15,141,142,143] [(15,vS b5 1 1),(141,.slice (Gn (some (ad g 0)) 1 (co+1) 1) ((o.length+1)- 1) ((co+1)- 1)),(142,N ((o.length+1)- 1)),(143,I 0)] ⟨oO,trivial⟩ C7<|Ae (Eu (Wz (A5:=some (ad b5 0)) (AA:=Gn (some (ad g 0)) 1 (co+1) 1) P he ⟨f.t2,f.c2,f.t4,?_,f.t6,f.c6,f.t7,f.c7,f.t8,f.c8,rfl,f.c60⟩ ⟨rfl,rfl,rfl,rfl,rfl⟩ t40 (x0:=-b) rfl ?_ rfl ⟨0,m7⟩ a4 a6 t ?_))
 .exact f.c4
 .intro ho;unfold Gn;rw[if_neg oO];rfl
 .intro w8 T8 C8 a1 A8 c8 h8 t8 a9 hs;have q2:=hs 2 oD;have q4:=hs 4 oD;have q6:=hs 6 oD;have H:=hs 60 oD;have a5:0<d.length:=Bx (Nat.succ_pos 0:0<[-b].length) (NI _ t);refine Ae (WD (u4:=T 40) h8 he (q2.1.trans f.t2) (q2.2.trans f.c2) (q4.1.trans f.t4) (q4.2.trans f.c4) (q6.1.trans f.t6) ((q6.2.trans f.c6).trans ?_) (H.2.trans f.c60) t8 a9 L x fun w9 C9 h9 hl b0 c4=>hQ w9 T8 C9 k a1 c8 h9 hl a5 ⟨A8,t8,c4⟩ b0 (q4.1.trans f.t4));rw[H.1];rfl
end Go.Proofs.YtboflajfckfphaaGreatDoor
