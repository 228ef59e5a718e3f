/- A part of the proof of TopBudgetHonest. -/
import Derived.OwnWalkIn
import Derived.RangeFuncBound
import Derived.RangeFuncNested
import Derived.TacticsInMore
import Derived.Test.YtboflajfckfphaaGreatDoorB
set_option linter.all false
namespace Go.Proofs.YtboflajfckfphaaGreatDoor
open Go.RowKit Bud
section
section
variable{P:Program} (w:World)
theorem K6 (t z e:TypeId) (i:TypeInfo) (D:P.underlying t=some (.slice e)) (H:P.info? e=some i) (d:i.size=1) (g k cap:Nat) (f:Array Value) (x:w.heap[g]?=some (.cells f e (0,0)))
  (S:Nat->Prop) (A:Option Addr) (m c:Nat) (b:List Value) (v:Reads w S 1 A m b) (R:∀u∈b,u.oneCell'=true) (r:k+m<=cap) (J:cap<=f.size):
  ∃W,(Builtin.append_ #[t,t] z #[vS g k cap,.slice A m c]).run P w= .ok (vS g (k+m) cap) W/\
   W.heap[g]?=some (.cells (f.toList.take k++b++f.toList.drop (k+m)).toArray e (0,0))/\w.grownBy W (some g):=by
 have G:b.length=m:=by have:=v.1;omega
 rcases A with _|ad
 .have O:m=0:=by
   rcases D6 m with y|y
   .exact y
   .have⟨ad,h,_⟩:=v.2 y;cases h
  subst O;have M:b=[]:=BY G;subst M;refine⟨w,?_,?_,World.grownBy.refl w _⟩
  .simp[Builtin.append_,run_underlying D,sizeOf,typeInfo,H,Builtin.lenOf,Builtin.firstCells,storeCells];omega
  .rw[x];simp
 .have l:∀j u,b[j]?=some u->w.cell? (ad.add j)=some u:=by
   intro j u C;have Y:=(Aa.1 C).1;have⟨U,h,_,Q⟩:=v.2 oO;injection h with h;subst h;exact Q j u C
  have o:=run_append_room w t z e i D H g k cap f x ad m c b (by rw[d];omega) l R r (by rw[d];omega);rw[d,Nat.mul_one,G] at o;exact⟨_,o,setRow_heap w g f _ e _ x,⟨rfl,rfl,rfl,oS,fun q _ L=>setRow_other w g q _ (fun e=>L (by rw[e]))⟩⟩
end
section
variable{B:Nat} {p:Px} {s s':St} {S S':Sl} {w w':World} {e c0:Nat}
variable{K g n cap:Nat} {a:List Nat}
theorem Rep.rowCells (h:Rep B p s S w) (j:s.W[K]?=some a) (i:S (.row K)= vS g n cap):
  ∃b:Array Value,w.heap[g]?=some (.cells b 237 (0,0))/\b.size=cap/\n=a.length/\n<=cap/\cap<=maxLen/\b.toList.take n=a.map (E6 S):=by
 have d:=h.rowOwn j;rw[i] at d;rcases d.2 with⟨c,_⟩|⟨t,f,b,c,r,q,o,m,l,k⟩
 .cases c
 .grind
theorem Rep.rowPut (h:Rep B p s S w) {d:List Nat} (r:s.W[K]?=some a) (j:S (.row K)= vS g n cap) (y:d.length=a.length) {c:Array Value} {W:World}
  (z:W.heap[g]?=some (.cells c 237 (0,0))) (u:c.size=cap) (l:c.toList.take n=d.map (E6 S)) (i:w.grownBy W (some g)):Rep B p {s with W:=s.W.set K d} S W/\Step S S w W:=by
 have⟨G,_,_,o,v,x,_⟩:=h.rowCells r j;have A:K<s.W.length:=(Aa.1 r).1;have q:=h.lo (by rw[j];rfl);refine⟨h.upd (R:=fun t=>t= .row K) i.size (fun t k=>⟨rfl,?_⟩) (fun t b k f=>?_) (fun t k=>?_) (fun t _ b f=> .inl f) (fun t H b D C m=>absurd (D.trans C.symm) m),?_⟩
 .cases t<;>first|rfl|skip
  .simp[cont]
  .rename_i J;simp only[cont];rw[AI (fun e=>k (by rw[e]))]
 .refine i.block b (h.lo f).2 (fun e=>?_);injection e with e;subst e;exact h.apart t (.row K) b k f (by rw[j];rfl)
 .subst k;unfold Ba;simp only[cont,AD A];refine⟨oS,.inr ⟨g,cap,c,by rw[j];congr 1;omega,q.1,z,oO,x,oO,?_⟩⟩;rw[Nat.mul_one,y,<-o];exact l
 .refine⟨i.os,i.tape,i.output,i.size,fun b f o=>i.block b f (fun e=>?_),fun t b f=> .inl ⟨t,f⟩⟩;injection e with e;subst e;exact o (.row K) (by rw[j];rfl)
theorem Rep.turnRow (h:Rep B p s S w) {o v G:Nat} (C:S .W= vS o v G) (k:Nat) (f:s.W[k]?=some a) (c:List Nat) (u:Value) (d:World)
  (j:d.ownsRow B 237 1 u c.length (c.map (E6 S))) (z:w.grownBy d (S (.row k)).ownBlock) (A:∀b,u.ownBlock=some b->(S (.row k)).ownBlock=some b∨w.heap.size<=b):
  Rep B p {s with W:=s.W.set k c} (Dq S (.row k) u) (d.setCell (ad o k) u)/\Step S (Dq S (.row k) u) w (d.setCell (ad o k) u):=by
 have l:k<s.W.length:=(Aa.1 f).1;refine h.turn C oS k _ d ?_ z A ?_ ?_
 .unfold Ba;simp only[cont,AD l];exact j
 .intro t r D;cases t<;>first|rfl|exact absurd rfl r|exact absurd rfl D|skip
  rename_i H;simp only[cont];rw[AI (fun e=>r (by rw[e]))];rfl
 .simp only[cont,Jy,Prod.mk.injEq,true_and];apply EM;intro i;by_cases m:i=k
  .subst m;rw[AD (by simpa using l)];simp[Dq,l]
  .rw[AI (fun e=>m e.symm)];rw[Bz,Bz]
   cases x:(List.range s.W.length)[i]? with
   |none=>rfl
   |some y=>
    have:y=i:=by
     have⟨J,q⟩:=Aa.1 x;rw[List.getElem_range] at q;exact q.symm
    subst this;simp[Dq,m]
theorem ZF {b:Type} (l:List b) (k n:Nat) (u:b) (f:k<n) (d:n<=l.length):(l.take k++[u]++l.drop (k+1)).take n=(l.take n).set k u:=by
 have c:l.set k u=l.take k++[u]++l.drop (k+1):=by
  rw[List.set_eq_take_append_cons_drop,if_pos oO];simp
 rw[<-c,List.take_set]
theorem Rep.keepRow (h:Rep B p s S w) {k c:Nat} (i:s.W[K]?=some a) (f:S (.row K)= vS g n cap) (l:k<n) {b:Array Value} {W:World}
  (o:w.heap[g]?=some (.cells b 237 (0,0))) (q:W.heap[g]?=some (.cells (b.toList.take k++[E6 S c]++b.toList.drop (k+1)).toArray 237 (0,0))) (m:w.grownBy W (some g)):
  Rep B p {s with W:=s.W.set K (a.set k c)} S W/\Step S S w W:=by
 have⟨j,d,x,v,u,t,r⟩:=h.rowCells i f;rw[o] at d;injection d with d;injection d with d;subst d;refine h.rowPut i f oS q ?_ ?_ m
 .grind
 .rw[List.toList_toArray,ZF _ _ _ _ l oT,r,Dp]
end
end
end Go.Proofs.YtboflajfckfphaaGreatDoor
section

end
namespace Go.Proofs.YtboflajfckfphaaGreatDoor
open Go.RowKit Bud Go
theorem Uz {P:Program} {a:Act} {w b:World} {K:Act->World->Prop} {Q:Exit->Act->World->Prop} {o:Oper} (d:o.dst=none) (h:(execOp a.eval o).run P w= .ok .skip b) (c:K a b):o.wp P a w K Q:=by
 simp only[Oper.wp,h,Oper.upon,d];exact c
theorem Tb {P:Program} {a:Act} {w b:World} {K:Act->World->Prop} {Q:Exit->Act->World->Prop} {o:Oper} (v:Value) (d:Tmp) (e:o.dst=some d) (h:(execOp a.eval o).run P w= .ok (.value v) b) (c:K (a.put (some d) v) b):o.wp P a w K Q:=by
 simp only[Oper.wp,h,Oper.upon,e];exact c
end Go.Proofs.YtboflajfckfphaaGreatDoor
namespace Go.Proofs.YtboflajfckfphaaGreatDoor
open Go.RowKit Go
section
variable{P:Program} {l:Array Oper} {Q:Exit->Act->World->Prop} {m:Region.Mode} {S:World->Prop}
def AnyM (P:Program) (m:Region.Mode) (l:Array Oper) (Q:Exit->Act->World->Prop) (S:World->Prop) (c:List Nat):Nat->Array Bool->Act->World->Prop
 |0,g,a,w=>Region.ready m l g=[]/\Q .normal a w
 |f+1,g,a,w=>(Region.ready m l g=[]->Q .normal a w)/\
  ∀i∈Region.ready m l g,wpOp P l Q i (fun d b=>(c.contains i=true∨(S w->S b))/\AnyM P m l Q S c f (g.setIfInBounds i true) d b) a w
variable{Ls:List Nat}
theorem AnyM.any:∀(f:Nat) {g:Array Bool} {a:Act} {w:World},AnyM P m l Q S Ls f g a w->wpAny P m l Q f g a w
 |0,_,_,_,h=>h
 |f+1,_,_,_,h=>⟨h.1,fun i b=>wpOp_mono (fun _ _ k=>AnyM.any f k.2) (h.2 i b)⟩
def Oo (m:Region.Mode) (l:Array Oper):Nat->Nat->Nat->Bool
 |0,_,_=>false
 |f+1,L,i=>match l[L]? with
  |some o=>o.after.any fun e=>Region.binds m e&&(e.on==i||Oo m l f e.on i)
  |none=>false
def Oq (m:Region.Mode) (l:Array Oper) (b:List Nat) (i:Nat):Bool:=b.all fun L=>Oo m l 6 L i
def Shut (m:Region.Mode) (l:Array Oper) (g:Array Bool):Prop:=∀(k:Nat) (o:Oper),l[k]?=some o->g.getD k false=true->∀e∈o.after,Region.binds m e=true->g.getD e.on false=true
def V3 (m:Region.Mode) (l:Array Oper) (g:Array Bool):Bool:=(List.range l.size).all fun k=>match l[k]? with
 |some o=>!g.getD k false||o.after.all fun e=>!Region.binds m e||g.getD e.on false
 |none=>true
variable{g:Array Bool}
theorem Shut.of (h:V3 m l g=true):Shut m l g:=by
 intro k o b c e d j;have:=Bi.1 h k (Ks.2 (Ak.1 b).1);rw[b] at this;simp only[c,Bool.not_true,Bool.false_or] at this;have:=(Array.all_eq_true'.1 this) e d;simpa[j] using this
theorem SV {j k:Nat} (h:g.getD k false=true):(g.setIfInBounds j true).getD k false=true:=by
 rw[AS] at h⊢;by_cases e:j=k
 .grind
 .grind
theorem Shut.put {j:Nat} {n:Oper} (h:Shut m l g) (s:l[j]?=some n) (c:∀e∈n.after,Region.binds m e=true->g.getD e.on false=true):Shut m l (g.setIfInBounds j true):=by
 intro k o b p e q r;by_cases d:j=k
 .subst d;rw[s] at b;injection b with b;subst b;exact SV (c e q r)
 .refine SV (h k o b ?_ e q r);rw[AS] at p⊢
  rwa [DJ d] at p
theorem If {g:Array Bool} (h:Shut m l g) {i:Nat}:∀(f L:Nat) (o:Oper),l[L]?=some o->(∀e∈o.after,Region.binds m e=true->g.getD e.on false=true)->Oo m l f L i=true->g.getD i false=true
 |0,_,_,_,_,hw=>by cases hw
 |f+1,L,o,ho,hall,hw=>by
  unfold Oo at hw;rw[ho] at hw;have⟨e,k,d⟩:=Array.any_eq_true'.1 hw;simp only[AE,Cv,beq_iff_eq] at d;rcases d.2 with b|b
  .rw[<-b];exact hall e k d.1
  .have n:=hall e k d.1
   cases c:l[e.on]? with
   |none=>
    cases f with
    |zero=>cases b
    |succ f=>unfold Oo at b;rw[c] at b;cases b
   |some j=>exact If h f e.on j c (h e.on j c n) b
theorem AnyM.early {i:Nat} {y:Oper} {v:Value} (Y:l[i]?=some y) (d:∀(j:Nat) (o:Oper) G b,l[j]?=some o->o.op≠ .select G b) (hQ:∀c a w,Q (.panic c) (a.put y.dst v) w->Q (.panic c) a w) (hL:Oq m l Ls i=true):
  ∀(f:Nat) (g:Array Bool) (a:Act) (w:World),Shut m l g->
   (∀j r,l[j]?=some r->j≠i->g.getD j true=false->(∀e∈r.after,Region.binds m e=true->e.on≠i)->y.apart l r=true)->
   i∈Region.ready m l g->Gives P l S y v a->S w->AnyM P m l Q S Ls f (g.setIfInBounds i true) (a.put y.dst v) w->AnyM P m l Q S Ls (f+1) g a w
 |f,g,a,w,hsh,hap,hr,hy,hS,H=>by
  refine⟨fun h=>(by rw[h] at hr;cases hr),fun j hj=>?_⟩;by_cases p:j=i
  .subst p;exact hy.step Y hS ⟨.inr fun h=>h,H⟩
  .have x:=ready_mono hj p
   cases f with
   |zero=>
    rw[H.1] at x;cases x
   |succ f=>
    have⟨un,r,n,C⟩:=mem_ready.1 hj;have h0:=(mem_ready.1 hr).1;have s:g.getD i false=true->False:=by
     intro z;by_cases O:i<g.size
     .rw[AS,DK O] at h0 z;simp at h0 z;rw[h0] at z;cases z
     .rw[AS,CW oO] at z;cases z
    have t:∀e∈r.after,Region.binds m e=true->g.getD e.on false=true:=C;have u:∀e∈r.after,Region.binds m e=true->e.on≠i:=by
     intro e he hb Z;exact s (Z▸t e he hb)
    have R:¬(Ls.contains j=true):=by
     intro e;have:=Bi.1 hL j (by simpa using e);exact s (If hsh _ j r n t this)
    refine wpOp_mono (fun b w2 k=>?_) (Gives.past n (hap j r n p un u) (fun G b=>d i y G b Y) (fun G b=>d j r G b n) hQ hy (H.2 j x));have⟨k1,k2,k3⟩:=k;have U:i∈Region.ready m l (g.setIfInBounds j true):=ready_mono hr (Ne.symm p);rw[GA _ _ (Ne.symm p)] at k3;have D:S w->S w2:=k2.resolve_left R;refine⟨.inr D,AnyM.early Y d hQ hL f _ b w2 (hsh.put n t) ?_ U k1 (D hS) k3⟩;intro q oq L J A M;refine hap q oq L J ?_ M;by_cases B:j=q
    .subst B;exact un
    .rw[getD_set_ne true B] at A;exact A
def B5 (l:Array Oper) (i:Nat):Oper:=(l[i]?).getD default
variable{i:Nat}
theorem F6 (h:(l[i]?).isSome=true):l[i]?=some (B5 l i):=by
 unfold B5
 cases b:l[i]? with
 |none=>rw[b] at h;cases h
 |some o=>rfl
variable{f:Nat} {a:Act} {w:World}
theorem AnyM.take (i:Nat) (v:Value) (d:Tmp) (e:(l[i]?).isSome=true) (j:(B5 l i).dst=some d)
  (b:(Region.noSelect l&&Region.free m l g i&&(Region.ready m l g).contains i&&Oq m l Ls i&&V3 m l g)=true) (o:∀c a w,Q (.panic c) (a.put (some d) v) w->Q (.panic c) a w) (n:S w) (k:Gives P l S (B5 l i) v a)
  (h:AnyM P m l Q S Ls f (g.setIfInBounds i true) (a.put (some d) v) w):AnyM P m l Q S Ls (f+1) g a w:=by
 simp only[AE] at b;have e:=F6 e;exact AnyM.early e (Region.noSelect_spec b.1.1.1.1) (j.symm▸o) b.1.2 f g a w (Shut.of b.2) (Region.free_spec e b.1.1.1.2) (by simpa using b.1.1.2) k n (j.symm▸h)
theorem AnyM.one (i:Nat) (b:(l[i]?).isSome=true) (d:Region.ready m l g=[i]) (n:Region.wanted (B5 l i) (yielded l a.tmps)=true)
  (h:Oper.wp P (B5 l i) a w (fun o c=>(Ls.contains i=true∨(S w->S c))/\AnyM P m l Q S Ls f (g.setIfInBounds i true) o c) Q):AnyM P m l Q S Ls (f+1) g a w:=by
 have b:=F6 b;refine⟨fun k=>(by rw[d] at k;cases k),fun j e=>?_⟩;rw[d] at e;obtain rfl:j=i:=by simpa using e
 simp only[wpOp,b,n,if_true];exact .inl h
theorem AnyM.store (i:Nat) {c:World} (j:(l[i]?).isSome=true) (e:Region.ready m l g=[i]) (d:Region.wanted (B5 l i) (yielded l a.tmps)=true) (n:Ls.contains i=true) (k:(B5 l i).dst=none)
  (b:(execOp a.eval (B5 l i)).run P w= .ok .skip c) (h:AnyM P m l Q S Ls f (g.setIfInBounds i true) a c):AnyM P m l Q S Ls (f+1) g a w:=
 AnyM.one i j e d (Uz k b ⟨.inl n,h⟩)
theorem AnyM.V (i:Nat) (v:Value) (d:Tmp) {c:World} (k:(l[i]?).isSome=true) (j:Region.ready m l g=[i]) (e:Region.wanted (B5 l i) (yielded l a.tmps)=true) (o:Ls.contains i=true) (n:(B5 l i).dst=some d)
  (b:(execOp a.eval (B5 l i)).run P w= .ok (.value v) c) (h:AnyM P m l Q S Ls f (g.setIfInBounds i true) (a.put (some d) v) c):AnyM P m l Q S Ls (f+1) g a w:=
 AnyM.one i k j e (Tb v d n b ⟨.inl o,h⟩)
theorem AnyM.done (b:Act) (d:Region.ready m l g=[]) (c:a=b) (h:Q .normal b w):AnyM P m l Q S Ls f g a w:=by
 subst c
 cases f with
 |zero=>exact⟨d,h⟩
 |succ f=>exact⟨fun _=>h,fun i e=>by rw[d] at e;cases e⟩
theorem AnyM.start {id:Nat} (b:P.follows .mixedOrders=true) (c:List Nat) (S:World->Prop) (h:AnyM P .any l Q S c l.size (Array.replicate l.size false) a w.drew):(Code.region id l true).wp P Q a w:=
 wp_region_any b (AnyM.any _ h)
end
section
abbrev Sts:=List (Nat×Value)
def lk:Sts->Nat->Option Value
 |[],_=>none
 |(d,v)::r,t=>bif Nat.beq d t then some v else lk r t
def Has (N:Nat) (D:List Deferred) (L:Sts) (a:Act):Prop:=a.tmps.size=N/\a.defers=D/\∀t v,lk L t=some v->a.tmps[t]?=some v
def ev (L:Sts):Operand->Option Value
 | .tmp t=>lk L t
 | .const v=>some v
 | .global g=>some (vP g 0)
 | .func f=>some (.func (.func f) #[] #[])
def I6 (L:Sts) (x:Operand):Value:=(ev L x).getD undef
section
variable{N:Nat} {D:List Deferred} {L L':Sts} {a:Act}
theorem Has.val (h:Has N D L a) {x:Operand} {v:Value} (b:ev L x=some v):a.eval x=v:=by
 cases x with
 |tmp t=>
  have:=h.2.2 t v b;show a.tmps.getD t undef=v;rw[AS,this];rfl
 |const u=>injection b
 |global g=>injection b
 |func f=>injection b
theorem Has.put (h:Has N D L a) {d:Nat} (f:d<N) (v:Value):Has N D ((d,v)::L) (a.put (some d) v):=by
 refine⟨by simp[Act.put,h.1],h.2.1,fun t u b=>?_⟩;unfold lk at b;by_cases e:d=t
 .subst e;rw[Fx] at b;injection b with b;subst b;simp[Act.put,h.1,f]
 .have c:Nat.beq d t=false:=by
   cases c:Nat.beq d t with
   |true=>exact absurd (Bh c) e
   |false=>rfl
  rw[c] at b;have:=h.2.2 t u b;simp only[Act.put];rw[DJ e];exact this
theorem Zw:∀{L:Sts} {t:Nat} {v:Value},lk L t=some v->(t,v)∈L
 |[],_,_,h=>by cases h
 |(d,u)::r,t,v,h=>by
  unfold lk at h
  cases b:Nat.beq d t with
  |true=>
   rw[b] at h;injection h with h;subst h;rw[Bh b];simp
  |false=>
   rw[b] at h;exact Dk _ (Zw h)
theorem Has.sub (h:Has N D L a) (c:L'.map (fun p=>lk L p.1)=L'.map fun p=>some p.2):Has N D L' a:=by
 refine⟨h.1,h.2.1,fun t v b=>h.2.2 t v ?_⟩;have d:=Zw b;have⟨i,e,f⟩:=List.mem_iff_getElem.1 d;have:=congrArg (·[i]?) c;simp only[Bz,Ab e,f,Bf,A0] at this;exact this
def Jl (L:Sts) (o:Oper):Bool:=(match o.op with| .select _ _=>false|_=>true)&&o.op.operands.toList.all fun x=>(ev L x).isSome
theorem Has.exec (h:Has N D L a) {o:Oper} (c:Jl L o=true):execOp a.eval o=execOp (I6 L) o:=by
 unfold Jl at c;simp only[AE] at c;refine execOp_congr o (fun g b e=>?_) fun x f=>?_
 .rw[e] at c;cases c.1
 .have:=Bi.1 c.2 x (by simpa using f)
  cases d:ev L x with
  |none=>rw[d] at this;cases this
  |some v=>rw[h.val d];unfold I6;rw[d];rfl
end
abbrev Cells:=List (Addr×Value)
def Aj (C:Cells) (w:World):Prop:=∀p∈C,w.cell? p.1=some p.2
def F9:List Prop->Prop
 |[]=>True
 |p::r=>p/\F9 r
theorem F9.app:∀{A B:List Prop},F9 (A++B)->F9 A/\F9 B
 |[],_,h=>⟨trivial,h⟩
 |_::_,_,h=>⟨⟨h.1,(F9.app h.2).1⟩,(F9.app h.2).2⟩
def Du (o n:Nat):Nat:=bif Nat.beq o 0 then n else o+n
theorem DG (o n:Nat):Du o n=o+n:=by
 unfold Du
 cases h:Nat.beq o 0 with
 |true=>rw[Bh h];simp
 |false=>rfl
def Zx:Addr->Nat->Option Addr
 |⟨b,o,none⟩,n=>some ⟨b,Du o n,none⟩
 |_,_=>none
theorem Ti {ad c:Addr} {n:Nat} (h:Zx ad n=some c):ad.add n=c:=by
 have⟨b,o,s⟩:=ad
 cases s with
 |some _=>cases h
 |none=>
  injection h with h;subst h;unfold Addr.add;rw[DG];split
  .rename_i d;subst d;rfl
  .rfl
def Gn (a:Option Addr) (l c z:Nat):Option Addr:=if c=l then a else a.map (·.add (l*z))
theorem Tj (a:Option Addr) (c z:Nat):Gn a 0 c z=a:=by
 unfold Gn;split
 .rfl
 .cases a<;>simp[Addr.add]
def gM (n z:Nat):Nat:=bif Nat.beq z 1 then n else n*z
theorem cB (n z:Nat):gM n z=n*z:=by
 unfold gM
 cases h:Nat.beq z 1 with
 |true=>rw[Bh h];simp
 |false=>rfl
section
variable(P:Program)
def Tl (s f:Nat):Option Nat:=
 match P.underlying s with
 |some (.struct fields)=>match fields[f]? with
  |some b=>match P.info? b.type with
   |some i=>bif Nat.beq i.size 0 then none else some b.offset
   |none=>none
  |none=>none
 |_=>none
def JM (t:Nat):Option Nat:=
 match P.underlying t with
 |some (.slice e)=>(P.info? e).map (·.size)
 |_=>none
def cD (t:Nat):Bool:=
 match P.underlying t with
 |some (.struct _)=>false
 |some (.array _ _)=>false
 |some _=>true
 |none=>false
def KJ (f:Nat):Bool:=
 match P.funcs[f]? with
 |some b=>!(b.name== "runtime.NumGoroutine")&&b.body.isSome
 |none=>false
def cE (t:Nat):Bool:=
 match P.underlying t with
 |some (.pointer _)=>true
 |_=>false
theorem Zy {t:Nat} {q:Option Addr} (h:cE P t=true) (w:World):(Op.equal t (.pointer q) (.pointer none)).run P w= .ok q.isNone w:=by
 unfold cE at h;split at h
 case h_2=>cases h
 rename_i e b;unfold Op.equal Op.maxDepth Op.equalIn;cases q<;>simp[run_underlying b]
def eqK (j k:IntKind):Bool:=match j,k with
 | .i8,.i8| .i16,.i16| .i32,.i32| .i64,.i64| .u8,.u8| .u16,.u16| .u32,.u32| .u64,.u64=>true
 |_,_=>false
theorem K7 {j k:IntKind} (h:eqK j k=true):j=k:=by cases j<;>cases k<;>first|rfl|cases h
def dO:BinOp->IntKind->Int->Int->Option Value
 | .add,k,a,b=>some (.int k (k.wrap (a+b)))
 | .sub,k,a,b=>some (.int k (k.wrap (a-b)))
 | .mul,k,a,b=>some (.int k (k.wrap (a*b)))
 | .eql,_,a,b=>some (.bool (a==b))
 | .neq,_,a,b=>some (.bool (a !=b))
 | .lss,_,a,b=>some (.bool (decide (a<b)))
 | .leq,_,a,b=>some (.bool (decide (a<=b)))
 | .gtr,_,a,b=>some (.bool (decide (b<a)))
 | .geq,_,a,b=>some (.bool (decide (b<=a)))
 |_,_,_,_=>none
def V8 (L:Sts) (e:Op):Option (Value×List Prop):=
 match e with
 | .move x| .assign x=>(ev L x).map fun v=>(v,[])
 | .nilCheck x=>match ev L x with
  |some (.pointer (some ad))=>some (.pointer (some ad),[])
  |_=>none
 | .fieldAddr s x f=>match ev L x,Tl P s f with
  |some (.pointer (some ad)),some n=>match Zx ad n with
   |some d=>some (.pointer (some d),[])
   |none=>none
  |_,_=>none
 | .indexAddr t x i=>match ev L x,ev L i,JM P t with
  |some (.slice (some ad) n _),some (.int _ j),some z=>match Zx ad (gM j.toNat z) with
   |some d=>some (.pointer (some d),[0<=j/\j<(n:Int)])
   |none=>none
  |_,_,_=>none
 | .binOp e t x y _=>match ev L x,ev L y with
  |some (.int k a),some (.int k' b)=>bif eqK k k' then(dO e k a b).map fun v=>(v,[]) else none
  |some (.pointer q),some (.pointer none)=>bif cE P t then match e with
   | .eql=>some (.bool q.isNone,[])
   | .neq=>some (.bool (!q.isNone),[])
   |_=>none
   else none
  |_,_=>none
 | .unOp .neg _ x=>match ev L x with
  |some (.int k a)=>some (.int k (k.wrap (-a)),[])
  |_=>none
 | .unOp .not _ x=>match ev L x with
  |some (.bool b)=>some (.bool (!b),[])
  |_=>none
 | .extract x i=>match ev L x with
  |some (.tuple vs)=>(vs[i]?).map fun v=>(v,[])
  |_=>none
 | .slice t x (some y) none none=>match ev L x,ev L y,JM P t with
  |some (.slice a n c),some (.int _ j),some z=>some (.slice (Gn a j.toNat c z) (n-j.toNat) (c-j.toNat),[0<=j/\j<=(n:Int)])
  |_,_,_=>none
 | .slice t x none (some y) none=>match ev L x,ev L y,JM P t with
  |some (.slice a _ c),some (.int _ j),some _=>some (.slice a j.toNat c,[0<=j/\j<=(c:Int)])
  |_,_,_=>none
 | .pick c a b=>match ev L c with
  |some (.bool true)=>(ev L a).map fun v=>(v,[])
  |some (.bool false)=>(ev L b).map fun v=>(v,[])
  |_=>none
 | .makeFunc g first cap=>bif first.toList.all (fun x=>(ev L x).isSome)&&cap.toList.all (fun x=>(ev L x).isSome) then some (.func g (first.map (I6 L)) (cap.map (I6 L)),[]) else none
 | .call ⟨.builtin .len,args,tys⟩=>match args.toList,tys.toList with
  |[x],[t]=>match ev L x,JM P t with
   |some (.slice _ n _),some _=>some (.int .i64 (n:Int),[])
   |_,_=>none
  |_,_=>none
 |_=>none
end
section
variable{P:Program}
theorem Tm {N:Nat} {D:List Deferred} {L:Sts} {a:Act} (h:Has N D L a) {o:Oper} {v:Value} {O:List Prop} (d:V8 P L o.op=some (v,O)) (Q:F9 O) (w:World):(execOp a.eval o).run P w= .ok (.value v) w:=by
 have⟨a9,op,a7,a8,a5,guard⟩:=o;unfold V8 at d;simp only at d;split at d
 .rename_i x
  cases l:ev L x with
  |none=>rw[l] at d;cases d
  |some u=>
   rw[l] at d;injection d with d;injection d with d;subst d;simp[execOp,h.val l]
 .rename_i x
  cases l:ev L x with
  |none=>rw[l] at d;cases d
  |some u=>
   rw[l] at d;injection d with d;injection d with d;subst d;simp[execOp,h.val l]
 .rename_i x;split at d
  .rename_i ad l;injection d with d;injection d with d;subst d;simp[execOp,h.val l]
  .cases d
 .rename_i s x f;split at d
  .rename_i ad n l p;split at d
   case h_2=>cases d
   rename_i a6 r;injection d with d;injection d with d;subst d;unfold Tl at p;split at p
   case h_2=>cases p
   rename_i Z H;split at p
   case h_2=>cases p
   rename_i fd a4;split at p
   case h_2=>cases p
   rename_i i m
   cases g:Nat.beq i.size 0 with
   |true=>rw[g] at p;cases p
   |false=>
   rw[g] at p;injection p with p;subst p;have a2:i.size≠0:=fun e=>by rw[e] at g;cases g
   simp[execOp,Instr.fieldAt,run_underlying H,a4,h.val l,Instr.sureAddr,fieldPlace,sizeOf,typeInfo,m,a2,Ti r]
  .cases d
 .rename_i t x i;split at d
  case h_2=>cases d
  rename_i ad n c k j z l hj g;split at d
  case h_2=>cases d
  rename_i a6 r;injection d with d;injection d with C B;subst C B;unfold JM at g;split at g
  case h_2=>cases g
  rename_i e H
  cases m:P.info? e with
  |none=>rw[m] at g;cases g
  |some i2=>
  rw[m] at g;injection g with g;subst g;have r:=Ti r;rw[cB] at r;simp[execOp,Instr.indexAt,h.val l,h.val hj,asIntOf,run_underlying H,Q.1.1,Q.1.2,sizeOf,typeInfo,m,r]
 .rename_i op t x y _;split at d
  case h_3=>cases d
  case h_2=>
   rename_i q l G
   cases Y:cE P t with
   |false=>rw[Y] at d;cases d
   |true=>
   rw[Y] at d;simp only[cond_true] at d;split at d
   .injection d with d;injection d with d;subst d;simp[execOp,h.val l,h.val G,eqGuard,binOp,Zy P Y]
   .injection d with d;injection d with d;subst d;simp[execOp,h.val l,h.val G,eqGuard,binOp,Zy P Y]
   .cases d
  rename_i k a1 k' b1 l G
  cases J:eqK k k' with
  |false=>rw[J] at d;cases d
  |true=>
  rw[J] at d;have:=K7 J;subst this;cases op<;>simp only[dO,cond_true,Bf,Option.map_none,A0,Prod.mk.injEq,reduceCtorEq] at d<;>
   (obtain⟨rfl,_⟩:=d;simp[execOp,h.val l,h.val G,eqGuard,binOp,Op.intArith,Op.intCmp])
 .rename_i x;split at d
  case h_2=>cases d
  rename_i k a1 l;injection d with d;injection d with d;subst d;simp only[execOp,h.val l];simp[go_sem]
 .rename_i x;split at d
  case h_2=>cases d
  rename_i b l;injection d with d;injection d with d;subst d;simp only[execOp,h.val l];simp[go_sem]
 .rename_i x i;split at d
  case h_2=>cases d
  rename_i vs l
  cases hv:vs[i]? with
  |none=>rw[hv] at d;cases d
  |some u=>
  rw[hv] at d;injection d with d;injection d with d;subst d;simp[execOp,h.val l,Instr.extract,hv]
 .rename_i t x y;split at d
  case h_2=>cases d
  rename_i a1 n c k j z l G g;injection d with d;injection d with C B;subst C B;unfold JM at g;split at g
  case h_2=>cases g
  rename_i e H
  cases m:P.info? e with
  |none=>rw[m] at g;cases g
  |some i2=>
  rw[m] at g;injection g with g;subst g;simp[execOp,Instr.sliceAt,Instr.slice,Instr.sliceBounds,Instr.sliceBound,h.val l,h.val G,asIntOf,run_underlying H,Q.1.1,Q.1.2,sizeOf,typeInfo,m,Gn]
 .rename_i t x y;split at d
  case h_2=>cases d
  rename_i a1 n c k j z l G g;injection d with d;injection d with C B;subst C B;unfold JM at g;split at g
  case h_2=>cases g
  rename_i e H
  cases m:P.info? e with
  |none=>rw[m] at g;cases g
  |some i2=>
  rw[m] at g;injection g with g;subst g;have hs:=Tj a1 c i2.size;unfold Gn at hs;simp only[JS] at hs;simp[execOp,Instr.sliceAt,Instr.slice,Instr.sliceBounds,Instr.sliceBound,h.val l,h.val G,asIntOf,run_underlying H,Q.1.1,Q.1.2,sizeOf,typeInfo,m,hs]
 .rename_i c x y;split at d
  case h_3=>cases d
  .rename_i hc
   cases l:ev L x with
   |none=>rw[l] at d;cases d
   |some u=>
    rw[l] at d;injection d with d;injection d with d;subst d;simp[execOp,h.val hc,h.val l,asBool]
  .rename_i hc
   cases l:ev L y with
   |none=>rw[l] at d;cases d
   |some u=>
    rw[l] at d;injection d with d;injection d with d;subst d;simp[execOp,h.val hc,h.val l,asBool]
 .rename_i fn first cap
  cases J:(first.toList.all (fun x=>(ev L x).isSome)&&cap.toList.all (fun x=>(ev L x).isSome)) with
  |false=>rw[J] at d;cases d
  |true=>
  rw[J] at d;simp only[AE] at J;injection d with d;injection d with d;subst d;have hm:∀U:Array Operand,U.toList.all (fun x=>(ev L x).isSome)=true->U.map a.eval=U.map (I6 L):=fun U a3=>Array.map_congr_left fun y G=>by
   have:=Bi.1 a3 y (by simpa using G)
   cases d:ev L y with
   |none=>rw[d] at this;cases this
   |some v=>rw[h.val d];unfold I6;rw[d];rfl
  simp[execOp,Instr.makeFunc,hm _ J.1,hm _ J.2]
 .rename_i S a0;split at d
  case h_2=>cases d
  rename_i x t M R;split at d
  case h_2=>cases d
  rename_i A n c z l g;injection d with d;injection d with d;subst d;have ha:S=#[x]:=by
   apply Ch;simpa using M
  have hb:a0=#[t]:=by
   apply Ch;simpa using R
  subst ha hb;unfold JM at g;split at g
  case h_2=>cases g
  rename_i e H;simp only[execOp,resolve,E4,BI,D4,h.val l];simp[invoke,builtin,Builtin.len_,go_sem,run_underlying H]
 .cases d
end
end
section
def FR (r:Option Nat):Fence:={Fence.wide with round:=r}
section
variable{P:Program} {r:Option Nat} {o:Oper} {j f:Operand->Value} {w z:World}
variable{s:Array Value}
theorem ZA {n:Nat} {f:FuncId} {R:Ending->World->Prop}:CallsIn (FR r) n P f s w R↔Calls P f s w R:=callsIn_wide (n:=n)
theorem U9 {x:Next} (h:(execOp j o).run P w= .ok x z) (n:∀d,x≠ .defer d):(o.semAt r j).run P w= .ok x z:=by
 by_cases k:∃c,o.op= .defer c
 .have⟨c,b⟩:=k;unfold execOp at h;rw[b] at h;simp only[Ay] at h
  cases e:(resolve j c o.type).run P w with
  |ok d l=>
   rw[e] at h;simp at h;exact absurd h.1.symm (n d)
  |halt y l=>rw[e] at h;cases h
 .rw[Oper.semAt_eq r j o (fun c b=>k ⟨c,b⟩)];exact h
theorem Xl (p:∀u b,o.op≠ .select u b) (h:∀x∈o.op.operands,j x=f x):o.semAt r j=o.semAt r f:=by
 by_cases n:∃c,o.op= .defer c
 .have⟨c,k⟩:=n;have e:=resolve_congr c o.type (fun x q=>h x (by rw[k];exact q));have t:=execOp_congr o p h
  cases r with
  |none=>exact t
  |some l=>
   unfold Oper.semAt;rw[k];simp only[e]
 .rw[Oper.semAt_eq r j o (fun c k=>n ⟨c,k⟩),Oper.semAt_eq r f o (fun c k=>n ⟨c,k⟩)];exact execOp_congr o p h
theorem cN {m:Array Oper} (l:∀p b,o.op≠ .select p b) (a:Act) (c:Option Tmp) (v:Value) (h:∀d,c=some d->d∉o.looksAt m):o.semAt r (a.put c v).eval=o.semAt r a.eval:=
 Xl l fun x k=>Act.eval_put fun d n e=>h d n (by
  subst e;exact List.mem_append_left _ (List.mem_filterMap.2 ⟨.tmp d,by simpa using k,rfl⟩))
variable{a:Act} {K:Act->World->Prop} {Q:Exit->Act->World->Prop}
variable{v:Value}
theorem D8 (h:(execOp a.eval o).run P w= .ok (.value v) z) (b:K (a.put o.dst v) z):o.wpIn (FR r) 0 P a w K Q:=
 ⟨fun _ _=>trivial,by rw[show(FR r).round=r from rfl,U9 h (fun d e=>by cases e)];exact b⟩
theorem L8 (h:(execOp a.eval o).run P w= .ok .skip z) (b:K (a.put o.dst undef) z):o.wpIn (FR r) 0 P a w K Q:=
 ⟨fun _ _=>trivial,by rw[show(FR r).round=r from rfl,U9 h (fun d e=>by cases e)];exact b⟩
theorem Kj {f:FuncId} (h:(execOp a.eval o).run P w= .ok (.enter f s) z)
  (b:Calls P f s z fun| .returned v,w''=>K (a.put o.dst v) w''| .panicked c,w''=>Q (.panic c) a w''| .outgrown,_=>LetsOut Q):o.wpIn (FR r) 0 P a w K Q:=
 ⟨fun _ _=>trivial,by rw[show(FR r).round=r from rfl,U9 h (fun d e=>by cases e)];exact⟨fun h=>(by cases h),ZA.2 b⟩⟩
end
section
variable{P:Program} {m:Array Oper} {Q:Exit->Act->World->Prop} {d:Region.Mode} {S:World->Prop} {Ls:List Nat} {r:Option Nat}
def Fo (P:Program) (m:Array Oper) (S:World->Prop) (o:Oper) (v:Value) (a:Act):Prop:=
 Gives P m S o v a∨(Region.wanted o (yielded m a.tmps)=false/\v=undef)
variable{v:Value}
theorem Gives.wpR {o:Oper} {a:Act} {K:Act->World->Prop} {w:World} (h:Gives P m S o v a) (k:S w) (b:K (a.put o.dst v) w):o.wpIn (FR r) 0 P a w K Q:=by
 rcases h.2 w k with e|⟨f,s,e,c⟩
 .exact D8 e b
 .refine Kj e (c.mono ?_);rintro n l ⟨rfl,rfl⟩;exact b
variable{i:Nat}
theorem Fo.step {o:Oper} {a:Act} {K:Act->World->Prop} {w:World} (h:Fo P m S o v a) (b:m[i]?=some o) (e:S w) (c:K (a.put o.dst v) w):wpOpIn (FR r) 0 P m Q i K a w:=by
 rcases h with h|⟨l,k⟩
 .simp only[wpOpIn,b,h.1,if_true];exact h.wpR e c
 .subst k;simp only[wpOpIn,b,l];exact⟨fun _ _=>trivial,c⟩
theorem Fo.same {o:Oper} {v:Value} {a b:Act} (h:Fo P m S o v a) (e:execOp b.eval o=execOp a.eval o) (c:Region.wanted o (yielded m b.tmps)=Region.wanted o (yielded m a.tmps)):Fo P m S o v b:=by
 rcases h with h|⟨l,k⟩
 .exact .inl (h.same e c)
 .exact .inr ⟨c.trans l,k⟩
variable{g:Oper}
theorem Fo.past {j:Nat} {k:Oper} (hj:m[j]?=some k) (B:g.apart m k=true) (A:∀J b,g.op≠ .select J b) (y:∀J b,k.op≠ .select J b)
  (G:∀c a w,Q (.panic c) (a.put g.dst v) w->Q (.panic c) a w) {K:Act->World->Prop} {a:Act} {w:World} (t:Fo P m S g v a) (h:wpOpIn (FR r) 0 P m Q j K (a.put g.dst v) w):
  wpOpIn (FR r) 0 P m Q j (fun b z=>Fo P m S g v b/\K (b.put g.dst v) z) a w:=by
 have⟨Y,U,R⟩:=Oper.apart_spec B;have e:∀b:Act,Fo P m S g v b->∀u,Fo P m S g v (b.put k.dst u):=fun b hb u=>hb.same (execOp_put g A b k.dst u R) (wanted_put g b k.dst u R)
 have swap:∀u,(a.put k.dst u).put g.dst v=(a.put g.dst v).put k.dst u:=fun u=>Act.put_comm a v u U▸rfl
 simp only[wpOpIn,hj] at h⊢;rw[wanted_put k a g.dst v Y] at h;by_cases Z:Region.wanted k (yielded m a.tmps)=true
 .simp only[Z,if_true] at h⊢;unfold Oper.wpIn at h⊢;refine⟨fun _ _=>trivial,?_⟩;have h:=h.2;rw[show(FR r).round=r from rfl] at h⊢;rw[cN y a g.dst v Y] at h
  cases hr:(k.semAt r a.eval).run P w with
  |ok n w1=>
   rw[hr] at h
   cases n with
   |value u=>exact⟨e a t u,by rw[swap];exact h⟩
   |skip=>exact⟨e a t undef,by rw[swap];exact h⟩
   |defer d=>
    refine⟨e _ (t.same (b:={a with defers:=d::a.defers}) rfl rfl) undef,?_⟩;have e2:({a with defers:=d::a.defers}:Act).put g.dst v={a.put g.dst v with defers:=d::(a.put g.dst v).defers}:=by
     cases g.dst<;>rfl
    rw[<-Act.put_comm _ v undef U,e2];exact h
   |enter f s=>
    simp only[Oper.uponIn] at h⊢;refine⟨h.1,h.2.mono fun H M p=>?_⟩
    cases H with
    |returned u=>exact⟨e a t u,by rw[swap];exact p⟩
    |panicked c=>exact G _ _ _ p
    |outgrown=>exact p
   |row q s=>
    simp only[Oper.uponIn] at h⊢;exact⟨h.1,h.2.mono fun u M p=>⟨e a t u,by rw[swap];exact p⟩⟩
   |round l f O a1 a0=>
    simp only[Oper.uponIn] at h⊢;refine⟨h.1,h.2.mono fun H M p=>?_⟩
    cases H with
    |returned u=>exact⟨e a t u,by rw[swap];exact p⟩
    |panicked c=>exact G _ _ _ p
    |outgrown=>exact p
   |_=>simp only[Oper.uponIn] at h
  |halt x w1=>
   rw[hr] at h
   cases x with
   |panic u=>exact G _ _ _ h
   |_=>simp only[Oper.uponIn] at h
 .simp only[Z,Cm,if_false] at h⊢;exact⟨fun _ _=>trivial,e a t undef,by rw[swap];exact h.2⟩
def DM (r:Option Nat) (P:Program) (d:Region.Mode) (m:Array Oper) (Q:Exit->Act->World->Prop) (S:World->Prop) (Ls:List Nat):Nat->Array Bool->Act->World->Prop
 |0,listed,a,w=>Region.ready d m listed=[]/\Q .normal a w
 |f+1,listed,a,w=>(Region.ready d m listed=[]->Q .normal a w)/\
  ∀i∈Region.ready d m listed,wpOpIn (FR r) 0 P m Q i (fun b z=>(Ls.contains i=true∨(S w->S z))/\DM r P d m Q S Ls f (listed.setIfInBounds i true) b z) a w
theorem DM.any:∀(f:Nat) {b:Array Bool} {a:Act} {w:World},DM r P d m Q S Ls f b a w->wpAnyIn (FR r) 0 P d m Q f b a w
 |0,_,_,_,h=>h
 |f+1,_,_,_,h=>⟨h.1,fun i c=>wpOpIn_mono (fun _ _ k=>DM.any f k.2) (h.2 i c)⟩
theorem DM.earlyP {i:Nat} {g:Oper} {v:Value} (hi:m[i]?=some g) (n:∀(j:Nat) (o:Oper) R b,m[j]?=some o->o.op≠ .select R b) (hQ:∀c a w,Q (.panic c) (a.put g.dst v) w->Q (.panic c) a w) (hL:Oq d m Ls i=true):
  ∀(f:Nat) (l:Array Bool) (a:Act) (w:World),Shut d m l->
   (∀j x,m[j]?=some x->j≠i->l.getD j true=false->(∀e∈x.after,Region.binds d e=true->e.on≠i)->g.apart m x=true)->
   i∈Region.ready d m l->Fo P m S g v a->S w->DM r P d m Q S Ls f (l.setIfInBounds i true) (a.put g.dst v) w->DM r P d m Q S Ls (f+1) l a w
 |f,l,a,w,hsh,hap,hr,hy,hS,H=>by
  refine⟨fun h=>(by rw[h] at hr;cases hr),fun j hj=>?_⟩;by_cases t:j=i
  .subst t;exact hy.step hi hS ⟨.inr fun h=>h,H⟩
  .have B:=ready_mono hj t
   cases f with
   |zero=>
    rw[H.1] at B;cases B
   |succ f=>
    have⟨un,x,p,u⟩:=mem_ready.1 hj;have h0:=(mem_ready.1 hr).1;have y:l.getD i false=true->False:=by
     intro G;by_cases a0:i<l.size
     .rw[AS,DK a0] at h0 G;simp at h0 G;rw[h0] at G;cases G
     .rw[AS,CW oO] at G;cases G
    have A:∀e∈x.after,Region.binds d e=true->e.on≠i:=by
     intro e he hb a3;exact y (a3▸u e he hb)
    have a1:¬(Ls.contains j=true):=by
     intro e;have:=Bi.1 hL j (by simpa using e);exact y (If hsh _ j x p u this)
    refine wpOpIn_mono (fun b w2 k=>?_) (Fo.past p (hap j x p t un A) (fun R b=>n i g R b hi) (fun R b=>n j x R b p) hQ hy (H.2 j B));have⟨k1,k2,k3⟩:=k;have a2:i∈Region.ready d m (l.setIfInBounds j true):=ready_mono hr (Ne.symm t);rw[GA _ _ (Ne.symm t)] at k3;have O:S w->S w2:=k2.resolve_left a1;refine⟨.inr O,DM.earlyP hi n hQ hL f _ b w2 (hsh.put p u) ?_ a2 k1 (O hS) k3⟩;intro q oq Y U J Z;refine hap q oq Y U ?_ Z;by_cases M:j=q
    .subst M;exact un
    .rw[getD_set_ne true M] at J;exact J
theorem DM.earlyT {i:Nat} {g:Oper} {v:Value} (hi:m[i]?=some g) (n:∀(j:Nat) (o:Oper) O b,m[j]?=some o->o.op≠ .select O b) (hQ:∀c a w,Q (.panic c) (a.put g.dst v) w->Q (.panic c) a w):
  ∀(f:Nat) (l:Array Bool) (a:Act) (w:World),
   (∀j t,m[j]?=some t->j≠i->l.getD j true=false->(∀e∈t.after,Region.binds d e=true->e.on≠i)->g.apart m t=true)->
   i∈Region.ready d m l->Fo P m (fun _=>True) g v a->DM r P d m Q S Ls f (l.setIfInBounds i true) (a.put g.dst v) w->DM r P d m Q S Ls (f+1) l a w
 |f,l,a,w,hap,hr,hy,H=>by
  refine⟨fun h=>(by rw[h] at hr;cases hr),fun j hj=>?_⟩;by_cases p:j=i
  .subst p;exact hy.step hi trivial ⟨.inr fun h=>h,H⟩
  .have y:=ready_mono hj p
   cases f with
   |zero=>
    rw[H.1] at y;cases y
   |succ f=>
    have⟨un,t,x,M⟩:=mem_ready.1 hj;have h0:=(mem_ready.1 hr).1;have B:l.getD i false=true->False:=by
     intro A;by_cases Z:i<l.size
     .rw[AS,DK Z] at h0 A;simp at h0 A;rw[h0] at A;cases A
     .rw[AS,CW oO] at A;cases A
    have u:∀e∈t.after,Region.binds d e=true->e.on≠i:=by
     intro e he hb a1;exact B (a1▸M e he hb)
    refine wpOpIn_mono (fun b w2 k=>?_) (Fo.past x (hap j t x p un u) (fun O b=>n i g O b hi) (fun O b=>n j t O b x) hQ hy (H.2 j y));have⟨k1,k2,k3⟩:=k;have a0:i∈Region.ready d m (l.setIfInBounds j true):=ready_mono hr (Ne.symm p);rw[GA _ _ (Ne.symm p)] at k3;refine⟨k2,DM.earlyT hi n hQ f _ b w2 ?_ a0 k1 k3⟩;intro q oq U R G Y;refine hap q oq U R ?_ Y;by_cases J:j=q
    .subst J;exact un
    .rw[getD_set_ne true J] at G;exact G
class BZ (Q:Exit->Act->World->Prop):Prop where
 pan:∀c (a:Act) d v w,Q (.panic c) (a.put d v) w->Q (.panic c) a w
instance{K:Act->World->Prop} [h:BZ Q]:BZ (Exit.then K Q):=⟨h.pan⟩
instance{id:Nat} [h:BZ Q]:BZ (Exit.inBlock id Q):=⟨h.pan⟩
instance[h:BZ Q]:BZ (Exit.noGoto Q):=⟨h.pan⟩
instance{fn:Func} {R:Ending->World->Prop}:BZ (bodyPost P fn R):=⟨fun c a d v w h=>⟨by cases d<;>exact h.1,h.2⟩⟩
def CR (S:Option (World->Prop)) (w:World):World->Prop:=match S with
 |some T=>T
 |none=>fun z=>w=z
inductive Kp where
 |one|q|p
deriving DecidableEq
def DS (r:Option Nat) (P:Program) (m:Array Oper) (Q:Exit->Act->World->Prop) (S:Option (World->Prop)) (b:List Nat):List (Nat×Kp)->Act->World->Prop
 |[],a,w=>Q .normal a w
 |(i,.p)::rs,a,w=>∃v,Fo P m (fun _=>True) (B5 m i) v a/\DS r P m Q S b rs (a.put (B5 m i).dst v) w
 |(i,.q)::rs,a,w=>CR S w w/\∃v,Fo P m (CR S w) (B5 m i) v a/\DS r P m Q S b rs (a.put (B5 m i).dst v) w
 |(i,.one)::rs,a,w=>(Region.wanted (B5 m i) (yielded m a.tmps)=true/\Oper.wpIn (FR r) 0 P (B5 m i) a w (fun c z=>(b.contains i=true∨(CR S w w->CR S w z))/\DS r P m Q S b rs c z) Q)∨
   (Region.wanted (B5 m i) (yielded m a.tmps)=false/\DS r P m Q S b rs (a.put (B5 m i).dst undef) w)
def JP (d:Region.Mode) (m:Array Oper) (b:List Nat):List (Nat×Kp)->Array Bool->Bool
 |[],listed=>(Region.ready d m listed).isEmpty
 |(i,.p)::r,listed=>(m[i]?).isSome&&Region.free d m listed i&&(Region.ready d m listed).contains i&&JP d m b r (listed.setIfInBounds i true)
 |(i,.q)::r,listed=>(m[i]?).isSome&&Region.free d m listed i&&(Region.ready d m listed).contains i&&Oq d m b i&&V3 d m listed&&JP d m b r (listed.setIfInBounds i true)
 |(i,.one)::r,listed=>(m[i]?).isSome&&(Region.ready d m listed==[i])&&JP d m b r (listed.setIfInBounds i true)
theorem DM.plan [x:BZ Q] (e:Region.noSelect m=true):∀(pl:List (Nat×Kp)) {b:Array Bool} {a:Act} {w:World},JP d m Ls pl b=true->DS r P m Q (some S) Ls pl a w->DM r P d m Q S Ls pl.length b a w
 |[],b,a,w,hb,h=>⟨by simpa[JP] using hb,h⟩
 |(i,.p)::rs,b,a,w,hb,h=>by
  unfold JP at hb;simp only[AE] at hb;have⟨v,u,t⟩:=h;have l:=F6 hb.1.1.1;exact DM.earlyT l (Region.noSelect_spec e) (fun c a w=>x.pan c a _ v w) rs.length b a w (Region.free_spec l hb.1.1.2) (by simpa using hb.1.2) u (DM.plan e rs hb.2 t)
 |(i,.q)::rs,b,a,w,hb,h=>by
  unfold JP at hb;simp only[AE] at hb;have⟨A,v,u,t⟩:=h;have l:=F6 hb.1.1.1.1.1;exact DM.earlyP l (Region.noSelect_spec e) (fun c a w=>x.pan c a _ v w) hb.1.1.2 rs.length b a w (Shut.of hb.1.2) (Region.free_spec l hb.1.1.1.1.2) (by simpa using hb.1.1.1.2) u A (DM.plan e rs hb.2 t)
 |(i,.one)::rs,b,a,w,hb,h=>by
  unfold JP at hb;simp only[AE,beq_iff_eq] at hb;have l:=F6 hb.1.1;refine⟨fun B=>(by grind),fun j y=>?_⟩;rw[hb.1.2] at y;obtain rfl:j=i:=by simpa using y
  rcases h with⟨n,h⟩|⟨n,h⟩
  .simp only[wpOpIn,l,n,if_true];exact Oper.wpIn_mono (fun _ _ k=>⟨k.1,DM.plan e rs hb.2 k.2⟩) h
  .simp only[wpOpIn,l,n];exact⟨fun _ _=>trivial,.inr fun h=>h,DM.plan e rs hb.2 h⟩
def Qi (m:Array Oper) (b:List Nat) (pl:List (Nat×Kp)):Bool:=Region.noSelect m&&JP .any m b pl (Array.replicate m.size false)&&Nat.beq pl.length m.size
theorem DS.draw [BZ Q] {id:Nat} {a:Act} {w:World} (c:P.follows .mixedOrders=true) {pl:List (Nat×Kp)} (b:Qi m Ls pl=true) (h:DS r P m Q (some S) Ls pl a w.drew):(Code.region id m true).wpIn (FR r) 0 P Q a w:=by
 unfold Qi at b;simp only[AE] at b;have e:=Bh b.2;refine wpIn_region_any c (DM.any (S:=S) (Ls:=Ls) _ ?_);have:=DM.plan b.1.1 pl b.1.2 h;rw[e] at this;exact this
theorem DS.list:∀{pl:List (Nat×Kp)} {l:List Oper} {k:Nat},(∀j,l[j]?=m[k+j]?)->pl.map (·.1)=List.range' k l.length->∀{a:Act} {w:World},DS r P m Q none Ls pl a w->wpListIn (FR r) 0 P m Q l a w
 |[],[],_,_,_,_,_,h=>h
 |[],_::_,_,_,e,_,_,_=>by simp at e
 |_::_,[],_,_,e,_,_,_=>by simp at e
 |(i,q)::pl,o::l,k,hl,e,a,w,h=>by
  simp only[BI,BU,List.range'_succ,List.cons.injEq] at e;obtain⟨rfl,e⟩:=e;have y:m[i]?=some o:=by have:=hl 0;simpa using this.symm
  have u:B5 m i=o:=by unfold B5;rw[y];rfl
  have t:∀{a:Act} {w:World},DS r P m Q none Ls pl a w->wpListIn (FR r) 0 P m Q l a w:=fun h=>DS.list (fun j=>by have:=hl (j+1);simpa[Ea,Nat.add_comm 1] using this) e h
  unfold wpListIn
  cases q with
  |p=>
   have⟨v,c,n⟩:=h;rw[u] at c n;rcases c with⟨b,c⟩|⟨b,x⟩
   .rw[if_pos b];exact Gives.wpR ⟨b,c⟩ trivial (t n)
   .subst x;rw[if_neg (by rw[b];simp)];exact⟨fun _ _=>trivial,t n⟩
  |q=>
   have⟨A,v,c,n⟩:=h;rw[u] at c n;rcases c with⟨b,c⟩|⟨b,x⟩
   .rw[if_pos b];exact Gives.wpR ⟨b,c⟩ A (t n)
   .subst x;rw[if_neg (by rw[b];simp)];exact⟨fun _ _=>trivial,t n⟩
  |one=>
   rcases h with⟨b,h⟩|⟨b,h⟩
   .rw[u] at b h;rw[if_pos b];exact Oper.wpIn_mono (fun _ _ k=>t k.2) h
   .rw[u] at b h;rw[if_neg (by rw[b];simp)];exact⟨fun _ _=>trivial,t h⟩
theorem DS.fixed {id:Nat} {a:Act} {w:World} {pl:List (Nat×Kp)} (b:pl.map (·.1)=List.range m.size) (h:DS r P m Q none Ls pl a w):(Code.region id m false).wpIn (FR r) 0 P Q a w:=by
 refine wpIn_region_list (DS.list (k:=0) (fun j=>oS) ?_ h);rw[b,List.range_eq_range'];simp
end
inductive Or where
 |p|c (k:Nat)|e (v:Value)|r (v:Value)|q (v:Value)
abbrev Or.T:Or:= .e bT
abbrev Or.F:Or:= .e bF
def L9:Addr×Value:=(⟨0,0,none⟩,undef)
def DD (m:Array Oper) (L:Sts) (o:Oper):Option Bool:=
 match o.guard with
 |none=>some true
 |some (g,b)=>match(B5 m g).dst with
  |some d=>match lk L d with
   |some (.bool b')=>some (b'==b)
   |some (.tuple _)=>some false
   |_=>none
  |none=>none
variable{L:Sts}
theorem LA {m:Array Oper} {N:Nat} {D:List Deferred} {a:Act} (h:Has N D L a) {o:Oper} {b:Bool} (c:DD m L o=some b):Region.wanted o (yielded m a.tmps)=b:=by
 unfold DD at c;unfold Region.wanted
 cases t:o.guard with
 |none=>rw[t] at c;injection c
 |some u=>
  have⟨g,e⟩:=u;rw[t] at c;simp only at c⊢
  cases k:(B5 m g).dst with
  |none=>rw[k] at c;cases c
  |some d=>
   rw[k] at c;simp only at c
   cases n:lk L d with
   |none=>rw[n] at c;cases c
   |some v=>
    rw[n] at c;have l:(m[g]?).bind (·.dst)=some d:=by
     unfold B5 at k
     cases q:m[g]? with
     |none=>rw[q] at k;exact absurd k (by simp[default,instInhabitedOper.default])
     |some x=>rw[q] at k;exact k
    cases v<;>try(cases c;done)
    case tuple vs=>
     have:yielded m a.tmps g=none:=by
      unfold yielded;rw[l];simp[h.2.2 d _ n]
     rw[this];have c:false=b:=by simpa using c
     rw[<-c];rfl
    rename_i p;simp only at c;have:yielded m a.tmps g=some p:=by
     unfold yielded;rw[l];simp[h.2.2 d _ n]
    rw[this];have c:(p==e)=b:=by simpa using c
    subst c;cases p<;>cases e<;>rfl
def Qj (P:Program) (L:Sts) (c:Op):Option (Nat×Array Value):=
 match c with
 | .call ⟨.value x,s,_⟩=>match ev L x with
  |some (.func (.func f) first b)=>bif KJ P f&&s.toList.all (fun y=>(ev L y).isSome) then some (f,first++s.map (I6 L)++b) else none
  |_=>none
 |_=>none
section
variable(P:Program) (S:World->Prop) (C:Cells) (m:Array Oper)
def QS (L:Sts) (o:Oper):Or->Option (Value×List Addr×List Prop)
 | .p=>match V8 P L o.op with
  |some (v,O)=>some (v,[],O)
  |none=>none
 | .e u=>match V8 P L o.op with
  |some (v,O)=>some (u,[],(v=u)::O)
  |none=>none
 | .c k=>match o.op with
  | .load t x=>bif cD P t then match ev L x with
   |some (.pointer (some ad))=>some ((C.getD k L9).2,[ad],[])
   |_=>none
   else none
  |_=>none
 | .r v=>bif Jl L o then some (v,[],[∀w,S w->(execOp (I6 L) o).run P w= .ok (.value v) w]) else none
 | .q v=>match Qj P L o.op with
  |some (f,s)=>some (v,[],[∀w,S w->Calls P f s w fun e z=>e= .returned v/\w=z])
  |none=>none
def chk (N:Nat):List (Nat×Or)->Sts->Option (Sts×List Addr×List Prop)
 |[],L=>some (L,[],[])
 |(i,r)::rest,L=>
  match(B5 m i).dst with
  |none=>none
  |some d=>bif Nat.blt d N then match DD m L (B5 m i) with
   |some true=>match QS P S C L (B5 m i) r with
    |some (v,A,O)=>match chk N rest ((d,v)::L) with
     |some (L',A',O')=>some (L',A++A',O++O')
     |none=>none
    |none=>none
   |some false=>match r with
    | .p=>chk N rest ((d,undef)::L)
    |_=>none
   |none=>none
   else none
end
def FV (C:Cells):List (Nat×Or)->List Addr
 |[]=>[]
 |(_,.c k)::r=>(C.getD k L9).1::FV C r
 |_::r=>FV C r
section
variable{P:Program} {S:World->Prop} {C:Cells} {m:Array Oper} {N:Nat} {D:List Deferred}
variable{s:Array Value}
theorem OA {a:Act} (h:Has N D L a) {o:Oper} {f:Nat} (b:Qj P L o.op=some (f,s)) (w:World):
  (execOp a.eval o).run P w= .ok (.enter f s) w:=by
 have⟨a0,op,H,M,G,guard⟩:=o;unfold Qj at b;simp only at b;split at b
 case h_2=>cases b
 rename_i x q J;split at b
 case h_2=>cases b
 rename_i g first l R
 cases n:(KJ P g&&q.toList.all (fun y=>(ev L y).isSome)) with
 |false=>rw[n] at b;cases b
 |true=>
 rw[n] at b;simp only[AE] at n;injection b with b;injection b with Z Y;subst Z;have c:q.map a.eval=q.map (I6 L):=Array.map_congr_left fun y O=>by
  have:=Bi.1 n.2 y (by simpa using O)
  cases u:ev L y with
  |none=>rw[u] at this;cases this
  |some v=>rw[h.val u];unfold I6;rw[u];rfl
 have k:=n.1;unfold KJ at k
 cases t:P.funcs[g]? with
 |none=>rw[t] at k;cases k
 |some p=>
  rw[t] at k;simp only[AE,CL] at k;have B:p.body.isNone=false:=by cases B:p.body<;>simp_all
  have U:p.name≠ "runtime.NumGoroutine":=by simpa using k.1
  have A:p.body≠none:=fun e=>by rw[e] at B;cases B
  simp only[execOp,resolve,h.val R,c];simp[Deferred.ofValue,invoke,callFunc,t,U,A,go_sem,<-Y]
variable{v:Value}
theorem QT {a:Act} (h:Has N D L a) {o:Oper} {r:Or} {A:List Addr} {O:List Prop} (b:QS P S C L o r=some (v,A,O)) (u:F9 O) (hA:∀k,r= .c k->A=[(C.getD k L9).1]/\k<C.length)
  {w:World} (R:S w) (Z:Aj C w):(execOp a.eval o).run P w= .ok (.value v) w∨∃f s,(execOp a.eval o).run P w= .ok (.enter f s) w/\Calls P f s w fun e z=>e= .returned v/\w=z:=by
 unfold QS at b;split at b
 .split at b
  case h_2=>cases b
  rename_i G;injection b with b;injection b with p n;injection n with n q;subst p q;exact .inl (Tm h G u w)
 .split at b
  case h_2=>cases b
  rename_i G;injection b with b;injection b with p n;injection n with n q;subst p q;have:=Tm h G u.2 w;rw[u.1] at this;exact .inl this
 .rename_i k;split at b
  case h_2=>cases b
  rename_i t x H
  cases l:cD P t with
  |false=>rw[l] at b;cases b
  |true=>
  rw[l] at b;split at b
  case h_2=>cases b
  rename_i ad Y;injection b with b;injection b with p n;injection n with n q;have⟨y,h2⟩:=hA k rfl;rw[<-n] at y;injection y with y;have U:=Z (C.getD k L9) (by grind);rw[<-y,p] at U;refine .inl ?_;unfold cD at l;unfold execOp;rw[H];simp only[h.val Y]
  cases B:P.underlying t with
  |none=>rw[B] at l;cases l
  |some d=>
   rw[B] at l;cases d<;>first|(simp[Instr.loadAt,Instr.sureAddr,loadVar,isAgg,run_underlying B,go_sem,U];done)|cases l
 .cases J:Jl L o with
  |false=>rw[J] at b;cases b
  |true=>
  rw[J] at b;injection b with b;injection b with p n;injection n with n q;subst p q;rw[h.exec J];exact .inl (u.1 w R)
 .split at b
  case h_2=>cases b
  rename_i f s M;injection b with b;injection b with p n;injection n with n q;subst p q;exact .inr ⟨_,_,OA h M w,u.1 w R⟩
theorem ZB {o:Oper} {r:Or} {A:List Addr} {O:List Prop} (b:QS P S C L o r=some (v,A,O)) (h:∀k,r≠ .c k):A=[]:=by
 unfold QS at b
 cases r with
 |c k=>exact absurd rfl (h k)
 |p=>
  simp only at b;split at b
  case h_2=>cases b
  injection b with b;injection b with _ b;injection b with b _;exact b.symm
 |e u=>
  simp only at b;split at b
  case h_2=>cases b
  injection b with b;injection b with _ b;injection b with b _;exact b.symm
 |r u=>
  cases l:Jl L o with
  |false=>rw[l] at b;cases b
  |true=>grind
 |q u=>
  simp only at b;split at b
  case h_2=>cases b
  injection b with b;injection b with _ b;injection b with b _;exact b.symm
def Pa (C:Cells):List (Nat×Or)->Bool
 |[]=>true
 |(_,.c k)::r=>Nat.blt k C.length&&Pa C r
 |_::r=>Pa C r
theorem DS.quiets {rr:Option Nat} {Q:Exit->Act->World->Prop} {S:Option (World->Prop)} {Ls:List Nat} {B:List (Nat×Kp)} {w:World} (hs:CR S w w) (hw:∀z,CR S w z->Aj C z):∀(plan:List (Nat×Or)) {L L':Sts} {O:List Prop} {a:Act},Pa C plan=true->chk P (CR S w) C m N plan L=some (L',FV C plan,O)->F9 O->Has N D L a->
  (∀a',Has N D L' a'->DS rr P m Q S Ls B a' w)->DS rr P m Q S Ls (plan.map (fun x=>(x.1,Kp.q))++B) a w
 |[],L,L',O,a,_,l,hO,h,hK=>by
  injection l with l;injection l with e1 J;subst e1;exact hK a h
 |(i,r)::plan,L,L',O,a,hor,l,hO,h,hK=>by
  unfold chk at l
  cases hd:(B5 m i).dst with
  |none=>rw[hd] at l;cases l
  |some d=>
  rw[hd] at l;simp only at l
  cases R:Nat.blt d N with
  |false=>rw[R] at l;cases l
  |true=>
  rw[R] at l;simp only[cond_true] at l;have a0:d<N:=by
   have:Nat.ble (d+1) N=true:=R;exact Bn this
  have G:Pa C plan=true:=by
   unfold Pa at hor;split at hor
   .rename_i u;cases u
   .rename_i u;injection u with n U;subst U;simp only[AE] at hor;exact hor.2
   .rename_i u;injection u with n U;subst U;exact hor
  cases M:DD m L (B5 m i) with
  |none=>rw[M] at l;cases l
  |some b=>
  rw[M] at l;have Y:=LA h M
  cases b with
  |true=>
   simp only at l
   cases n:QS P (CR S w) C L (B5 m i) r with
   |none=>rw[n] at l;cases l
   |some x=>
   have⟨v,A,O1⟩:=x;rw[n] at l;simp only at l
   cases U:chk P (CR S w) C m N plan ((d,v)::L) with
   |none=>rw[U] at l;cases l
   |some y=>
   have⟨L2,A2,O2⟩:=y;rw[U] at l;simp only at l;injection l with l;injection l with e1 J;injection J with J e3;subst e1 e3;have hA:(∀k,r= .c k->A=[(C.getD k L9).1]/\k<C.length)/\A2=FV C plan:=by
    cases r with
    |c k=>
     have a3:∃ad,A=[ad]:=by
      unfold QS at n;simp only at n;split at n
      case h_2=>cases n
      rename_i t x _
      cases H:cD P t with
      |false=>rw[H] at n;cases n
      |true=>
      rw[H] at n;simp only[cond_true] at n;split at n
      case h_2=>cases n
      rename_i ad _;injection n with n;injection n with _ n;injection n with n _;exact⟨ad,n.symm⟩
     obtain⟨ad,rfl⟩:=a3;unfold FV at J;simp only[DA,Jx,List.cons.injEq] at J;have hk:k<C.length:=by
      unfold Pa at hor;simp only[AE] at hor;have:Nat.ble (k+1) C.length=true:=hor.1;exact Bn this
     exact⟨fun k' p=>by injection p with p;subst p;exact⟨by rw[J.1],hk⟩,J.2⟩
    |_=>
     have a4:A=[]:=ZB n (fun k e=>by cases e);subst a4;exact⟨fun k' p=>(by cases p),by simpa[FV] using J⟩
   have⟨a2,a1⟩:=F9.app hO;refine⟨hs,v,.inl ⟨Y,fun z Z=>QT h n a2 hA.1 Z (hw z Z)⟩,?_⟩;rw[hd];exact DS.quiets hs hw plan G (by rw[U,hA.2]) a1 (h.put a0 v) hK
  |false=>
   simp only at l;split at l
   case h_2=>cases l
   refine⟨hs,undef,.inr ⟨Y,rfl⟩,?_⟩;rw[hd];exact DS.quiets hs hw plan G l hO (h.put a0 undef) hK
def gU:List (Nat×Or)->Bool
 |[]=>true
 |(_,.p)::r=>gU r
 |(_,.e _)::r=>gU r
 |_=>false
theorem DS.pures {rr:Option Nat} {Q:Exit->Act->World->Prop} {S:Option (World->Prop)} {Ls:List Nat} {u:List (Nat×Kp)} {w:World}:∀(plan:List (Nat×Or)) {L U:Sts} {A:List Addr} {O:List Prop} {a:Act},gU plan=true->chk P (fun _=>True) [] m N plan L=some (U,A,O)->F9 O->Has N D L a->
  (∀a',Has N D U a'->DS rr P m Q S Ls u a' w)->DS rr P m Q S Ls (plan.map (fun x=>(x.1,Kp.p))++u) a w
 |[],L,U,A,O,a,_,l,hO,h,hK=>by
  injection l with l;injection l with e1 e2;subst e1;exact hK a h
 |(i,r)::plan,L,U,A,O,a,hor,l,hO,h,hK=>by
  unfold chk at l
  cases R:(B5 m i).dst with
  |none=>rw[R] at l;cases l
  |some d=>
  rw[R] at l;simp only at l
  cases G:Nat.blt d N with
  |false=>rw[G] at l;cases l
  |true=>
  rw[G] at l;simp only[cond_true] at l;have M:d<N:=Bn G;have n:gU plan=true/\∀k,r≠ .c k:=by
   unfold gU at hor;split at hor
   .rename_i q;cases q
   .rename_i q;injection q with t H;injection t with t h3;subst H h3;exact⟨hor,fun k e=>by cases e⟩
   .rename_i q;injection q with t H;injection t with t h3;subst H h3;exact⟨hor,fun k e=>by cases e⟩
   .cases hor
  cases B:DD m L (B5 m i) with
  |none=>rw[B] at l;cases l
  |some b=>
  rw[B] at l;have J:=LA h B
  cases b with
  |true=>
   simp only at l
   cases t:QS P (fun _=>True) [] L (B5 m i) r with
   |none=>rw[t] at l;cases l
   |some x=>
   have⟨v,A1,O1⟩:=x;rw[t] at l;simp only at l
   cases H:chk P (fun _=>True) [] m N plan ((d,v)::L) with
   |none=>rw[H] at l;cases l
   |some y=>
   have⟨L2,A2,O2⟩:=y;rw[H] at l;simp only at l;injection l with l;injection l with e1 e2;injection e2 with e2 e3;subst e1 e3;have⟨Z,Y⟩:=F9.app hO;refine⟨v,.inl ⟨J,fun z _=>QT h t Z (fun k e=>absurd e (n.2 k)) trivial (fun p hp=>by cases hp)⟩,?_⟩;rw[R];exact DS.pures plan n.1 H Y (h.put M v) hK
  |false=>
   simp only at l;split at l
   case h_2=>cases l
   refine⟨undef,.inr ⟨J,rfl⟩,?_⟩;rw[R];exact DS.pures plan n.1 l hO (h.put M undef) hK
end
end
end Go.Proofs.YtboflajfckfphaaGreatDoor
namespace Go.Proofs.YtboflajfckfphaaGreatDoor
open Go.RowKit Go Go.Proofs.Tryz
section
inductive Sh where
 |reg (i:Nat)|skip|seq (a b:Sh)|cond (c:Operand) (a b:Sh)|block (i:Nat) (a:Sh)|loop (a:Sh)|exit (i:Nat)|scope (a:Sh)|label (l:Nat)|goto (l:Nat)|ret
 |rangeFunc (f:Operand) (ps:Array Tmp) (a b:Sh)
def Kx (n:Nat):Code->Option (Array Oper×Bool)
 | .region i h d=>bif Nat.beq i n then some (h,d) else none
 | .seq a b=>match Kx n a with
  |some x=>some x
  |none=>Kx n b
 | .cond _ a b=>match Kx n a with
  |some x=>some x
  |none=>Kx n b
 | .block _ a=>Kx n a
 | .loop a=>Kx n a
 | .scope a=>Kx n a
 | .rangeFunc _ _ a b=>match Kx n a with
  |some x=>some x
  |none=>Kx n b
 |_=>none
def Kl (f:Func) (n:Nat):Array Oper×Bool:=(f.body.bind (Kx n)).getD (#[],false)
def Bt (f:Func) (n:Nat):Array Oper:=(Kl f n).1
def Sh.code (f:Func):Sh->Code
 | .reg i=> .region i (Bt f i) (Kl f i).2
 | .skip=> .skip
 | .seq a b=> .seq (a.code f) (b.code f)
 | .cond c a b=> .cond c (a.code f) (b.code f)
 | .block i a=> .block i (a.code f)
 | .loop a=> .loop (a.code f)
 | .exit i=> .exit i
 | .scope a=> .scope (a.code f)
 | .label l=> .label l
 | .goto l=> .goto l
 | .ret=> .ret
 | .rangeFunc g ps a b=> .rangeFunc g ps (a.code f) (b.code f)
variable{ad:Addr} {v u:Value}
theorem Wm {P:Program} {t:TypeId} {a:TypeInfo} {w:World} (h:v.oneCell'=true) (q:P.info? t=some a) (o:a.size=1) (l:w.cell? ad=some u) (k:w.frozen? ad=false):
  (do Instr.storeAt t (.pointer (some ad)) v;pure Next.skip:Sem Next).run P w= .ok .skip (w.setCell ad v):=by
 have p:∀m,(Go.store ad v m).run P w= .ok () (w.setCell ad v):=fun m=>by rw[run_store P w ad v m h];simp[l,k]
 cases v<;>first|cases h|skip
 all_goals simp[p,Instr.storeAt,Instr.sureAddr,storeVar,sizeOf,typeInfo,q,o,go_sem,storeCells,run_store,Value.oneCell',l,k,Addr.add]
abbrev EO:=Exit->Act->World->Prop
def GS (z:Option Nat) (D:List Deferred) (f:Func) (s:Sh) (Q:EO) (L:Sts) (w:World):Prop:=∀a,Has f.ntmps D L a->(s.code f).wpIn (FR z) 0 prog Q a w
abbrev HW:=GS none []
def GK (D:List Deferred) (f:Func) (X:Act->World->Prop) (L:Sts) (w:World):Prop:=∀a,Has f.ntmps D L a->X a w
abbrev HN:=GK []
def Th (z:Option Nat) (f:Func) (s:Sh) (Q:EO):EO:=Exit.then (fun a w=>(s.code f).wpIn (FR z) 0 prog Q a w) Q
def Rnd (D:List Deferred) (f:Func) (J:Nat->Sts->World->Prop) (n:Nat) (Q:EO):EO:=Exit.then (fun h a=>∃m b,m<n/\J m b a/\Has f.ntmps D b h) Q
instance{z:Option Nat} {f:Func} {s:Sh} {Q:EO} [BZ Q]:BZ (Th z f s Q):=inferInstanceAs (BZ (Exit.then _ Q))
instance{D:List Deferred} {f:Func} {J:Nat->Sts->World->Prop} {n:Nat} {Q:EO} [BZ Q]:BZ (Rnd D f J n Q):=inferInstanceAs (BZ (Exit.then _ Q))
section
variable{z:Option Nat} {D:List Deferred} {f:Func} {s g d:Sh} {Q:EO} {L b:Sts} {w:World}
theorem Ad (h:GS z D f g (Th z f d Q) L w):GS z D f (.seq g d) Q L w:=fun a k=>wpIn_seq (h a k)
theorem Ae (h:GS z D f s Q L w):GK D f (fun a w=>Th z f s Q .normal a w) L w:=h
theorem AZ (h:GK D f (fun a w=>Q .normal a w) L w):GS z D f .skip Q L w:=fun a k=>wpIn_skip (h a k)
theorem Tu {l:Nat} (h:GK D f (fun a w=>Q .normal a w) L w):GS z D f (.label l) Q L w:=fun a k=>wpIn_label (h a k)
theorem BQ {i:Nat} (h:GK D f (fun a w=>Q (.exit i) a w) L w):GS z D f (.exit i) Q L w:=fun a k=>wpIn_exit (h a k)
theorem Br (h:GK D f (fun a w=>Q .ret a w) L w):GS z D f .ret Q L w:=fun a k=>wpIn_ret (h a k)
theorem Bd {i:Nat} (h:GS z D f s (Exit.inBlock i Q) L w):GS z D f (.block i s) Q L w:=fun a k=>wpIn_block (h a k)
theorem Tv (h:HW f s (Exit.noGoto Q) L w):HW f (.scope s) Q L w:=fun a k=>wpIn_wide.2 (wp_scope_straight (wpIn_wide.1 (h a k)))
theorem Bg {c:Operand} (l:ev L c=some bT) (h:GS z D f g Q L w):GS z D f (.cond c g d) Q L w:=fun a k=>wpIn_cond_true (k.val l) (h a k)
theorem B1 {c:Operand} (l:ev L c=some bF) (h:GS z D f d Q L w):GS z D f (.cond c g d) Q L w:=fun a k=>wpIn_cond_false (k.val l) (h a k)
theorem gi (h:GS z D f s Q b w) (k:b.map (fun p=>lk L p.1)=b.map fun p=>some p.2):GS z D f s Q L w:=fun a l=>h a (l.sub k)
theorem ZU {X:Act->World->Prop} (h:GK D f X b w) (k:b.map (fun p=>lk L p.1)=b.map fun p=>some p.2):GK D f X L w:=fun a l=>h a (l.sub k)
variable{i:Nat}
theorem nX:Exit.exit i≠ .normal:=fun h=>by cases h
theorem nR:Exit.ret≠ .normal:=fun h=>by cases h
theorem lB:∀l,Exit.ret≠ .goto l:=fun _ h=>by cases h
theorem nr:∀l,Exit.normal≠ .goto l:=fun _ h=>by cases h
variable{e:Exit}
theorem Bc (k:e≠ .normal) (h:GK D f (fun a w=>Q e a w) L w):GK D f (fun a w=>Th z f s Q e a w) L w:=by
 cases e<;>first|exact h|exact absurd rfl k
variable{n:Nat}
theorem B6 {J:Nat->Sts->World->Prop} (k:e≠ .normal) (h:GK D f (fun a w=>Q e a w) L w):GK D f (fun a w=>Rnd D f J n Q e a w) L w:=by
 cases e<;>first|exact h|exact absurd rfl k
theorem BN (h:GK D f (fun a w=>Q .normal a w) L w):GK D f (fun a w=>Exit.inBlock i Q .normal a w) L w:=h
theorem BL (h:GK D f (fun a w=>Q .ret a w) L w):GK D f (fun a w=>Exit.inBlock i Q .ret a w) L w:=h
theorem Ck (h:GK D f (fun a w=>Q .normal a w) L w):GK D f (fun a w=>Exit.inBlock i Q (.exit i) a w) L w:=fun a k=>by
 show if i=i then _ else _;rw[if_pos rfl];exact h a k
theorem QY {j:Nat} (k:Nat.beq j i=false) (h:GK D f (fun a w=>Q (.exit j) a w) L w):GK D f (fun a w=>Exit.inBlock i Q (.exit j) a w) L w:=fun a l=>by
 show if j=i then _ else _;rw[if_neg (fun e=>by rw[e,Fx] at k;cases k)];exact h a l
theorem Tw (k:∀l,e≠ .goto l) (h:GK D f (fun a w=>Q e a w) L w):GK D f (fun a w=>Exit.noGoto Q e a w) L w:=by
 cases e<;>first|exact h|exact absurd rfl (k _)
variable{m:Nat}
theorem BF {J:Nat->Sts->World->Prop} (h:m<n) (l:J m L w):GK D f (fun a w=>Rnd D f J n Q .normal a w) L w:=fun a k=>⟨m,L,h,l,k⟩
theorem Gz {p:Nat->Prop} (h:∃n,p n):∃n,p n/\∀m,p m->n<=m:=by
 have⟨n,k⟩:=h
 induction n using Nat.strongRecOn with
 |_ n a=>grind
theorem Ct (J:Nat->Sts->World->Prop) {n:Nat} (O:J n L w) (round:∀n L w,J n L w->GS z D f s (Rnd D f J n Q) L w):GS z D f (.loop s) Q L w:=by
 intro a C
 classical
 let p:Act->World->Nat->Prop:=fun a w n=>∃L,J n L w/\Has f.ntmps D L a
 let l:Act->World->Nat:=fun a w=>if h:∃n,p a w n then Classical.choose (Gz h) else 0
 have k:∀a w n,p a w n->p a w (l a w)/\l a w<=n:=fun a w n q=>by
  have o:∃n,p a w n:=⟨n,q⟩;have t:l a w=Classical.choose (Gz o):=dif_pos o;rw[t];exact⟨(Classical.choose_spec (Gz o)).1,(Classical.choose_spec (Gz o)).2 n q⟩
 refine wpIn_loop (fun a w=>∃n,p a w n) l ⟨n,L,O,C⟩ fun a w H=>?_
 have⟨n,q⟩:=H;have⟨U,G,M⟩:=(k a w n q).1;refine wpIn_mono (round _ U w G a M) fun e P B x=>?_
 cases e with
 |normal=>
  have⟨m,b,t,A,y⟩:=x;exact⟨⟨m,b,A,y⟩,Nat.lt_of_le_of_lt (k P B m ⟨b,A,y⟩).2 t⟩
 |_=>exact x
def XT (f:Func) (J:Nat->Sts->List Deferred->World->Prop) (n:Nat) (Q:EO):EO:=Exit.then (fun k h=>∃m b a,m<n/\J m b a h/\Has f.ntmps a b k) Q
instance{f:Func} {J:Nat->Sts->List Deferred->World->Prop} {n:Nat} {Q:EO} [BZ Q]:BZ (XT f J n Q):=inferInstanceAs (BZ (Exit.then _ Q))
theorem My {J:Nat->Sts->List Deferred->World->Prop} (h:m<n) (l:J m L D w):GK D f (fun a w=>XT f J n Q .normal a w) L w:=fun a k=>⟨m,L,D,h,l,k⟩
theorem Tx {J:Nat->Sts->List Deferred->World->Prop} (k:e≠ .normal) (h:GK D f (fun a w=>Q e a w) L w):GK D f (fun a w=>XT f J n Q e a w) L w:=by
 cases e<;>first|exact h|exact absurd rfl k
theorem Ty (J:Nat->Sts->List Deferred->World->Prop) (P:J n L D w) (round:∀n L D w,J n L D w->GS z D f s (XT f J n Q) L w):GS z D f (.loop s) Q L w:=by
 intro a G
 classical
 let p:Act->World->Nat->Prop:=fun a w n=>∃L D,J n L D w/\Has f.ntmps D L a
 let l:Act->World->Nat:=fun a w=>if h:∃n,p a w n then Classical.choose (Gz h) else 0
 have k:∀a w n,p a w n->p a w (l a w)/\l a w<=n:=fun a w n q=>by
  have o:∃n,p a w n:=⟨n,q⟩;have t:l a w=Classical.choose (Gz o):=dif_pos o;rw[t];exact⟨(Classical.choose_spec (Gz o)).1,(Classical.choose_spec (Gz o)).2 n q⟩
 refine wpIn_loop (fun a w=>∃n,p a w n) l ⟨n,L,D,P,G⟩ fun a w M=>?_
 have⟨n,q⟩:=M;have⟨Y,Z,H,O⟩:=(k a w n q).1;refine wpIn_mono (round _ Y Z w H a O) fun e U C x=>?_
 cases e with
 |normal=>
  have⟨m,b,B,t,A,y⟩:=x;exact⟨⟨m,b,B,A,y⟩,Nat.lt_of_le_of_lt (k U C m ⟨b,B,A,y⟩).2 t⟩
 |_=>exact x
def Wn:Nat->List Value->Sts
 |_,[]=>[]
 |k,v::r=>(k,v)::Wn (k+1) r
theorem Qq:∀(l:List Value) (k t:Nat) (v:Value),lk (Wn k l) t=some v->∃j,t=k+j/\l[j]?=some v
 |[],_,_,_,h=>by cases h
 |u::r,k,t,v,h=>by
  unfold Wn lk at h
  cases a:Nat.beq k t with
  |true=>
   rw[a] at h;injection h with h;exact⟨0,(Bh a).symm,by simp[h]⟩
  |false=>
   rw[a] at h;have⟨j,p,o⟩:=Qq r (k+1) t v h;exact⟨j+1,oO,by simpa using o⟩
variable{R:Ending->World->Prop}
theorem ZV {k:Nat} {a:Array Value} (x:prog.funcs[k]?=some f) (y:f.body=some (s.code f)) (p:Nat.ble a.size f.ntmps=true) (h:HW f s (bodyPost prog f R) (Wn 0 a.toList) w):Cg k a w R:=by
 refine calls_of_wp x y (wpIn_wide.1 (h _ ?_));have p:=Bn p;refine⟨oT,rfl,fun t v q=>?_⟩;obtain⟨j,rfl,o⟩:=Qq _ _ _ _ q;rw[CC];simp only[BP] at o;have l:=(Ak.1 o).1;rw[Kq l];exact o
theorem ZW (k:f.results=#[]) (h:R (.returned (.tuple #[])) w):HN f (fun a w=>bodyPost prog f R .ret a w) L w:=fun a l=>
 ⟨l.2.1,.tuple #[],by simp[results,k,go_sem],h⟩
theorem Fu (k:f.results=#[]) (h:R (.returned (.tuple #[])) w):HN f (fun a w=>bodyPost prog f R .normal a w) L w:=fun a l=>
 ⟨l.2.1,.tuple #[],by simp[results,k,go_sem],h⟩
theorem Bu {t:Nat} (o:f.results=#[.tmp t]) (l:lk L t=some v) (h:R (.returned v) w):HN f (fun a w=>bodyPost prog f R .ret a w) L w:=fun a k=>
 ⟨k.2.1,v,by simp[results,o,go_sem,k.2.2 t v l],h⟩
theorem LD {t u:Nat} {x:Value} (p:f.results=#[.tmp t,.tmp u]) (o:lk L t=some v) (l:lk L u=some x) (h:R (.returned (.tuple #[v,x])) w):HN f (fun a w=>bodyPost prog f R .ret a w) L w:=fun a k=>
 ⟨k.2.1,.tuple #[v,x],by simp[results,p,go_sem,k.2.2 t v o,k.2.2 u x l],h⟩
end
theorem Aj.nil {w:World}:Aj [] w:=fun _ h=>by cases h
theorem Aj.cons {C:Cells} {w:World} (h:w.cell? ad=some v) (k:Aj C w):Aj ((ad,v)::C) w:=fun p a=>by
 rcases Az.1 a with rfl|a
 .exact h
 .exact k p a
theorem EE {p:Prop} [Decidable p] (h:p):Value.bool (decide p)=bT:=by rw[decide_eq_true h]
theorem Er {p:Prop} [Decidable p] (h:¬p):Value.bool (decide p)=bF:=by rw[decide_eq_false h]
theorem vI {k:IntKind} {x y:Int} (h:x=y):Value.int k x= .int k y:=by rw[h]
theorem vB {x y:Bool} (h:x=y):Value.bool x= .bool y:=by rw[h]
variable{m:Nat}
theorem Ec {k:Nat} (a:k<maxLen) (h:m=k+1):IntKind.i64.wrap ((k:Int)+1)=(m:Int):=by
 subst h;have l:k<9223372036854775807:=a;rw[Bb _ oO];omega
inductive Stp where
 |qs (l:List (Nat×Or))|ps (l:List (Nat×Or))|one (i:Nat)
def Gf:List Stp->List (Nat×Kp)
 |[]=>[]
 | .qs l::r=>l.map (fun x=>(x.1,Kp.q))++Gf r
 | .ps l::r=>l.map (fun x=>(x.1,Kp.p))++Gf r
 | .one i::r=>(i,.one)::Gf r
def Es (z:Option Nat) (D:List Deferred) (f:Func) (r:Nat) (Q:EO) (S:Option (World->Prop)) (c:List Nat) (j:List Stp) (L:Sts) (w:World):Prop:=∀a,Has f.ntmps D L a->DS z prog (Bt f r) Q S c (Gf j) a w
abbrev HD:=Es none []
def M8 (L:Sts) (a:List Nat):Option Sts:=
 match a with
 |[]=>some []
 |k::r=>match lk L k with
  |some v=>match M8 L r with
   |some l=>some ((k,v)::l)
   |none=>none
  |none=>none
theorem LU {N:Nat} {D:List Deferred} {L:Sts} {a:Act} (h:Has N D L a):∀{y:List Nat} {b:Sts},M8 L y=some b->Has N D b a
 |[],b,e=>by
  injection e with e;subst e;exact⟨h.1,h.2.1,fun t v A=>by cases A⟩
 |k::r,b,e=>by
  unfold M8 at e
  cases q:lk L k with
  |none=>rw[q] at e;cases e
  |some v=>
   rw[q] at e
   cases p:M8 L r with
   |none=>rw[p] at e;cases e
   |some l=>
    rw[p] at e;injection e with e;subst e;refine⟨h.1,h.2.1,fun t u o=>?_⟩;unfold lk at o
    cases x:Nat.beq k t with
    |true=>
     rw[x] at o;injection o with o;subst o;rw[<-Bh x];exact h.2.2 k v q
    |false=>
     rw[x] at o;exact(LU h p).2.2 t u o
noncomputable def Wo (S:World->Prop) (N:Nat) (C:Cells) (a:Array Oper) (plan:List (Nat×Or)) (L:Sts) (h:List Nat):Option (Sts×List Addr×List Prop):=
 match chk prog S C a N plan L with
 |some (b,A,O)=>match M8 b h with
  |some l=>bif Pa C plan then some (l,A,O) else none
  |none=>none
 |none=>none
section
variable{z:Option Nat} {D:List Deferred} {f:Func} {r:Nat} {Q:EO} {S:Option (World->Prop)} {c:List Nat} {j:List Stp} {L b:Sts} {w:World}
theorem AK (h:GK D f (fun a w=>Q .normal a w) L w):Es z D f r Q S c [] L w:=h
theorem VM {plan:List (Nat×Or)} (C:Cells) (B:List Nat) (b:Sts) (O:List Prop) (k:Wo (CR S w) f.ntmps C (Bt f r) plan L B=some (b,FV C plan,O)) (M:F9 O) (H:CR S w w) (G:∀A,CR S w A->Aj C A) (h:Es z D f r Q S c j b w):Es z D f r Q S c (.qs plan::j) L w:=by
 intro a J;unfold Wo at k
 cases q:chk prog (CR S w) C (Bt f r) f.ntmps plan L with
 |none=>rw[q] at k;cases k
 |some x=>
  have⟨Z,A1,O1⟩:=x;rw[q] at k;simp only at k
  cases p:M8 Z B with
  |none=>rw[p] at k;cases k
  |some l=>
   rw[p] at k
   cases o:Pa C plan with
   |false=>rw[o] at k;cases k
   |true=>
    rw[o] at k;injection k with k;injection k with U y;injection y with y P;subst U P;exact DS.quiets H G plan o (by rw[q,y]) M J fun Y t=>h Y (LU t p)
noncomputable def mA (N:Nat) (a:Array Oper) (plan:List (Nat×Or)) (L:Sts) (h:List Nat):Option (Sts×List Prop):=
 match chk prog (fun _=>True) [] a N plan L with
 |some (b,_,O)=>match M8 b h with
  |some l=>bif gU plan then some (l,O) else none
  |none=>none
 |none=>none
theorem km {plan:List (Nat×Or)} (y:List Nat) (b:Sts) (O:List Prop) (k:mA f.ntmps (Bt f r) plan L y=some (b,O)) (B:F9 O) (h:Es z D f r Q S c j b w):Es z D f r Q S c (.ps plan::j) L w:=by
 intro a A;unfold mA at k
 cases q:chk prog (fun _=>True) [] (Bt f r) f.ntmps plan L with
 |none=>rw[q] at k;cases k
 |some x=>
  have⟨J,P,M⟩:=x;rw[q] at k;simp only at k
  cases p:M8 J y with
  |none=>rw[p] at k;cases k
  |some l=>
   rw[p] at k
   cases o:gU plan with
   |false=>rw[o] at k;cases k
   |true=>
    rw[o] at k;injection k with k;injection k with G C;subst G C;exact DS.pures plan o q B A fun H t=>h H (LU t p)
theorem VN [BZ Q] (c:List Nat) (S:World->Prop) (j:List Stp) (l:(Kl f r).2=true) (k:Qi (Bt f r) c (Gf j)=true) (h:Es z D f r Q (some S) c j L w.drew):GS z D f (.reg r) Q L w:=by
 intro a o;show(Code.region r (Bt f r) (Kl f r).2).wpIn _ _ _ _ _ _;rw[l];exact DS.draw oK k (h a o)
theorem Tz (j:List Stp) (l:(Kl f r).2=false) (k:(Gf j).map (·.1)=List.range (Bt f r).size) (h:Es z D f r Q none (List.range (Bt f r).size) j L w):GS z D f (.reg r) Q L w:=by
 intro a o;show(Code.region r (Bt f r) (Kl f r).2).wpIn _ _ _ _ _ _;rw[l];exact DS.fixed k (h a o)
theorem EB {i:Nat} (o:DD (Bt f r) L (B5 (Bt f r) i)=some true)
  (h:∀a,Has f.ntmps D L a->Oper.wpIn (FR z) 0 prog (B5 (Bt f r) i) a w (fun p k=>(c.contains i=true∨(CR S w w->CR S w k))/\DS z prog (Bt f r) Q S c (Gf j) p k) Q):Es z D f r Q S c (.one i::j) L w:=
 fun a l=> .inl ⟨LA l o,h a l⟩
variable{i:Nat}
theorem cV (d:Nat) (o:DD (Bt f r) L (B5 (Bt f r) i)=some false) (p:(B5 (Bt f r) i).dst=some d) (k:Nat.blt d f.ntmps=true) (h:Es z D f r Q S c j ((d,undef)::L) w):Es z D f r Q S c (.one i::j) L w:=
 fun a l=> .inr ⟨LA l o,by rw[p];exact h _ (l.put (Bn k) undef)⟩
theorem nM (d:Nat) (o:Cells) (x:Or) (v:Value) (O:List Prop) (A:DD (Bt f r) L (B5 (Bt f r) i)=some true) (C:(B5 (Bt f r) i).dst=some d) (p:Nat.blt d f.ntmps=true)
  (B:QS prog (fun y=>w=y) o L (B5 (Bt f r) i) x=some (v,FV o [(i,x)],O)) (q:Pa o [(i,x)]=true) (G:F9 O) (H:Aj o w) (h:Es z D f r Q S c j ((d,v)::L) w):Es z D f r Q S c (.one i::j) L w:=by
 refine EB A fun a t=>?_
 have l:(CR S w w->CR S w w)/\DS z prog (Bt f r) Q S c (Gf j) (a.put (B5 (Bt f r) i).dst v) w:=⟨id,by rw[C];exact h _ (t.put (Bn p) v)⟩;rcases QT t B G (fun k e=>by
  subst e;refine⟨rfl,?_⟩;simp only[Pa,AE] at q;exact Bn q.1) rfl H with e|⟨g,args,e,hc⟩
 .exact D8 e ⟨.inr l.1,l.2⟩
 .refine Kj e (hc.mono ?_);rintro M J ⟨rfl,rfl⟩;exact⟨.inr l.1,l.2⟩
theorem QZ (d g:Nat) (k:Array Value) (q:DD (Bt f r) L (B5 (Bt f r) i)=some true) (x:(B5 (Bt f r) i).dst=some d) (l:Nat.blt d f.ntmps=true)
  (t:Qj prog L (B5 (Bt f r) i).op=some (g,k))
  (h:Cg g k w fun e o=>∃v,e= .returned v/\(c.contains i=true∨(CR S w w->CR S w o))/\Es z D f r Q S c j ((d,v)::L) o):Es z D f r Q S c (.one i::j) L w:=by
 refine EB q fun a p=>?_
 have e:=OA p t w;refine Kj e (h.mono ?_);rintro C B ⟨v,rfl,A,y⟩;exact⟨A,by rw[x];exact y _ (p.put (Bn l) v)⟩
def NA (P:Program) (L:Sts) (a:Op):Option (Addr×Value):=
 match a with
 | .store t x y=>match ev L x,ev L y,(P.info? t).map (·.size) with
  |some (.pointer (some ad)),some v,some z=>bif v.oneCell'&&Nat.beq z 1 then some (ad,v) else none
  |_,_,_=>none
 |_=>none
theorem Pv {P:Program} {N:Nat} {D:List Deferred} {a:Act} (q:Has N D L a) {o:Oper} (h:NA P L o.op=some (ad,v)) (Y:w.cell? ad=some u) (U:w.frozen? ad=false):(execOp a.eval o).run P w= .ok .skip (w.setCell ad v):=by
 have⟨a0,op,p,B,l,guard⟩:=o;unfold NA at h;simp only at h;split at h
 case h_2=>cases h
 rename_i t x y;split at h
 case h_2=>cases h
 rename_i a1 A z J H G
 cases k:(A.oneCell'&&Nat.beq z 1) with
 |false=>rw[k] at h;cases h
 |true=>
 rw[k] at h;simp only[AE] at k;injection h with h;injection h with e1 Z;subst e1 Z;have⟨C,O,M⟩:=Af.1 G;simp only[execOp,q.val J,q.val H];exact Wm k.1 O (M.trans (Bh k.2)) Y U
theorem T0 (ad:Addr) (v:Value) (l:DD (Bt f r) L (B5 (Bt f r) i)=some true) (q:(B5 (Bt f r) i).dst=none) (o:NA prog L (B5 (Bt f r) i).op=some (ad,v))
  (t:w.cell? ad=some u) (p:w.frozen? ad=false)
  (x:c.contains i=true∨(CR S w w->CR S w (w.setCell ad v))) (h:Es z D f r Q S c j L (w.setCell ad v)):Es z D f r Q S c (.one i::j) L w:=by
 refine EB l fun a k=>?_
 have e:=Pv k o t p;refine L8 e ⟨x,?_⟩;rw[q];exact h a k
end
end
end Go.Proofs.YtboflajfckfphaaGreatDoor
namespace Go.Proofs.YtboflajfckfphaaGreatDoor
open Go.RowKit Bud Go Go.Proofs.Tryz
section
def fr (c L:Sts):List Nat->Sts
 |[]=>[]
 |k::ks=>(k,(lk c k).getD ((lk L k).getD undef))::fr c L ks
def nS (X:List (Nat×Or)) (i:Nat):Or:=match X with
 |[]=> .p
 |(j,o)::r=>bif Nat.beq j i then o else nS r i
def Gi (X:List (Nat×Or)):Nat->Nat->List (Nat×Or)
 |_,0=>[]
 |i,n+1=>(i,nS X i)::Gi X (i+1) n
abbrev Cu (i n:Nat) (X:List (Nat×Or)):Stp:= .qs (Gi X i n)
abbrev AM (i n:Nat):Stp:= .qs (Gi [] i n)
abbrev oX (i n:Int):Prop:=0<=i/\i<n
variable{p:Prop}
theorem Bo (h:p):F9 [p]:=⟨h,trivial⟩
variable{q:Prop}
theorem EP (h:p) (k:q):F9 [p,q]:=⟨h,k,trivial⟩
theorem NW {r:Prop} (h:p) (k:q) (l:r):F9 [p,q,r]:=⟨h,k,l,trivial⟩
variable{s:Prop}
theorem Sm {r:Prop} (h:p) (k:q) (l:r) (m:s):F9 [p,q,r,s]:=⟨h,k,l,m,trivial⟩
variable{t:Prop}
theorem fE {r:Prop} (h:p) (k:q) (l:r) (m:s) (n:t):F9 [p,q,r,s,t]:=⟨h,k,l,m,n,trivial⟩
theorem jJ {r u:Prop} (h:p) (k:q) (l:r) (m:s) (n:t) (o:u):F9 [p,q,r,s,t,u]:=⟨h,k,l,m,n,o,trivial⟩
theorem fF {r u v:Prop} (h:p) (k:q) (l:r) (m:s) (n:t) (o:u) (x:v):F9 [p,q,r,s,t,u,v]:=⟨h,k,l,m,n,o,x,trivial⟩
theorem vR {a b:Bool} (h:a=b:=by decide):(.bool a:Value)= .bool b:=by rw[h]
theorem vJ {a b:Int} (h:a=b):(I a:Value)=I b:=vI h
section
variable{z:Option Nat} {D:List Deferred} {f:Func} {r:Nat} {Q:EO} {S:Option (World->Prop)} {b:List Nat} {a:List Stp} {L:Sts} {w:World} {C:Cells} {plan:List (Nat×Or)} {O:List Prop}
theorem AY (a:List Stp) (h:Es z D f r Q none (List.range (Bt f r).size) a L w) (d:(Kl f r).2=false:=by kernel_rfl) (c:(Gf a).map (·.1)=List.range (Bt f r).size:=by kernel_rfl):GS z D f (.reg r) Q L w:=Tz a d c h
theorem VQ [BZ Q] (b:List Nat) (S:World->Prop) (a:List Stp) (h:Es z D f r Q (some S) b a L w.drew) (d:(Kl f r).2=true:=by kernel_rfl) (c:Qi (Bt f r) b (Gf a)=true:=by kernel_rfl):GS z D f (.reg r) Q L w:=VN b S a d c h
theorem E3 (c:List Nat) (d:Sts) (j:F9 O) (k:Aj C w) (h:Es z D f r Q none b a (fr d L c) w) (g:Wo (CR none w) f.ntmps C (Bt f r) plan L c=some (fr d L c,FV C plan,O):=by kernel_rfl):Es z D f r Q none b (.qs plan::a) L w:=
 VM C c _ O g j rfl (fun _ e=>e▸k) h
theorem DO (c:List Nat) (d:Sts) (g:Aj C w) (h:Es z D f r Q none b a (fr d L c) w) (e:Wo (CR none w) f.ntmps C (Bt f r) plan L c=some (fr d L c,FV C plan,[]):=by kernel_rfl):Es z D f r Q none b (.qs plan::a) L w:=E3 (O:=[]) c d trivial g h e
theorem G4 (c:List Nat) (d:Sts) (g:F9 O) (h:Es z D f r Q none b a (fr d L c) w) (e:Wo (CR none w) f.ntmps [] (Bt f r) plan L c=some (fr d L c,FV [] plan,O):=by kernel_rfl):Es z D f r Q none b (.qs plan::a) L w:=E3 c d g .nil h e
theorem AN (c:List Nat) (d:Sts) (h:Es z D f r Q none b a (fr d L c) w) (e:Wo (CR none w) f.ntmps [] (Bt f r) plan L c=some (fr d L c,FV [] plan,[]):=by kernel_rfl):Es z D f r Q none b (.qs plan::a) L w:=E3 (O:=[]) c d trivial .nil h e
theorem FW (C:Cells) (c:List Nat) (e:Sts) (l:F9 O) (j:CR S w w) (g:∀d,CR S w d->Aj C d) (h:Es z D f r Q S b a (fr e L c) w) (k:Wo (CR S w) f.ntmps C (Bt f r) plan L c=some (fr e L c,FV C plan,O):=by kernel_rfl):Es z D f r Q S b (.qs plan::a) L w:=VM C c _ O k l j g h
theorem Dr [BZ Q] (b:List Nat) (p:List (Nat×Or)) (a:List Stp) (c:List Nat) (d:Sts) (k:F9 O) (l:Aj C w.drew) (h:Es z D f r Q (some (Aj C)) b a (fr d L c) w.drew) (j:(Kl f r).2=true:=by kernel_rfl) (e:Qi (Bt f r) b (Gf (.qs p::a))=true:=by kernel_rfl) (g:Wo (CR (some (Aj C)) w.drew) f.ntmps C (Bt f r) p L c=some (fr d L c,FV C p,O):=by kernel_rfl):GS z D f (.reg r) Q L w:=
 VN b (Aj C) (.qs p::a) j e (VM C c _ O g k l (fun _ h=>h) h)
theorem Qm [BZ Q] (b:List Nat) (p:List (Nat×Or)) (a:List Stp) (c:List Nat) (d:Sts) (k:Aj C w.drew) (h:Es z D f r Q (some (Aj C)) b a (fr d L c) w.drew) (j:(Kl f r).2=true:=by kernel_rfl) (e:Qi (Bt f r) b (Gf (.qs p::a))=true:=by kernel_rfl) (g:Wo (CR (some (Aj C)) w.drew) f.ntmps C (Bt f r) p L c=some (fr d L c,FV C p,[]):=by kernel_rfl):GS z D f (.reg r) Q L w:=Dr (O:=[]) b p a c d trivial k h j e g
theorem BV {X:Act->World->Prop} {L':Sts} (h:GK D f X L' w) (c:L'.map (fun p=>lk L p.1)=L'.map fun p=>some p.2:=by kernel_rfl):GK D f X L w:=ZU h c
theorem Eu {s:Sh} {L':Sts} (h:GS z D f s Q L' w) (c:L'.map (fun p=>lk L p.1)=L'.map fun p=>some p.2:=by kernel_rfl):GS z D f s Q L w:=gi h c
theorem CN {k:Nat} {s:Sh} {c:Array Value} {R:Ending->World->Prop} (g:f.body=some (s.code f)) (h:HW f s (bodyPost prog f R) (Wn 0 c.toList) w) (e:prog.funcs[k]?=some f:=by kernel_rfl) (d:Nat.ble c.size f.ntmps=true:=by kernel_rfl):Cg k c w R:=ZV e g d h
theorem Fh (c:List Nat) (d:Sts) (g:F9 O) (h:Es z D f r Q S b a (fr d L c) w) (e:mA f.ntmps (Bt f r) plan L c=some (fr d L c,O):=by kernel_rfl):Es z D f r Q S b (.ps plan::a) L w:=km c _ O e g h
theorem BA (X:List (Nat×Or)) (c:List Nat) (d:Sts) (l:F9 O) (m:Aj C w) (h:GK D f (fun a w=>Q .normal a w) (fr d L c) w) (k:(Kl f r).2=false:=by kernel_rfl) (g:(Gf [.qs (Gi X 0 (Bt f r).size)]).map (·.1)=List.range (Bt f r).size:=by kernel_rfl) (j:Wo (CR none w) f.ntmps C (Bt f r) (Gi X 0 (Bt f r).size) L c=some (fr d L c,FV C (Gi X 0 (Bt f r).size),O):=by kernel_rfl):GS z D f (.reg r) Q L w:=
 Tz [.qs (Gi X 0 (Bt f r).size)] k g (VM C c _ O j l rfl (fun _ e=>e▸m) (AK h))
theorem Fi (X:List (Nat×Or)) (c:List Nat) (d:Sts) (k:Aj C w) (h:GK D f (fun a w=>Q .normal a w) (fr d L c) w) (j:(Kl f r).2=false:=by kernel_rfl) (e:(Gf [.qs (Gi X 0 (Bt f r).size)]).map (·.1)=List.range (Bt f r).size:=by kernel_rfl) (g:Wo (CR none w) f.ntmps C (Bt f r) (Gi X 0 (Bt f r).size) L c=some (fr d L c,FV C (Gi X 0 (Bt f r).size),[]):=by kernel_rfl):GS z D f (.reg r) Q L w:=BA (O:=[]) X c d trivial k h j e g
theorem Be (X:List (Nat×Or)) (c:List Nat) (d:Sts) (k:F9 O) (h:GK D f (fun a w=>Q .normal a w) (fr d L c) w) (j:(Kl f r).2=false:=by kernel_rfl) (e:(Gf [.qs (Gi X 0 (Bt f r).size)]).map (·.1)=List.range (Bt f r).size:=by kernel_rfl) (g:Wo (CR none w) f.ntmps [] (Bt f r) (Gi X 0 (Bt f r).size) L c=some (fr d L c,FV [] (Gi X 0 (Bt f r).size),O):=by kernel_rfl):GS z D f (.reg r) Q L w:=BA X c d k .nil h j e g
theorem B8 (X:List (Nat×Or)) (c:List Nat) (d:Sts) (h:GK D f (fun a w=>Q .normal a w) (fr d L c) w) (j:(Kl f r).2=false:=by kernel_rfl) (e:(Gf [.qs (Gi X 0 (Bt f r).size)]).map (·.1)=List.range (Bt f r).size:=by kernel_rfl) (g:Wo (CR none w) f.ntmps [] (Bt f r) (Gi X 0 (Bt f r).size) L c=some (fr d L c,FV [] (Gi X 0 (Bt f r).size),[]):=by kernel_rfl):GS z D f (.reg r) Q L w:=BA (O:=[]) X c d trivial .nil h j e g
theorem BG (c:List Nat) (h:GK D f (fun a w=>Q .normal a w) (fr [] L c) w) (d:(fr [] L c).map (fun p=>lk L p.1)=(fr [] L c).map fun p=>some p.2:=by kernel_rfl):Es z D f r Q S b [] L w:=AK (ZU h d)
variable{i:Nat}
theorem BW {g:Nat} {c:Array Value} (d:Nat) (h:Cg g c w fun e k=>∃v,e= .returned v/\(b.contains i=true∨(CR S w w->CR S w k))/\Es z D f r Q S b a ((d,v)::L) k) (l:DD (Bt f r) L (B5 (Bt f r) i)=some true:=by kernel_rfl) (n:(B5 (Bt f r) i).dst=some d:=by kernel_rfl) (j:Nat.blt d f.ntmps=true:=by kernel_rfl) (m:Qj prog L (B5 (Bt f r) i).op=some (g,c):=by kernel_rfl):Es z D f r Q S b (.one i::a) L w:=QZ d g c l n j m h
theorem dU {u:Value} {ad:Addr} (v:Value) (j:w.cell? ad=some u) (e:w.frozen? ad=false) (k:b.contains i=true∨(CR S w w->CR S w (w.setCell ad v))) (h:Es z D f r Q S b a L (w.setCell ad v)) (c:DD (Bt f r) L (B5 (Bt f r) i)=some true:=by kernel_rfl) (g:(B5 (Bt f r) i).dst=none:=by kernel_rfl) (d:NA prog L (B5 (Bt f r) i).op=some (ad,v):=by kernel_rfl):Es z D f r Q S b (.one i::a) L w:=T0 ad v c g d j e k h
theorem Cz {u:Value} {ad:Addr} (v:Value) (j:w.cell? ad=some u) (e:w.frozen? ad=false) (h:Es z D f r Q S b a L (w.setCell ad v)) (k:b.contains i=true:=by kernel_rfl) (c:DD (Bt f r) L (B5 (Bt f r) i)=some true:=by kernel_rfl) (g:(B5 (Bt f r) i).dst=none:=by kernel_rfl) (d:NA prog L (B5 (Bt f r) i).op=some (ad,v):=by kernel_rfl):Es z D f r Q S b (.one i::a) L w:=T0 ad v c g d j e (.inl k) h
end
end
section
def dm (L:Sts) (o:Oper):Option (Nat×Nat×Value×Value):=
 match o.op with
 | .call ⟨.builtin .append,args,tys⟩=>match args.toList,tys.toList with
  |[x,y],[t,t']=>match ev L x,ev L y with
   |some u,some v=>bif Nat.beq t t' then some (t,o.type,u,v) else none
   |_,_=>none
  |_,_=>none
 |_=>none
variable{P:Program}
theorem dn {N:Nat} {D:List Deferred} {L:Sts} {a:Act} (h:Has N D L a) {o:Oper} {t p:Nat} {u v m:Value} {w l:World} (c:dm L o=some (t,p,u,v)) (B:(Builtin.append_ #[t,t] p #[u,v]).run P w= .ok m l):
  (execOp a.eval o).run P w= .ok (.value m) l:=by
 have⟨R,Z,n,q,k,guard⟩:=o;unfold dm at c;simp only at c;split at c
 case h_2=>cases c
 rename_i i j;split at c
 case h_2=>cases c
 rename_i x y t1 t2 d e;split at c
 case h_2=>cases c
 rename_i Y U A s
 cases g:Nat.beq t1 t2 with
 |false=>rw[g] at c;cases c
 |true=>
 rw[g] at c;injection c with c;injection c with O c;injection c with M c;injection c with J H;have G:=Bh g;subst O M J H G;have C:i=#[x,y]:=by
  apply Ch;simpa using d
 have g:j=#[t1,t1]:=by
  apply Ch;simpa using e
 subst C g;simp only[execOp,resolve,E4,BI,D4,h.val A,h.val s];simp only[invoke,builtin,Ay,AJ,Am,B]
def dp (L:Sts) (a:Op):Option (Nat×Value):=
 match a with
 | .buildSlice t 1 ps=>match ps.toList with
  |[(0,x)]=>match ev L x with
   |some v=>some (t,v)
   |none=>none
  |_=>none
 |_=>none
theorem set1 {A:Array Value} {u:Value} (h:A.size=1):A.setIfInBounds 0 u=#[u]:=by
 apply Array.ext
 .simp[h]
 .grind
theorem dq {N:Nat} {D:List Deferred} {L:Sts} {a:Act} (h:Has N D L a) {o:Oper} {t e:Nat} {v z:Value} {i:TypeInfo} {w:World} (c:dp L o.op=some (t,v)) (q:P.underlying t=some (.slice e)) (A:P.info? e=some i) (m:i.zero=some z) (s:i.size=1) (d:z= .pointer none∨z= .int .i64 0) (p:v.oneCell'=true):
  (execOp a.eval o).run P w= .ok (.value (vS w.heap.size 1 1)) (w.alloc (.cells #[v] e)):=by
 have⟨G,H,k,l,j,guard⟩:=o;unfold dp at c;simp only at c;split at c
 case h_2=>cases c
 rename_i t1 ps;split at c
 case h_2=>cases c
 rename_i x g;split at c
 case h_2=>cases c
 rename_i u n;injection c with c;injection c with C B;subst C B;have y:ps=#[(0,x)]:=by
  apply Ch;simpa using g
 subst y;simp only[execOp,E4,BI,D4,h.val n];rcases d with rfl|rfl
 all_goals
  cases u<;>try(cases p;done)
  all_goals(simp[Instr.buildSlice,run_underlying q,sizeOf,typeInfo,A,s,zeroValue,m,Instr.fill,newRow,go_sem,set1])
section
variable{z:Option Nat} {D:List Deferred} {f:Func} {r:Nat} {Q:EO} {S:Option (World->Prop)} {b:List Nat} {st:List Stp} {L L':Sts} {w:World}
theorem DY {i:Nat} (d t k:Nat) (u v:Value) {g:Value} {c:World} (m:DD (Bt f r) L (B5 (Bt f r) i)=some true) (p:(B5 (Bt f r) i).dst=some d) (j:Nat.blt d f.ntmps=true)
  (o:dm L (B5 (Bt f r) i)=some (t,k,u,v)) (n:(Builtin.append_ #[t,t] k #[u,v]).run prog w= .ok g c) (q:b.contains i=true∨(CR S w w->CR S w c)) (h:Es z D f r Q S b st ((d,g)::L) c):Es z D f r Q S b (.one i::st) L w:=by
 refine EB m fun a l=>?_
 have e:=dn l o n;refine D8 e ?_;exact⟨q,by rw[p];exact h _ (l.put (Bn j) g)⟩
theorem Fa {i:Nat} (d t e:Nat) (v y:Value) (m:DD (Bt f r) L (B5 (Bt f r) i)=some true) (s:(B5 (Bt f r) i).dst=some d) (c:Nat.blt d f.ntmps=true)
  (p:dp L (B5 (Bt f r) i).op=some (t,v)) (o:prog.underlying t=some (.slice e)) (q:(prog.info? e).map (fun i=>(i.zero,i.size))=some (some y,1)) (l:y= .pointer none∨y= .int .i64 0) (n:v.oneCell'=true)
  (u:b.contains i=true∨(CR S w w->CR S w (w.alloc (.cells #[v] e)))) (h:Es z D f r Q S b st ((d,vS w.heap.size 1 1)::L) (w.alloc (.cells #[v] e))):Es z D f r Q S b (.one i::st) L w:=by
 refine EB m fun a j=>?_
 have⟨k,A,g⟩:=Af.1 q;injection g with g x;have B:=dq (w:=w) j p o A g x l n;refine D8 B ?_;exact⟨u,by rw[s];exact h _ (j.put (Bn c) _)⟩
theorem GH (w:World) (a t G e:Nat) {i:TypeInfo} {z:Value} {bytes:Nat} (O:P.underlying t=some (.slice e)) (R:P.info? e=some i) (M:i.zero=some z) (d:i.size=1) (x:i.bytes=bytes) (s:z.cells.size=1)
  {v:Value} {n:Nat} {q:List Value} (k:w.ownsRow a e 1 v n q) (C:TypeId) {u:Value} (Y:u.oneCell'=true) (B:n+1<=maxLen) (c:(n+1)*bytes<=140737488355328) (A:a<=w.heap.size):
  ∃p o h,(Builtin.append_ #[t,t] G #[v,vS w.heap.size 1 1]).run P (w.alloc (.cells #[u] C))= .ok (.slice p (n+1) o) h/\h.ownsRow a e 1 (.slice p (n+1) o) (n+1) (q++[u])/\w.grownBy h v.ownBlock/\
   ∀g,(Value.slice p (n+1) o).ownBlock=some g->v.ownBlock=some g∨w.heap.size<=g:=by
 have⟨Z,h,j,J,U,m⟩:=DW (w.alloc (.cells #[u] C)) a t G e i z 1 bytes O R M d x s oO v n q (k.alloc _) _ _ 1 1 [u] (Is w C u) (fun y H=>by simp at H;subst H;exact Y) B c oT;obtain⟨p,o,rfl⟩:=Cr J;refine⟨p,o,h,j,J,DP U,fun g l=>?_⟩;rcases m with m|m
 .exact .inl (m▸l)
 .rw[m] at l;injection l with l;simp at l;exact .inr oO
theorem du (w:World) (t n e:Nat) {i:TypeInfo} (q:P.underlying t=some (.slice e)) (s:P.info? e=some i) (c:i.size=1) {g k cap:Nat} {a:Array Value} (p:w.heap[g]?=some (.cells a e (0,0)))
  (m:TypeId) {u:Value} (A:u.oneCell'=true) (d:k+1<=cap) (j:cap<=a.size):
  ∃W,(Builtin.append_ #[t,t] n #[vS g k cap,vS w.heap.size 1 1]).run P (w.alloc (.cells #[u] m))= .ok (vS g (k+1) cap) W/\W.heap[g]?=some (.cells (a.toList.take k++[u]++a.toList.drop (k+1)).toArray e (0,0))/\w.grownBy W (some g):=by
 have l:g<w.heap.size:=(Ak.1 p).1;have⟨W,h,x,v⟩:=K6 (w.alloc (.cells #[u] m)) t n e i q s c g k cap a ((Below.heap_alloc w _ g l).trans p) _ _ 1 1 [u] (Is w m u) (fun y o=>by simp at o;subst o;exact A) d j;exact⟨W,h,x,DP v⟩
end
end
end Go.Proofs.YtboflajfckfphaaGreatDoor
namespace Go.Proofs.YtboflajfckfphaaGreatDoor
open Go.RowKit Go
def gH {b:Type} (l D:Nat) (Inv:b->World->Prop) (a:Code->World->Prop) (s:b) (W:World):Exit->Act->World->Prop
 | .normal,_,W'=>(W'.heap[l]?=W.heap[l]?/\W'.heap[D]?=W.heap[D]?)/\Inv s W'
 | .ret,_,W'=>(W'.heap[l]?=W.heap[l]?/\W'.heap[D]?=W.heap[D]?)/\a .ret W'
 | .exit id,_,W'=>(W'.heap[l]?=W.heap[l]?/\W'.heap[D]?=W.heap[D]?)/\a (.exit id) W'
 | .goto t,_,W'=>(W'.heap[l]?=W.heap[l]?/\W'.heap[D]?=W.heap[D]?)/\a (.goto t) W'
 | .panic _,_,_=>False
 | .outgrown,_,_=>False
def dN (l D:Nat) (B:World->Prop):Prop:=∀W a:World,B W->a.heap[l]?=W.heap[l]?->a.heap[D]?=W.heap[D]?->B a
structure Ly (l D:Nat) (I:World->Prop):Prop where
 put:∀W k o o',I W->(k=l∨k=D)->W.heap[k]?=some o->o.isCells=false->I (W.putObj k o')
theorem KI {β:Type} {F:Fence} {n:Nat} {P:Program} {g:Operand} {ps:Array Tmp} {assign body:Code} {Q:Exit->Act->World->Prop} {a:Act} {w:World}
  (a2:F.round=none) (h1:1<=n) {gf:Nat} {lb:Array Value} (hg:a.eval g= .func (.func gf) #[] lb) (a8:F.fn gf) (eg:∀args w,(callFunc gf args).run P w= .ok (.enter gf args) w)
  (Inv:β->World->Prop) (Ix:Code->World->Prop) (Ok:β->Array Value->β->Prop) (End:β->Prop) (s0:β)
  (hI:∀s,Ly (w.heap.size+1) w.heap.size (Inv s)) (G:∀c,Ly (w.heap.size+1) w.heap.size (Ix c))
  (h0:∀o o',Inv s0 ((w.alloc o).alloc o'))
  (a9:∀s args B,Ok s args B->args.size=ps.size)
  (Z:∀s args B W,Ok s args B->Inv s W->
   assign.wpIn (F.inRound (w.heap.size+1)) (n- 1- 1) P (Exit.then (fun J j=>(j.heap[w.heap.size+1]?=W.heap[w.heap.size+1]?/\j.heap[w.heap.size]?=W.heap[w.heap.size]?)/\Inv s j/\
    ∀i,Inv s i->(∃rec:Loop,i.heap[w.heap.size+1]?=some (.loop rec))->(∃ds,i.heap[w.heap.size]?=some (.deferred ds))->body.wpIn (F.inRound (w.heap.size+1)) (n- 1- 1) P (gH (w.heap.size+1) w.heap.size Inv Ix B i) J i) (fun _ _ _=>False))
    {tmps:=(ps.zip args).foldl (fun t (p,v)=>t.setIfInBounds p v) a.tmps,defers:=[]} W)
  (S:∀(f:World->Prop) (m:Code->World->Prop),dN (w.heap.size+1) w.heap.size f->(∀c,dN (w.heap.size+1) w.heap.size (m c))->
   (∀W,f W->(∃rec:Loop,W.heap[w.heap.size+1]?=some (.loop rec))/\(∃ds,W.heap[w.heap.size]?=some (.deferred ds)))->
   (∀s args B W,Inv s W->f W->Ok s args B->YieldAt F (n- 1- 1) P (w.heap.size+1) args W fun e A=>
    (e= .returned bT/\Inv B A/\f A)∨(e= .returned bF/\∃c,Ix c A/\m c A))->
   ∀W,Inv s0 W->f W->CallsIn F (n- 1) P gf (#[.func (.yield (w.heap.size+1)) #[] #[]]++lb) W fun e A=>
    (∃v,e= .returned v)/\((∃s,End s/\Inv s A/\f A)∨(∃c,Ix c A/\m c A)))
  (U:∀s W,End s->Inv s W->W.heap[w.heap.size]?=some (.deferred (some []))->(∃rec:Loop,W.heap[w.heap.size+1]?=some (.loop rec))->Q .normal {a with defers:={target:= .collected w.heap.size,args:=#[]}::a.defers} W)
  (R:∀c W,Ix c W->W.heap[w.heap.size]?=some (.deferred (some []))->(∃rec:Loop,W.heap[w.heap.size+1]?=some (.loop rec))->c.wpIn F n P Q {a with defers:={target:= .collected w.heap.size,args:=#[]}::a.defers} W):
  (Code.rangeFunc g ps assign body).wpIn F n P Q a w:=by
 refine wpIn_rangeFunc ?_;intro fn a6;rw[a2];obtain⟨rec,d⟩:∃rec:LoopState->Option Code->Loop,rec=fun st pe=>{state:=st,pending:=pe,fn,tmps:=a.tmps,params:=ps,assign,body,defers:=w.heap.size}:=⟨_,rfl⟩
 obtain⟨L,D⟩:∃L,(w.alloc (.deferred (some []))).alloc (.loop (rec .ready none))=L:=⟨_,rfl⟩;have y:L.heap[w.heap.size+1]?=some (.loop (rec .ready none)):=by
  rw[<-D];have:=heap_alloc_new (w.alloc (.deferred (some []))) (.loop (rec .ready none));simpa using this
 have Y:L.heap[w.heap.size]?=some (.deferred (some [])):=by
  rw[<-D];exact(heap_alloc_old (w.alloc (.deferred (some []))) _ oS).trans (heap_alloc_new w _)
 refine⟨w.heap.size+1,[{target:= .collected w.heap.size,args:=#[]}],L,{target:= .fn (.func gf) lb,args:=#[.func (.yield (w.heap.size+1)) #[] #[]]},L,gf,
  #[.func (.yield (w.heap.size+1)) #[] #[]]++lb,L,?_,?_,?_,?_,fun _=>h1,?_⟩
 .rw[<-D,d];exact run_enterLoop_outer _ _ _ _ _
 .simp only[resolve,hg];simp[go_sem]
 .intro f' a1;simp[Target.leads] at a1;subst a1;exact a8
 .simp[invoke,go_sem,eg]
 have ne:w.heap.size+1≠w.heap.size:=oO;have q:∀(W:World) (o o':Obj),W.heap[w.heap.size+1]?=some o->(W.putObj (w.heap.size+1) o').heap[w.heap.size+1]?=some o'/\(W.putObj (w.heap.size+1) o').heap[w.heap.size]?=W.heap[w.heap.size]?:=fun W o o' h=>
  ⟨World.putObj_heap_same (Ak.1 h).1,World.putObj_heap_other (fun e=>ne e.symm)⟩
 refine(S (fun W=>W.heap[w.heap.size+1]?=some (.loop (rec .ready none))/\W.heap[w.heap.size]?=some (.deferred (some [])))
  (fun c W=>W.heap[w.heap.size+1]?=some (.loop (rec .done (some c)))/\W.heap[w.heap.size]?=some (.deferred (some [])))
  (fun W A h e1 e2=>⟨e1.trans h.1,e2.trans h.2⟩) (fun c W A h e1 e2=>⟨e1.trans h.1,e2.trans h.2⟩) (fun W h=>⟨⟨_,h.1⟩,⟨_,h.2⟩⟩) ?_ L (by rw[<-D];exact h0 _ _) ⟨y,Y⟩).mono ?_
 .rintro s args B W hi ⟨C,hd⟩ a4;have hy:=run_yield (P:=P) (args:=args) C (by grind);rw[d] at hy;refine⟨fn,_,assign,body,hy,roundIn_of_wpIn a6<|wpIn_mono (Z s args B W a4 hi) ?_⟩;rintro e J j r
  cases e with
  |normal=>
   have⟨⟨e1,e2⟩,a5,hb⟩:=r;have y:=e1.trans C;have Y:=e2.trans hd;refine⟨_,run_beginRound y (by rw[d]),?_⟩;have⟨k,M⟩:=q j _ (.loop {rec .ready none with state:= .busy}) y;have z:=M.trans Y;refine wpIn_mono (hb _ ((hI s).put _ _ _ _ a5 (.inl rfl) y rfl) ⟨_,k⟩ ⟨_,z⟩) ?_;have H:∀(b:Option Code) (u:World),u.heap[w.heap.size+1]?=some (.loop {rec .ready none with state:= .busy})->u.heap[w.heap.size]?=some (.deferred (some []))->
     (Instr.endRound (w.heap.size+1) b).run P u= .ok (.bool b.isNone) (u.putObj (w.heap.size+1) (.loop (rec (if b.isNone then .ready else .done) b)))/\
     (u.putObj (w.heap.size+1) (.loop (rec (if b.isNone then .ready else .done) b))).heap[w.heap.size+1]?=some (.loop (rec (if b.isNone then .ready else .done) b))/\
     (u.putObj (w.heap.size+1) (.loop (rec (if b.isNone then .ready else .done) b))).heap[w.heap.size]?=some (.deferred (some [])):=fun b u a0 a7=>by
    have h:=run_endRound (P:=P) b a0;rw[d] at h⊢;have⟨q1,q2⟩:=q u _ (.loop ({state:=if b.isNone then .ready else .done,pending:=b,fn,tmps:=a.tmps,params:=ps,assign,body,defers:=w.heap.size})) a0;exact⟨h,q1,q2.trans a7⟩
   rintro e a3 u r
   cases e with
   |normal=>
    have⟨⟨x,O⟩,l⟩:=r;have⟨f1,f2,f3⟩:=H none u (x.trans k) (O.trans z);exact⟨_,_,f1,.inl ⟨rfl,(hI B).put _ _ _ _ l (.inl rfl) (x.trans k) rfl,f2,f3⟩⟩
   |ret=>
    have⟨⟨x,O⟩,l⟩:=r;have⟨f1,f2,f3⟩:=H (some .ret) u (x.trans k) (O.trans z);exact⟨_,_,f1,.inr ⟨rfl,.ret,(G _).put _ _ _ _ l (.inl rfl) (x.trans k) rfl,f2,f3⟩⟩
   |exit id=>
    have⟨⟨x,O⟩,l⟩:=r;have⟨f1,f2,f3⟩:=H (some (.exit id)) u (x.trans k) (O.trans z);exact⟨_,_,f1,.inr ⟨rfl,.exit id,(G _).put _ _ _ _ l (.inl rfl) (x.trans k) rfl,f2,f3⟩⟩
   |goto t=>
    have⟨⟨x,O⟩,l⟩:=r;have⟨f1,f2,f3⟩:=H (some (.goto t)) u (x.trans k) (O.trans z);exact⟨_,_,f1,.inr ⟨rfl,.goto t,(G _).put _ _ _ _ l (.inl rfl) (x.trans k) rfl,f2,f3⟩⟩
   |panic ch=>exact r.elim
   |outgrown=>exact r.elim
  |ret=>exact r.elim
  |exit id=>exact r.elim
  |goto t=>exact r.elim
  |panic ch=>exact r.elim
  |outgrown=>exact r.elim
 .rintro e W2 ⟨⟨v,rfl⟩,(⟨s,hE,hi,C,hd⟩|⟨c,hi,C,hd⟩)⟩
  .refine⟨none,_,by have:=run_endLoop (P:=P) C (by rw[d];simp);rw[d] at this;exact this,?_⟩;have⟨k,M⟩:=q W2 _ (.loop {rec .ready none with state:= .exhausted}) C;rw[d] at k M;refine U s _ hE ((hI s).put _ _ _ _ hi (.inl rfl) C rfl) (M.trans hd) ⟨_,k⟩
  .refine⟨some c,_,by have:=run_endLoop (P:=P) C (by rw[d];simp);rw[d] at this;exact this,?_⟩;have⟨k,M⟩:=q W2 _ (.loop {rec .done (some c) with state:= .exhausted}) C;rw[d] at k M;refine R c _ ((G c).put _ _ _ _ hi (.inl rfl) C rfl) (M.trans hd) ⟨_,k⟩
end Go.Proofs.YtboflajfckfphaaGreatDoor
namespace Go.Proofs.YtboflajfckfphaaGreatDoor
open Go.RowKit Go Bud Go.Proofs.Tryz
section
def gd (L:Sts) (d:Op):Option (Nat×Value):=
 match d with
 | .box e x=>match ev L x with
  |some v=>bif v.oneCell' then some (e,v) else none
  |none=>none
 |_=>none
variable{v:Value}
theorem cells_one (h:v.oneCell'=true):v.cells=#[v]:=by cases v<;>first|rfl|cases h
variable{P:Program} {a:Act} {o:Oper}
theorem gg {N:Nat} {D:List Deferred} {L:Sts} (h:Has N D L a) {e:Nat} (d:gd L o.op=some (e,v)) (w:World):
  (execOp a.eval o).run P w= .ok (.value (vP w.heap.size 0)) (w.alloc (.cells #[v] e)):=by
 have⟨s,t,k,l,j,guard⟩:=o;unfold gd at d;simp only at d;split at d
 case h_2=>cases d
 rename_i y x;split at d
 case h_2=>cases d
 rename_i u m
 cases g:u.oneCell' with
 |false=>rw[g] at d;cases d
 |true=>
 rw[g] at d;injection d with d;injection d with q p;subst q p;have n:=cells_one g;simp only[execOp,h.val m];unfold Instr.box newVar;rw[n];simp[newRow,go_sem]
def UD (P:Program) (d:Op):Option (Nat×Value):=
 match d with
 | .alloc e=>match(P.info? e).bind (·.zero) with
  |some z=>bif z.oneCell' then some (e,z) else none
  |none=>none
 |_=>none
theorem ZO {e:Nat} (d:UD P o.op=some (e,v)) (w:World):
  (execOp a.eval o).run P w= .ok (.value (vP w.heap.size 0)) (w.alloc (.cells #[v] e)):=by
 have⟨u,x,m,q,l,guard⟩:=o;unfold UD at d;simp only at d;split at d
 case h_2=>cases d
 rename_i p;split at d
 case h_2=>cases d
 rename_i z g
 cases k:z.oneCell' with
 |false=>rw[k] at d;cases d
 |true=>
 rw[k] at d;injection d with d;injection d with t s;subst t s
 cases h:P.info? p with
 |none=>rw[h] at g;cases g
 |some j=>
 rw[h] at g;have g:j.zero=some z:=g;have n:=cells_one k;simp only[execOp];unfold Instr.alloc;simp only[Ay,zeroValue,typeInfo,h,g];simp only[newVar,n];simp[newRow,go_sem,h,g];show w.alloc (.cells z.cells p)=_;rw[n]
section
variable{z:Option Nat} {D:List Deferred} {f:Func} {r:Nat} {Q:EO} {S:Option (World->Prop)} {b:List Nat} {c:List Stp} {L L':Sts} {w:World}
variable{i:Nat}
theorem M1 (d e:Nat) (v:Value) (k:DD (Bt f r) L (B5 (Bt f r) i)=some true) (m:(B5 (Bt f r) i).dst=some d) (g:Nat.blt d f.ntmps=true)
  (l:gd L (B5 (Bt f r) i).op=some (e,v)) (n:b.contains i=true∨(CR S w w->CR S w (w.alloc (.cells #[v] e)))) (h:Es z D f r Q S b c ((d,vP w.heap.size 0)::L) (w.alloc (.cells #[v] e))):Es z D f r Q S b (.one i::c) L w:=by
 refine EB k fun a j=>D8 (gg j l w) ⟨n,by rw[m];exact h _ (j.put (Bn g) _)⟩
theorem FX {i:Nat} (d e:Nat) (v:Value) (j:DD (Bt f r) L (B5 (Bt f r) i)=some true) (m:(B5 (Bt f r) i).dst=some d) (g:Nat.blt d f.ntmps=true)
  (k:UD prog (B5 (Bt f r) i).op=some (e,v)) (n:b.contains i=true∨(CR S w w->CR S w (w.alloc (.cells #[v] e)))) (h:Es z D f r Q S b c ((d,vP w.heap.size 0)::L) (w.alloc (.cells #[v] e))):Es z D f r Q S b (.one i::c) L w:=by
 refine EB j fun a l=>D8 (ZO k w) ⟨n,by rw[m];exact h _ (l.put (Bn g) _)⟩
theorem Il (d:Nat) {w':World} (j:DD (Bt f r) L (B5 (Bt f r) i)=some true) (m:(B5 (Bt f r) i).dst=some d) (e:Nat.blt d f.ntmps=true) (l:Jl L (B5 (Bt f r) i)=true)
  (k:(execOp (I6 L) (B5 (Bt f r) i)).run prog w= .ok (.value v) w') (n:b.contains i=true∨(CR S w w->CR S w w')) (h:Es z D f r Q S b c ((d,v)::L) w'):Es z D f r Q S b (.one i::c) L w:=by
 refine EB j fun a g=>D8 (by rw[g.exec l];exact k) ⟨n,by rw[m];exact h _ (g.put (Bn e) _)⟩
def UE (L:Sts) (e:Op):Option (Nat×Array Value):=
 match e with
 | .call ⟨.value x,args,_⟩=>match ev L x with
  |some (.func (.yield l) first d)=>bif first.isEmpty&&d.isEmpty&&args.toList.all (fun y=>(ev L y).isSome) then some (l,args.map (I6 L)) else none
  |_=>none
 |_=>none
theorem ZP {N:Nat} (h:Has N D L a) {l:Nat} {g:Array Value} (e:UE L o.op=some (l,g)):(execOp a.eval o).run P w=(Instr.yield l g).run P w:=by
 have⟨H,J,q,t,p,guard⟩:=o;unfold UE at e;simp only at e;split at e
 case h_2=>cases e
 rename_i x m s;split at e
 case h_2=>cases e
 rename_i M first d A
 cases k:(first.isEmpty&&d.isEmpty&&m.toList.all (fun y=>(ev L y).isSome)) with
 |false=>rw[k] at e;cases e
 |true=>
 rw[k] at e;simp only[AE] at k;injection e with e;injection e with G C;subst G;have j:m.map a.eval=m.map (I6 L):=Array.map_congr_left fun y u=>by
  have:=Bi.1 k.2 y (by simpa using u)
  cases n:ev L y with
  |none=>rw[n] at this;cases this
  |some v=>rw[h.val n];unfold I6;rw[n];rfl
 have B:first=#[]:=by simpa using k.1.1
 subst B;simp only[execOp,resolve,h.val A,j];simp[Deferred.ofValue,invoke,C]
theorem _root_.Go.YieldAt.imp_yield {F:Fence} {m:Nat} {l:Nat} {d:Array Value} {W:World} {R n:Ending->World->Prop} (h:YieldAt F m P l d W R) (p:∀e w,R e w->n e w):YieldAt F m P l d W n:=by
 have⟨t,g,k,j,s,q⟩:=h;exact⟨t,g,k,j,s,q.mono p⟩
theorem aE (d l:Nat) (g:Array Value) (q:DD (Bt f r) L (B5 (Bt f r) i)=some true) (u:(B5 (Bt f r) i).dst=some d) (j:Nat.blt d f.ntmps=true)
  (t:UE L (B5 (Bt f r) i).op=some (l,g))
  (h:YieldAt (FR none) 0 prog l g w fun e k=>∃v,e= .returned v/\(b.contains i=true∨(CR S w w->CR S w k))/\HD f r Q S b c ((d,v)::L) k):HD f r Q S b (.one i::c) L w:=by
 refine EB q fun a n=>?_
 have⟨G,m,B,p,s,x⟩:=h;refine⟨fun _ _=>trivial,?_⟩;rw[show(FR none).round=none from rfl,Oper.semAt_none,ZP n t,s];refine⟨fun h=>(by cases h),x.mono ?_⟩;rintro H C ⟨v,rfl,A,y⟩;exact⟨A,by rw[u];exact y _ (n.put (Bn j) v)⟩
end
end
set_option maxRecDepth 1000000
def lj:Sh:= .seq (.reg 0) (.seq (.reg 1) .ret)
theorem dw:f200.body=some (lj.code f200):=oK
abbrev nO (b:Nat):Value:= .func (.func 293) #[] #[vP b 0,vP (b+1) 0]
theorem J3 (b:Nat) (a:Int) (w:World):Cg 200 #[vP b 0,I a] w fun d c=>d= .returned (nO w.heap.size)/\c=(w.alloc (.cells #[vP b 0] 237)).alloc (.cells #[I a] 3):=by
 refine CN dw<|Ad<|AY [.one 0,.one 1,AM 2 1]<|M1 2 237 (vP b 0) oK oK oK oK (.inl oK)<|M1 3 3 (I a) oK oK oK oK (.inl oK) ?_;have e:(w.alloc (.cells #[vP b 0] 237)).heap.size=w.heap.size+1:=oS;rw[e];refine AN [2,3] [qv 2 w.heap.size,(3,vP (w.heap.size+1) 0)]<|AK<|Ae (Ad<|B8 [] [4] [(4,.func (.func 293) #[] #[vP w.heap.size 0,vP (w.heap.size+1) 0])]<|Ae (Br (Bu rfl rfl ⟨rfl,rfl⟩)))
def lu:Sh:= .seq (.reg 0) (.block 0 (.loop (.seq (.reg 1) (.seq (.cond (.tmp 12) .skip (.exit 0)) (.seq (.block 1 (.seq (.reg 2) (.seq (.reg 3) (.cond (.tmp 23) .ret .skip)))) (.reg 4))))))
theorem dx:f293.body=some (lu.code f293):=oK
def iL (b c:Nat) (a:Int) (A:Option Addr) (cap:Nat) (l:List Int) (W:World):Prop:=
 W.cell? (ad b 0)=some (vP c 0)/\W.cell? ⟨b+1,0,none⟩=some (I a)/\W.cell? (ad c 0)=some (sq A l cap)/\∀(j:Nat) y,l[j]?=some y->∃g,A=some (ad g 0)/\W.cell? (ad g j)=some (I y)
theorem X9 {b gc:Nat} {lit:Int} {A:Option Addr} {cap:Nat} {l:List Int} (y:Nat) (J:List Int->World->Prop) (X:World->Prop) (P:l.length<=maxLen)
  (u:∀r W,J r W->iL b gc lit A cap l W)
  (D:∀x r W,J (x::r) W->YieldAt (FR none) 0 prog y #[I x] W fun e a=>(e= .returned bT/\J r a)∨(e= .returned bF/\X a)) {W:World} (z:J (l.filter fun x=>decide (x≠lit)) W):
  Cg 293 #[.func (.yield y) #[] #[],vP b 0,vP (b+1) 0] W fun e a=>(∃v,e= .returned v)/\(J [] a∨X a):=by
 refine CN dx ?_;have⟨s,q,p,o⟩:=u _ _ z;refine Ad ?_;have M:Aj [(ad b 0,vP gc 0),(ad gc 0,sq A l cap)] W:= .cons s (.cons p .nil);refine Fi [(0,.c 0),(3,.c 1)] [0,2,9,10,11] [(9,sq A l cap),(10,N l.length),(11,I 0)] M<|Ae (Bd<|Ct (fun m L a=>∃j,L=[(0,.func (.yield y) #[] #[]),(2,vP (b+1) 0),(9,sq A l cap),(10,N l.length),(11,N j)]/\j<=l.length/\J ((l.drop j).filter fun x=>decide (x≠lit)) a/\l.length<m+j) (n:=l.length+1) ⟨0,rfl,oO,by simpa using z,oO⟩ ?_);rintro m L a ⟨j,rfl,Q,h,O⟩;refine Ad ?_;by_cases f:j<l.length
 .have q1:(j:Int)<(l.length:Int):=oO;refine Be [(0,.T)] [0,2,9,10,11,12] [(12,bT)] (Bo (EE q1))<|Ae (Ad (Bg rfl (AZ (Ae (Ad (Bd (Ad ?_)))))));obtain⟨k,rfl⟩:∃k,m=k+1:=⟨m- 1,oO⟩;obtain⟨x,t⟩:∃x,l[j]?=some x:=⟨_,Ab f⟩;have⟨s,q,p,o⟩:=u _ _ h;obtain⟨g,rfl,C⟩:=o j x t;have G:l.drop j=x::l.drop (j+1):=by
   have⟨_,i⟩:=Aa.1 t;rw[Co f,i]
  rw[G] at h;have q2:j<maxLen:=oO;have H:Aj [(ad g j,I x)] a:= .cons C .nil;have B:Aj [(⟨b+1,0,none⟩,I lit)] a:= .cons q .nil;refine BA [(1,.c 0)] [0,2,5,9,10,11] [(5,I x),(9,vQ g l cap)] (Bo (oO:oX j l.length)) H<|Ae (Ad ?_);by_cases d:x=lit
  .have q3:(x !=lit)=false:=by simpa using d
   refine BA [(1,.c 0),(2,.F)] [0,2,5,9,10,11,23] [(23,bF)] (Bo (vB q3)) B<|Ae (B1 rfl (AZ (BN (Ae ?_))));rw[List.filter_cons_of_neg (by simpa using d)] at h;refine Be [(0,.e (N (j+1)))] [0,2,9,10,11] [(11,N (j+1))] (Bo (vJ (Ec q2 rfl)))<|BF (DV k) ⟨j+1,rfl,oO,h,oO⟩
  .have q3:(x !=lit)=true:=by simpa using d
   rw[List.filter_cons_of_pos (by simpa using d)] at h;refine AY [Cu 0 6 [(1,.c 0),(2,.T)],.one 6,AM 7 2]<|E3 [0,2,5,9,10,11,18,19,20] [(18,bT),(19,.func (.yield y) #[] #[]),(20,I x)] (Bo (vB q3)) B<|aE 21 y #[I x] oK oK oK oK ((D _ _ _ h).imp_yield ?_);rintro e R (⟨rfl,i⟩|⟨rfl,i⟩)
   .refine⟨_,rfl,.inl oK,AN [0,2,5,9,10,11,23] [(23,bF)]<|AK<|Ae (B1 rfl (AZ (BN (Ae<|Be [(0,.e (N (j+1)))] [0,2,9,10,11] [(11,N (j+1))] (Bo (vJ (Ec q2 rfl)))<|BF (DV k) ⟨j+1,rfl,oO,i,oO⟩))))⟩
   .refine⟨_,rfl,.inl oK,AN [0,2,5,9,10,11,23] [(23,bT)]<|AK<|Ae (Bg rfl (Br (BL (Bc nR (B6 nR (BL (ZW rfl ⟨⟨_,rfl⟩,.inr i⟩)))))))⟩
 .have q1:¬(j:Int)<(l.length:Int):=oO;refine Be [(0,.F)] [0,2,9,10,11,12] [(12,bF)] (Bo (Er q1))<|Ae (Ad (B1 rfl (BQ (Bc nX (B6 nX (Ck ?_))))));rw[Ew oO] at h;exact Fu rfl ⟨⟨_,rfl⟩,.inl h⟩
def mk (b:Nat):Deferred:={target:= .collected b,args:=#[]}
def Rd (l d:Nat) (J X:World->Prop) (W:World):EO
 | .normal,_,W'=>(W'.heap[l]?=W.heap[l]?/\W'.heap[d]?=W.heap[d]?)/\J W'
 | .ret,_,W'=>(W'.heap[l]?=W.heap[l]?/\W'.heap[d]?=W.heap[d]?)/\X W'
 |_,_,_=>False
instance{l d:Nat} {J X:World->Prop} {W:World}:BZ (Rd l d J X W):=⟨fun _ _ _ _ _ h=>h⟩
instance{l d:Nat} {J X:World->Prop} {W:World}:BZ (fun e a w=>Rd l d J X W e a w):=⟨fun _ _ _ _ _ h=>h⟩
theorem Rb {D:List Deferred} {f:Func} {x:Operand} {i ra:Nat} {sb:Sh} {Q:EO} {L:Sts} {w:World} {b gc cap:Nat} {A:Option Addr} {l:List Int} {lit:Int}
  (hx:ev L x=some (nO b)) (a3:Nat.blt i f.ntmps=true) (hl:l.length<=maxLen) (J:List Int->World->Prop) (X:World->Prop)
  (b1:∀r W,J r W->iL b gc lit A cap l W) (b0:∀r,Ly (w.heap.size+1) w.heap.size (J r)) (a9:Ly (w.heap.size+1) w.heap.size X)
  (h0:∀o U,J (l.filter fun y=>decide (y≠lit)) ((w.alloc o).alloc U)) (L1:Int->Sts)
  (O:∀y (Q':EO) W,GK [] f (fun a w=>Q' .normal a w) (L1 y) W->GS (some (w.heap.size+1)) [] f (.reg ra) Q' ((i,I y)::L) W)
  (m:∀y r W,J (y::r) W->(∃rec:Loop,W.heap[w.heap.size+1]?=some (.loop rec))->(∃ds,W.heap[w.heap.size]?=some (.deferred ds))->GS (some (w.heap.size+1)) [] f sb (Rd (w.heap.size+1) w.heap.size (J r) X W) (L1 y) W)
  (j:∀W,J [] W->W.heap[w.heap.size]?=some (.deferred (some []))->GK (mk w.heap.size::D) f (fun a w=>Q .normal a w) L W)
  (C:∀W,X W->W.heap[w.heap.size]?=some (.deferred (some []))->GK (mk w.heap.size::D) f (fun a w=>Q .ret a w) L W):
  GS none D f (.rangeFunc x #[i] (.reg ra) sb) Q L w:=by
 intro a g;refine wpIn_wide.2 ((wpIn_wide (n:=2)).1 ?_);have e1:∀d w,(callFunc 293 d).run prog w= .ok (.enter 293 d) w:=fun d w=>by
  have z:KJ prog 293=true:=oK;unfold KJ at z
  cases hf:prog.funcs[293]? with
  |none=>rw[hf] at z;cases z
  |some S=>
   rw[hf] at z;simp only[AE,CL] at z;have M:S.body.isNone=false:=by cases M:S.body<;>simp_all
   have hn:S.name≠ "runtime.NumGoroutine":=by simpa using z.1
   have a7:S.body≠none:=fun e=>by rw[e] at M;cases M
   simp[callFunc,hf,hn,a7,go_sem]
 refine KI (F:=Fence.wide) (n:=2) (P:=prog) rfl oO (gf:=293) (lb:=#[vP b 0,vP (b+1) 0]) (g.val hx) trivial e1
  J (fun c W=>c= .ret/\X W) (fun r d r'=>∃y,r=y::r'/\d=#[I y]) (fun r=>r=[]) (l.filter fun y=>decide (y≠lit))
  b0 (fun c=>⟨fun W k o U B q h3 h4=>⟨B.1,a9.put W k o U B.2 q h3 h4⟩⟩) h0 (fun s d s' h=>by obtain⟨y,_,rfl⟩:=h;rfl) ?_ ?_ ?_ ?_
 .rintro s d s' W ⟨y,rfl,rfl⟩ H;have hL:Has f.ntmps [] ((i,I y)::L) {tmps:=((#[i]:Array Nat).zip #[I y]).foldl (fun t (p,v)=>t.setIfInBounds p v) a.tmps,defers:=[]}:=by
   have q:Has f.ntmps [] L {tmps:=a.tmps,defers:=[]}:=⟨g.1,rfl,g.2.2⟩;have:=q.put (Bn a3) (I y);have e:((#[i]:Array Nat).zip #[I y]).foldl (fun t (p,v)=>t.setIfInBounds p v) a.tmps=a.tmps.setIfInBounds i (I y):=oS;rw[e];exact this
  refine O y _ W ?_ _ hL;intro a1 a8;refine⟨⟨rfl,rfl⟩,H,fun W2 a5 a4 a6=>wpIn_mono (m y s' W2 a5 a4 a6 a1 a8) fun e a2 W3 h=>?_⟩;cases e<;>first|exact h|exact⟨h.1,rfl,h.2⟩|exact h.elim
 .intro R u hB b3 b2 Z W H M;refine ZA.2 ?_;have Y:=X9 (b:=b) (gc:=gc) (lit:=lit) (A:=A) (cap:=cap) (l:=l) (w.heap.size+1) (fun r W=>J r W/\R W) (fun W=>∃c,(c= .ret/\X W)/\u c W) hl (fun r W h=>b1 r W h.1) (fun y r W h=>?_) (W:=W) ⟨H,M⟩
  .refine Y.mono ?_;rintro e W' ⟨hv,h|⟨c,h⟩⟩
   .exact⟨hv,.inl ⟨[],rfl,h⟩⟩
   .exact⟨hv,.inr ⟨c,h⟩⟩
  .refine(Z (y::r) #[I y] r W h.1 h.2 ⟨y,rfl,rfl⟩).imp_yield ?_;rintro e W' (⟨B,q⟩|⟨B,c,q⟩)
   .exact .inl ⟨B,q⟩
   .exact .inr ⟨B,c,q⟩
 .intro s W hE H hd G;subst hE;refine j W H hd _ ?_;exact⟨g.1,by rw[<-g.2.1];rfl,g.2.2⟩
 .rintro c W ⟨rfl,a0⟩ hd G;refine wpIn_ret (C W a0 hd _ ?_);exact⟨g.1,by rw[<-g.2.1];rfl,g.2.2⟩
def JT (c:Func) (R:Ending->World->Prop):EO
 | .normal,a,w| .ret,a,w=>LeavesInM Fence.wide 0 prog c a.tmps R a.defers .returning w
 |_,_,_=>False
instance{fn:Func} {R:Ending->World->Prop}:BZ (JT fn R):=⟨fun _ _ _ _ _ h=>h⟩
theorem Mz {f:Func} {s:Sh} {w:World} {k:Nat} {c:Array Value} {R:Ending->World->Prop} (q:prog.funcs[k]?=some f) (r:f.body=some (s.code f)) (l:Nat.ble c.size f.ntmps=true) (h:HW f s (JT f R) (Wn 0 c.toList) w):Cg k c w R:=by
 refine callsIn_wide.1 (callsIn_of_wp_marks (F:=Fence.wide) (n:=0) q r trivial ?_);have l:=Bn l;refine wpIn_mono (h _ ⟨oT,rfl,fun t v m=>?_⟩) fun e a w h=>?_
 .obtain⟨j,rfl,i⟩:=Qq _ _ _ _ m;rw[CC];simp only[BP] at i;have g:=(Ak.1 i).1;rw[Kq g];exact i
 .cases e<;>first|exact h|exact h.elim
structure Wu (d:List Nat) (w a:World):Prop where
 os:a.os=w.os
 tape:a.tape=w.tape
 output:a.output=w.output
 size:a.heap.size=w.heap.size
 keep:∀k,k∉d->a.heap[k]?=w.heap[k]?
theorem Wu.refl (w:World):Wu [] w w:=⟨rfl,rfl,rfl,rfl,fun _ _=>rfl⟩
def Qu (d:List Nat) (w:World):Prop:=d.Nodup/\∀b∈d,w.heap[b]?=some (.deferred (some []))
theorem J9 {m:Func} {f:Array Value} {R:Ending->World->Prop}:∀(d:List Nat) {w:World},Qu d w->(∀a,Wu d w a->∃v,(results m f).run prog a= .ok v a/\R (.returned v) a)->LeavesInM Fence.wide 0 prog m f R (d.map mk) .returning w
 |[],w,_,h=>h w (Wu.refl w)
 |b::d,w,⟨hn,hm⟩,h=>by
  rw[Dc] at hn;have l:=hm b oS;have n:=(Ak.1 l).1;refine⟨oS,.inl ⟨b,w.putObj b (.deferred none),rfl,run_takeDeferred l,J9 d ⟨hn.2,fun c i=>?_⟩ fun a g=>h a ?_⟩⟩
  .rw[World.putObj_heap_other (fun e=>hn.1 (by first|exact e▸i|exact e.symm▸i|(rw[<-e];exact i)|(rw[e];exact i)))];exact hm c (by simp[i])
  .refine⟨g.os,g.tape,g.output,by rw[g.size];simp[World.putObj],fun k j=>?_⟩;have j:k≠b/\k∉d:=by simpa using j
   rw[g.keep k j.2,World.putObj_heap_other j.1]
section
variable{B:Nat} {p:Px} {s:St} {S S':Sl} {w a w0:World} {d:List Nat}
theorem Rep.exc (h:Rep B p s S w) (f:Wu d w a) (j:∀r b,(S r).ownBlock=some b->b∉d):Rep B p s S a:=
 ⟨fun r=>by
  have i:=h.part r;refine⟨i.1,?_⟩;rcases i.2 with c|⟨g,cap,e,c,m,l,k⟩
  .exact .inl c
  .exact .inr ⟨g,cap,e,c,m,(f.keep g (j r g (by rw[c];rfl))).trans l,k⟩,h.apart,by rw[f.size];exact h.base⟩
theorem Step.exc (h:Step S S' w0 w) (c:Wu d w a) (i:∀b∈d,w0.heap.size<=b):Step S S' w0 a:=
 ⟨c.os.trans h.os,c.tape.trans h.tape,c.output.trans h.output,by rw[c.size];exact h.size,fun b e f=>(c.keep b (fun g=>by have:=i b g;omega)).trans (h.keep b e f),h.own⟩
def Out (S:Sl) (w:World) (b:Nat) (o:Obj):Prop:=w.heap[b]?=some o/\∀r,(S r).ownBlock≠some b
variable{b:Nat} {o:Obj}
theorem Out.step (h:Out S w b o) (e:Step S S' w a):Out S' a b o:=by
 have c:=(Ak.1 h.1).1;refine⟨(e.keep b c h.2).trans h.1,fun r g=>?_⟩;rcases e.own r b g with⟨t,f⟩|i
 .exact h.2 t f
 .omega
theorem Out.drew {b:Nat} {o:Obj} (h:Out S w b o):Out S w.drew b o:=h
theorem Out.cell {b j:Nat} {c:Array Value} {e:TypeId} {v:Value} (h:Out S w b (.cells c e)) (f:c[j]?=some v):w.cell? (ad b j)=some v:=by
 simp[World.cell?,h.1,f]
theorem Out.free {j:Nat} {c:Array Value} {e:TypeId} (h:Out S w b (.cells c e)):w.frozen? (ad b j)=false:=by
 simp[World.frozen?,h.1]
theorem Out.lt (h:Out S w b o):b<w.heap.size:=(Ak.1 h.1).1
end
section
abbrev Cn:=TypeId×Nat×Nat×List Value
abbrev An:Value:= .slice none 0 0
abbrev F1:Cn:=(3,1,0,[])
def CI {e:Type} (T:Nat->e) (k:Nat) (v:e):Nat->e:=fun i=>if i=k then v else T i
theorem AB {e:Type} (T:Nat->e) (k:Nat) (v:e):CI T k v k=v:=if_pos rfl
variable{k:Nat}
theorem Au {e:Type} (T:Nat->e) {i:Nat} (v:e) (h:i≠k):CI T k v i=T i:=if_neg h
def KeptAt (f:List (Nat×Obj)) (a w:World):Prop:=(f.map (·.1)).Nodup/\∀q∈f,w.heap[q.1]?=some q.2/\q.2.isCells=false/\a.heap.size<=q.1
structure Loc (B:Nat) (p:Px) (s:St) (y S:Sl) (a w:World) (T:Nat->Value) (C:Nat->Cn) (f:List (Nat×Obj)):Prop where
 rep:Rep B p s S w
 st:Step y S a w
 part:∀k,Ba a.heap.size w (T k) (C k)
 apart:∀k l b,k≠l->(T k).ownBlock=some b->(T l).ownBlock≠some b
 out:∀k b,(T k).ownBlock=some b->∀r,(S r).ownBlock≠some b
 mks:KeptAt f a w
theorem Ba.mono {B j:Nat} {w d:World} {v:Value} {x:Cn} (h:Ba B w v x) (l:∀b,v.ownBlock=some b->j<=b/\d.heap[b]?=w.heap[b]?):Ba j d v x:=by
 refine⟨h.1,?_⟩;rcases h.2 with e|⟨g,cap,i,e,r,q,m⟩
 .exact .inl e
 .have⟨q1,q2⟩:=l g (by rw[e];rfl);exact .inr ⟨g,cap,i,e,q1,q2.trans q,m⟩
section
variable{B:Nat} {p p':Px} {s s':St} {y S S':Sl} {a w d:World} {T:Nat->Value} {C:Nat->Cn} {f:List (Nat×Obj)}
theorem Loc.init (h:Rep B p s S w):Loc B p s S S w w (fun _=>An) (fun _=>F1) []:=
 ⟨h,Step.refl _ _,fun _=>⟨rfl,.inl ⟨rfl,rfl⟩⟩,fun _ _ _ _ h=>(by cases h),fun _ _ h=>(by cases h),⟨Hq,fun b e=>(by cases e)⟩⟩
variable{b:Nat}
theorem Loc.lo (h:Loc B p s y S a w T C f) (e:(T k).ownBlock=some b):a.heap.size<=b/\b<w.heap.size:=Ax (h.part k) b e
theorem Loc.mkS (h:Loc B p s y S a w T C f) {q:Nat×Obj} (v:q∈f):(∀r,(S r).ownBlock≠some q.1)/\(∀k,(T k).ownBlock≠some q.1):=by
 have⟨m,l,_⟩:=h.mks.2 q v;refine⟨fun r i=>?_,fun k j=>?_⟩
 .rcases(h.rep.part r).2 with⟨e,_⟩|⟨g,cap,u,e,x,t,_⟩
  .rw[e] at i;cases i
  .rw[e] at i;have i:g=q.1:=Ah i;rw[<-i,t] at m;rw[<-Ah m] at l;cases l
 .rcases(h.part k).2 with⟨e,_⟩|⟨g,cap,u,e,x,t,_⟩
  .rw[e] at j;cases j
  .rw[e] at j;have j:g=q.1:=Ah j;rw[<-j,t] at m;rw[<-Ah m] at l;cases l
theorem Loc.mkB (h:Loc B p s y S a w T C f) (i:b∈f.map (·.1)):(∀r,(S r).ownBlock≠some b)/\(∀k,(T k).ownBlock≠some b)/\a.heap.size<=b:=by
 obtain⟨q,e,rfl⟩:=BB.1 i;exact⟨(h.mkS e).1,(h.mkS e).2,(h.mks.2 q e).2.2⟩
theorem Loc.E (h:Loc B p s y S a w T C f) (l:Rep B p' s' S' d) (i:Step S S' w d):Loc B p' s' y S' a d T C f:=
 ⟨l,h.st.trans i,fun k=>(h.part k).mono fun b e=>⟨(h.lo e).1,i.keep b (h.lo e).2 (h.out k b e)⟩,h.apart,fun k b e r l=>by
  rcases i.own r b l with⟨t,m⟩|u
  .exact h.out k b e t m
  .have:=(h.lo e).2;omega,⟨h.mks.1,fun q j=>⟨(i.keep q.1 (Ak.1 (h.mks.2 q j).1).1 (h.mkS j).1).trans (h.mks.2 q j).1,(h.mks.2 q j).2⟩⟩⟩
theorem Loc.below (h:Loc B p s y S a w T C f) (e:Bl w d):Loc B p s y S a d T C f:=by
 have⟨j,i⟩:=h.rep.still e;exact h.E j i
theorem Loc.drew (h:Loc B p s y S a w T C f):Loc B p s y S a w.drew T C f:=⟨h.rep.drew,h.st.drew,h.part,h.apart,h.out,h.mks⟩
theorem Loc.turn (h:Loc B p s y S a w T C f) (k:Nat) {v:Value} {x:Cn} (P:Ba a.heap.size d v x) (D:w.grownBy d (T k).ownBlock) (O:∀b,v.ownBlock=some b->(T k).ownBlock=some b∨w.heap.size<=b):
  Loc B p s y S a d (CI T k v) (CI C k x) f:=by
 have L:∀b,b<w.heap.size->(T k).ownBlock≠some b->d.heap[b]?=w.heap[b]?:=fun b t i=>D.block b t (fun e=>i e.symm)
 have H:∀r b,(S r).ownBlock=some b->d.heap[b]?=w.heap[b]?:=fun r b j=>L b (h.rep.lo j).2 (fun e=>h.out k b e r j)
 refine⟨⟨fun r=>(h.rep.part r).mono fun b j=>⟨(h.rep.lo j).1,H r b j⟩,h.rep.apart,Bj h.rep.base D.size⟩,⟨D.os.trans h.st.os,D.tape.trans h.st.tape,D.output.trans h.st.output,Bj h.st.size D.size,fun b t Q=>?_,h.st.own⟩,fun l=>?_,fun l m b i G A=>?_,fun l b u r j=>?_,⟨h.mks.1,fun q J=>⟨(L q.1 (Ak.1 (h.mks.2 q J).1).1 ((h.mkS J).2 k)).trans (h.mks.2 q J).1,(h.mks.2 q J).2⟩⟩⟩
 .rw[L b (Bx t h.st.size) (fun e=>by have:=(h.lo e).1;omega)];exact h.st.keep b t Q
 .by_cases e:l=k
  .subst e;rw[AB,AB];exact P
  .rw[Au _ _ e,Au _ _ e];exact(h.part l).mono fun b u=>⟨(h.lo u).1,L b (h.lo u).2 (fun M=>h.apart l k b e u M)⟩
 .by_cases e:l=k
  .subst e;rw[AB] at G;rw[Au _ _ (Ne.symm i)] at A;rcases O b G with z|z
   .exact h.apart l m b i z A
   .have:=(h.lo A).2;omega
  .rw[Au _ _ e] at G;by_cases M:m=k
   .subst M;rw[AB] at A;rcases O b A with z|z
    .exact h.apart l m b i G z
    .have:=(h.lo G).2;omega
   .rw[Au _ _ M] at A;exact h.apart l m b i G A
 .by_cases e:l=k
  .subst e;rw[AB] at u;rcases O b u with z|z
   .exact h.out l b z r j
   .have:=(h.rep.lo j).2;omega
  .rw[Au _ _ e] at u;exact h.out l b u r j
theorem Loc.new (h:Loc B p s y S a w T C f) (k:Nat) (e:TypeId) (v:Value):Loc B p s y S a (w.alloc (.cells #[v] e)) (CI T k (vS w.heap.size 1 1)) (CI C k (e,1,1,[v])) f:=by
 have l:(w.alloc (.cells #[v] e)).heap[w.heap.size]?=some (.cells #[v] e):=heap_alloc_new w _;refine h.turn k ⟨rfl,.inr ⟨w.heap.size,1,#[v],rfl,h.st.size,l,Ai 1,oD,oS,oS⟩⟩ ?_ (fun b i=> .inr ?_)
 .have i:Bl w (w.alloc (.cells #[v] e)):=(Below.refl _ _).alloc (Ai _) _;exact⟨i.os,i.tape,i.output,i.size,fun b j _=>i.block b j⟩
 .injection i with i;exact Nat.le_of_eq i
theorem Loc.cell (h:Loc B p s y S a w T C f) (k:Nat) {g n c:Nat} (m:T k=vS g n c) {j:Nat} {u:Value} (l:(C k).2.2.2[j]?=some u):w.cell? (ad g j)=some u:=by
 have e:=h.part k;rw[m] at e;have q:n=(C k).2.2.1:=by
  rcases e.2 with⟨i,_⟩|⟨v,cap,t,i,_⟩
  .cases i
  .injection i
 subst q;have r:j<(C k).2.2.1*(C k).2.1:=by rw[<-e.1];exact(Aa.1 l).1
 rw[Ed e j r,l]
variable{g n c:Nat}
theorem Loc.free (h:Loc B p s y S a w T C f) (k:Nat) (l:T k=vS g n c) (j:Nat):w.frozen? (ad g j)=false:=by
 have i:=h.part k;rw[l] at i;have m:n=(C k).2.2.1:=by
  rcases i.2 with⟨e,_⟩|⟨r,cap,q,e,_⟩
  .cases e
  .injection e
 subst m;exact DE i j
theorem EZ {e:Type} (T:Nat->e) (k:Nat):CI T k (T k)=T:=by
 funext i;unfold CI;split
 .rename_i h;rw[h]
 .rfl
theorem Loc.put (h:Loc B p s y S a w T C f) (k:Nat) (i:T k=vS g n c) (j:Nat) (u:Value):Loc B p s y S a (w.setCell (ad g j) u) T (CI C k ((C k).1,(C k).2.1,(C k).2.2.1,(C k).2.2.2.set j u)) f:=by
 have q:=h.part k;rw[i] at q;have r:n=(C k).2.2.1:=by
  rcases q.2 with⟨m,_⟩|⟨A,cap,z,m,_⟩
  .cases m
  .injection m
 have x:=FY (r▸q) j u;have v:Ba a.heap.size (w.setCell (ad g j) u) (T k) ((C k).1,(C k).2.1,(C k).2.2.1,(C k).2.2.2.set j u):=by
  rw[i];exact r▸x.1
 have:=h.turn k v (by
  refine⟨by simp[World.setCell],by simp[World.setCell],by simp[World.setCell],oS,fun b t l=>Below.heap_setCell _ _ _ _ (fun e=>l (by rw[i];rw[e];rfl))⟩) (fun b t=> .inl t)
 rw[EZ] at this;exact this
theorem Loc.form (h:Loc B p s y S a w T C f) (k:Nat):∃A c,T k= .slice A (C k).2.2.1 c:=Cr (h.part k)
theorem Loc.formSome (h:Loc B p s y S a w T C f) (k:Nat) (q:0<(C k).2.2.1):∃g c,T k=vS g (C k).2.2.1 c/\g<w.heap.size/\(C k).2.2.1<=c/\c<=maxLen:=by
 rcases(h.part k).2 with⟨_,e⟩|⟨g,cap,m,e,r,l,j,i,_⟩
 .omega
 .exact⟨g,cap,e,(Ak.1 l).1,j,i⟩
theorem Loc.app1 (h:Loc B p s y S a w T C f) (k t e bytes:Nat) {i:TypeInfo} {z:Value} (L:prog.underlying t=some (.slice e)) (Q:prog.info? e=some i) (J:i.zero=some z) (l:i.size=1) (v:i.bytes=bytes) (r:z.cells.size=1)
  {n:Nat} {A:List Value} (Y:C k=(e,1,n,A)) (D H:Nat) {u:Value} (Z:u.oneCell'=true) (x:n+1<=maxLen) (j:(n+1)*bytes<=140737488355328):
  ∃q m d,(Builtin.append_ #[t,t] D #[T k,vS w.heap.size 1 1]).run prog (w.alloc (.cells #[u] H))= .ok (.slice q (n+1) m) d/\Loc B p s y S a d (CI T k (.slice q (n+1) m)) (CI C k (e,1,n+1,A++[u])) f:=by
 have G:=h.part k;rw[Y] at G;have⟨q,m,d,M,O,R,U⟩:=GH (P:=prog) w a.heap.size t D e L Q J l v r G H Z x j h.st.size;exact⟨q,m,d,M,h.turn k O R U⟩
theorem Loc.putObj (h:Loc B p s y S a w T C f) {k:Nat} {o D:Obj} (m:w.heap[k]?=some o) (G:o.isCells=false) (O:a.heap.size<=k) (x:k∉f.map (·.1)):Loc B p s y S a (w.putObj k D) T C f:=by
 have J:∀r b,(S r).ownBlock=some b->b≠k:=fun r b l e=>by
  subst e;rcases(h.rep.part r).2 with⟨t,_⟩|⟨g,cap,A,t,M,z,_⟩
  .rw[t] at l;cases l
  .rw[t] at l;injection l with l;subst l;rw[z] at m;injection m with m;subst m;cases G
 have H:∀i b,(T i).ownBlock=some b->b≠k:=fun i b l e=>by
  subst e;rcases(h.part i).2 with⟨t,_⟩|⟨g,cap,A,t,M,z,_⟩
  .rw[t] at l;cases l
  .rw[t] at l;injection l with l;subst l;rw[z] at m;injection m with m;subst m;cases G
 have u:Wu [k] w (w.putObj k D):=⟨rfl,rfl,rfl,by simp[World.putObj],fun j L=>World.putObj_heap_other (by simpa using L)⟩;exact⟨h.rep.exc u (fun r b l=>by simpa using J r b l),h.st.exc u (fun b x=>by simp at x;omega),fun i=>(h.part i).mono fun b l=>⟨(h.lo l).1,u.keep b (by simpa using H i b l)⟩,h.apart,h.out,
  ⟨h.mks.1,fun q v=>⟨(u.keep q.1 (fun e=>by simp at e;exact x (e▸BB.2 ⟨q,v,rfl⟩))).trans (h.mks.2 q v).1,(h.mks.2 q v).2⟩⟩⟩
variable{o:Obj}
theorem Loc.mark (h:Loc B p s y S a w T C f) (l:w.heap[b]?=some o) (i:o.isCells=false) (m:a.heap.size<=b) (j:b∉f.map (·.1)):Loc B p s y S a w T C ((b,o)::f):=
 ⟨h.rep,h.st,h.part,h.apart,h.out,by rw[BI];exact Dc.2 ⟨j,h.mks.1⟩,fun q e=>by
  rcases Az.1 e with rfl|e
  .exact⟨l,i,m⟩
  .exact h.mks.2 q e⟩
theorem Loc.unmark {q:Nat×Obj} (h:Loc B p s y S a w T C (q::f)):Loc B p s y S a w T C f:=
 ⟨h.rep,h.st,h.part,h.apart,h.out,(Dc.1 h.mks.1).2,fun q e=>h.mks.2 q (Dk _ e)⟩
theorem Loc.exc (h:Loc B p s y S a w T C f) (i:Wu (f.map (·.1)) w d):Loc B p s y S a d T C []:=
 ⟨h.rep.exc i (fun r b l j=>(h.mkB j).1 r l),h.st.exc i (fun b e=>(h.mkB e).2.2),fun k=>(h.part k).mono fun b e=>⟨(h.lo e).1,i.keep b (fun j=>(h.mkB j).2.1 k e)⟩,h.apart,h.out,Hq,fun b e=>(by cases e)⟩
theorem Loc.kept {t:Obj} (h:Loc B p s y S a w T C ((b,o)::f)) (l:w.grownBy d (some b)) (H:d.heap[b]?=some t) (D:t.isCells=false):Loc B p s y S a d T C ((b,t)::f):=by
 have v:=h.mkS (q:=(b,o)) oS;have x:=(h.mks.2 (b,o) oS).2.2;have A:∀r c,(S r).ownBlock=some c->d.heap[c]?=w.heap[c]?:=fun r c i=>l.block c (h.rep.lo i).2 (fun e=>v.1 r (by rw[i];exact e))
 have z:∀k c,(T k).ownBlock=some c->d.heap[c]?=w.heap[c]?:=fun k c i=>l.block c (h.lo i).2 (fun e=>v.2 k (by rw[i];exact e))
 refine⟨⟨fun r=>(h.rep.part r).mono fun c i=>⟨(h.rep.lo i).1,A r c i⟩,h.rep.apart,Bj h.rep.base l.size⟩,⟨l.os.trans h.st.os,l.tape.trans h.st.tape,l.output.trans h.st.output,Bj h.st.size l.size,fun c m G=>(l.block c (Bx m h.st.size) (fun e=>by have e:=Ah e;subst e;exact absurd m (by simpa using x))).trans (h.st.keep c m G),h.st.own⟩,
  fun k=>(h.part k).mono fun c i=>⟨(h.lo i).1,z k c i⟩,h.apart,h.out,h.mks.1,fun q j=>?_⟩
 rcases Az.1 j with rfl|j
 .exact⟨H,D,x⟩
 .have u:=h.mks.2 q (Dk _ j);refine⟨(l.block q.1 (Ak.1 u.1).1 (fun e=>?_)).trans u.1,u.2⟩;have e:=Ah e;exact(Dc.1 h.mks.1).1 (BB.2 ⟨q,j,e⟩)
theorem Loc.abides {l d:Nat} (q:a.heap.size<=l) (t:a.heap.size<=d) (e:l∉f.map (·.1)) (i:d∉f.map (·.1)):Ly l d (fun W=>Loc B p s y S a W T C f):=
 ⟨fun W k o u h r j m=>by rcases r with rfl|rfl;exact h.putObj j m q e;exact h.putObj j m t i⟩
end
end
end Go.Proofs.YtboflajfckfphaaGreatDoor
