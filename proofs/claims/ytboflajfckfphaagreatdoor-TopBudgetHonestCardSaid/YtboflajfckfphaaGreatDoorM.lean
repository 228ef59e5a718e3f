/- A part of the proof of TopBudgetHonest. -/
import Derived.LaidMore
import Derived.Test.YtboflajfckfphaaGreatDoorL
set_option linter.all false
namespace Go.Refl
open Go.RowKit
structure Piece where
 f:FuncId
 args:List AV
 base:List (Nat×AO)
 nx:Nat
 v:AV
 res:List (Nat×AO)
 more:Nat
noncomputable section
def Piece.mb (G:Nat) (p:Piece):Nat:=Nat.lor (Nat.sub (Fc G) 1) (Iw p.base)
def Piece.fits (G:Nat) (p:Piece):Bool:=
 both (both (Nat.ble (Nat.succ (p.mb G)) (Fc p.nx)) (both (Fp (RU (p.mb G)) p.args) (Fp (fun x:Nat×AO=>WH (p.mb G) true x.2) p.base)))
  (both (Fp (fun x:Nat×AO=>both (both (Nat.ble p.nx x.1) (Nat.ble (Nat.succ x.1) (Nat.add p.nx p.more))) (WH (Nat.lor (p.mb G) (Iw p.res)) false x.2)) p.res) (RU (Nat.lor (p.mb G) (Iw p.res)) p.v))
def iB (l:List (Nat×AO)) (h:AH):Bool:=Fp (fun x:Nat×AO=>match h.m.get x.1 with|some o=>mK o x.2|none=>false) l
def Piece.runs (E:Env) (n:Nat) (p:Piece):Bool:=EQ p.base .leaf fun m=>O4 E (run E (drawn E) n) p.f p.args ⟨m,p.nx⟩ fun v h=>both (VF v p.v) (iB p.res h)
def shift (nx a b:Nat):Nat:=cond (Nat.ble nx b) (Nat.add a (Nat.sub b nx)) b
def Piece.here (p:Piece) (args:List AV) (h:AH):Bool:=both (leq VF args p.args) (dC p.base h)
def Piece.take (p:Piece) (h:AH) (g:AV->AH->Bool):Bool:=
 EQ (lmap (fun x:Nat×AO=>(shift p.nx h.nx x.1,Q6 (shift p.nx h.nx) x.2)) p.res) h.m fun m=>IK (Nat.add h.nx p.more) fun n=>g (NK (shift p.nx h.nx) p.v) ⟨m,n⟩
def pieces (ps:List Piece) (f:FuncId) (args:List AV) (h:AH) (g:AV->AH->Bool) (z:Option Bool):Option Bool:=
 Ds z (fun p _ a=>cond (Nat.beq f p.f) (cond (p.here args h) (some (p.take h g)) a) a) ps
end
theorem Wc {nx a b:Nat} (h:b<nx):shift nx a b=b:=by
 unfold shift;have:Nat.ble nx b=false:=by
  cases e:Nat.ble nx b with
  |false=>rfl
  |true=>have:=ble_eq e;omega
 rw[this];rfl
theorem LI {nx a b:Nat} (h:nx<=b):shift nx a b=a+(b-nx):=by
 unfold shift;rw[FA h];rfl
theorem X0 {e c:BJ} {m:Nat} (d:∀b,bit m b=true->∀x,e b=some x->c b=some x) {args:List AV} {a:List Value} (g:Fp (RU m) args=true) (h:E8 e args a):E8 c args a:=
 ⟨h.1,fun i v x f l=>by
  rcases h.2 i v x f l with k|j
  .exact .inl k
  .have:=JY (ρ:=id) d (EW g v (AQ f)) j;rw[Vg] at this;exact .inr this⟩
theorem Rh {P:Program} {E:Env} {Good:Ctx->Prop} (c3:∀C,Good C->C.G=E.ng) (c1:∀(C:Ctx) (w:World),Good C->C.B<=w.heap.size->Below C.B C.w0 w->Good ⟨C.G,w.heap.size,w⟩)
  (hE:∀C:Ctx,Good C->Em P E C) (hH:∀C:Ctx,Good C->Ep P E C) (hm:P.follows .mixedOrders=true) {n:Nat} {p:Piece} (a2:p.fits E.ng=true) (b5:p.runs E n=true)
  {C:Ctx} (J:Good C) {args:List AV} {h:AH} {g:AV->AH->Bool} (b0:p.here args h=true) (a6:p.take h g=true):∃v h',g v h'=true/\ET P C p.f args h v h':=by
 have hG:=c3 C J;unfold Piece.fits at a2;simp only[BC] at a2;have⟨⟨f1,f2,f3⟩,f4,f5⟩:=a2;have⟨e1,e2⟩:=(BC _ _).1 (show both (leq VF args p.args) (dC p.base h)=true from b0);have e1:=JE (fun _ _=>O7) e1;subst e1;generalize b6:p.mb E.ng=mb at f1 f2 f3 f4 f5;have c6:∀b,b<E.ng->bit mb b=true:=fun b d=>by
  rw[<-b6];unfold Piece.mb;rw[G6,Cv];left;rw[IX];have:Nat.sub (Fc E.ng) 1=2^E.ng- 1:=by
   show 1<<<E.ng- 1=_;rw[Nat.one_shiftLeft]
  rw[this,Nat.testBit_two_pow_sub_one];simpa using d
 have c5:∀b o,(b,o)∈p.base->bit mb b=true:=fun b o d=>by
  rw[<-b6];unfold Piece.mb;rw[G6,Cv];exact .inr (GW.2 ⟨o,d⟩)
 have c2:∀b,bit mb b=true->b<p.nx:=fun b d=>by
  have j:=ble_eq f1;have:mb<2^p.nx:=by
   have e:Fc p.nx=2^p.nx:=by
    show 1<<<p.nx=_;rw[Nat.one_shiftLeft]
   rw[e] at j;exact j
  apply IA;intro S;rw[IX,Nat.testBit_lt_two_pow (Bx this (Nat.pow_le_pow_right oO S))] at d;cases d
 have H:∀b o,(b,o)∈p.base->∃o',h.m.get b=some o'/\WI o' o=true/\b<h.nx:=fun b o d=>by
  have:=EW e2 (b,o) d;split at this
  .rename_i o' ho;have⟨q1,q2⟩:=(BC _ _).1 this;exact⟨o',ho,q1,ble_eq q2⟩
  .cases this
 have A:∀b o,(b,o)∈p.res->p.nx<=b/\b<p.nx+p.more/\WH (Nat.lor mb (Iw p.res)) false o=true:=fun b o d=>by
  have:=EW f4 (b,o) d;simp only[BC] at this;exact⟨ble_eq this.1.1,ble_eq this.1.2,this.2⟩
 have⟨m,a7,b7⟩:=Me b5;have a1:∀L:Ctx,Good L->∃h',ET P L p.f p.args ⟨m,p.nx⟩ p.v h'/\∀b o,(b,o)∈p.res->h'.m.get b=some o:=fun L i=>by
  have⟨v,h',q1,q2⟩:=IJ (hE L i) (hH L i) (Mn (hE L i) (hH L i) (RY (hE L i) (hH L i) hm) n) a7;have⟨q3,q4⟩:=(BC _ _).1 q1;have:=O7 q3;subst this;refine⟨h',q2,fun b o d=>?_⟩;have:=EW q4 (b,o) d;split at this
  .rename_i o' ho;rw[ho,eZ this]
  .cases this
 have⟨m2,hg,b1⟩:=Me (show EQ (lmap (fun x:Nat×AO=>(shift p.nx h.nx x.1,Q6 (shift p.nx h.nx) x.2)) p.res) h.m (fun m=>IK (Nat.add h.nx p.more) fun n=>g (NK (shift p.nx h.nx) p.v) ⟨m,n⟩)=true from a6);rw[Dx] at hg;refine⟨_,_,hg,fun w xs=>?_,fun σ w b3 k ha=>?_⟩
 .have⟨h',q1,_⟩:=a1 C J;exact q1.1 w xs
 ·
  have c8:=k.nx;have a5:∀b x,σ b=some x->b<h.nx:=fun b x d=>by
   apply IA;intro S;rw[k.fresh b S] at d;cases d
  obtain⟨l,Z⟩:∃l:BJ,l=⟨fun b=>if bit mb b=true then σ b else none,p.nx⟩:=⟨_,rfl⟩;have b9:∀b,bit mb b=true->l b=σ b:=fun b d=>by rw[Z];simp[d]
  have c4:∀b,bit mb b=false->l b=none:=fun b d=>by rw[Z];simp[d]
  have b8:l.nx=p.nx:=by rw[Z]
  have a0:∀b,bit mb b=true->∀x,σ b=some x->l b=some x:=fun b d x s=>by rw[b9 b d];exact s
  have O:∀b x,l b=some x->bit mb b=true/\σ b=some x:=fun b x s=>by
   cases d:bit mb b with
   |true=>rw[b9 b d] at s;exact⟨rfl,s⟩
   |false=>rw[c4 b d] at s;cases s
  obtain⟨L,i⟩:∃L:Ctx,L=⟨C.G,w.heap.size,w⟩:=⟨_,rfl⟩;have c7:Good L:=by rw[i];exact c1 C w J k.base k.below
  have Y:∀b o,m.get b=some o->(b,o)∈p.base:=fun b o d=>by
   rcases b7 b o d with j|⟨_,j⟩
   .exact j
   .rw[Tr.get_leaf] at j;cases j
  have kc:BK L l ⟨m,p.nx⟩ w:=by
   refine⟨by rw[i];exact Below.refl _ _,by rw[i];exact Ai _,fun b d=>?_,fun b d=>?_,b8,fun b o x j U=>?_,fun b o x j U h3 h4=>?_,fun b c o q x y j U h3 h4 a3 h5 h6=>?_⟩
   .rw[i] at d;exact a0 b (c6 b (by rw[<-hG];exact d)) _ (k.glob b d)
   .grind
   .have⟨o',q1,q2,_⟩:=H b o (Y b o j);exact ee q2 (EW f3 (b,o) (Y b o j)) a0 (k.obj b o' x q1 (O b x U).2)
   .have:=(Vi (EW f3 (b,o) (Y b o j))).1;rw[this] at h4;cases h4
   .have⟨o',q1,q2,_⟩:=H b o (Y b o j);have⟨p',q3,q4,_⟩:=H c q (Y c q U);exact k.apart b c o' p' x y q1 q3 (O b x h3).2 (O c y h4).2 a3 (P7 q2) (P7 q4)
  have⟨h',b2,a9⟩:=a1 L c7;refine(b2.2 l w b3 kc (X0 a0 f2 ha)).mono fun e w' hq=>?_
  obtain⟨x,R,rfl,S,k',s⟩:=hq;have t:Below w.heap.size w w':=by have:=k'.below;rw[i] at this;exact this
  obtain⟨r,z⟩:∃r:BJ,r=⟨fun b=>if b<h.nx then σ b else if bit (Iw p.res) (b-h.nx+p.nx)=true then R (b-h.nx+p.nx) else none,h.nx+p.more⟩:=⟨_,rfl⟩;have s1:∀b,b<h.nx->r b=σ b:=fun b d=>by rw[z];simp[d]
  have s2:∀b,p.nx<=b->bit (Iw p.res) b=true->r (h.nx+(b-p.nx))=R b:=fun b d D=>by
   rw[z];have e1:¬(h.nx+(b-p.nx)<h.nx):=oO;have e2:h.nx+(b-p.nx)-h.nx+p.nx=b:=oO;simp only[e1,if_false,e2,D,if_true]
  have s3:∀b x,r b=some x->¬b<h.nx->∃c,b=h.nx+(c-p.nx)/\p.nx<=c/\bit (Iw p.res) c=true/\R c=some x:=fun b x d hn=>by
   rw[z] at d;simp only[hn,if_false] at d
   cases D:bit (Iw p.res) (b-h.nx+p.nx) with
   |false=>rw[D] at d;simp at d
   |true=>
    rw[D,if_pos rfl] at d;exact⟨b-h.nx+p.nx,oO,oO,D,d⟩
  have Q:σ.le r:=by
   refine⟨fun b x d=>?_,?_,fun b d hn=>?_⟩
   .rw[s1 b (a5 b x d)];exact d
   .rw[z];simp only;omega
   .rw[s1 b oO];exact hn
  have b4:∀b,bit (Nat.lor mb (Iw p.res)) b=true->∀x,R b=some x->r (shift p.nx h.nx b)=some x:=fun b d x s=>by
   rw[G6,Cv] at d;rcases d with d|d
   .have c0:=c2 b d;have hs:σ b=some x:=by
     cases hs:l b with
     |none=>
      rw[S.not b (by rw[b8];exact c0) hs] at s;cases s
     |some y=>
      rw[S b y hs] at s;cases s;exact(O b _ hs).2
    rw[Wc c0,s1 b (a5 b x hs)];exact hs
   .have⟨o,ho⟩:=GW.1 d;have j:=(A b o ho).1;rw[LI j,s2 b j d];exact s
  have u:∀b o x,m2.get b=some o->r b=some x->(b<h.nx/\h.m.get b=some o/\σ b=some x)∨
    (∃c a,¬b<h.nx/\(c,a)∈p.res/\o=Q6 (shift p.nx h.nx) a/\h'.m.get c=some a/\R c=some x/\b=h.nx+(c-p.nx)):=fun b o x d s=>by
   rcases b1 b o d with j|⟨j,U⟩
   .right;rw[JW] at j;have⟨⟨c,a⟩,a4,he⟩:=BB.1 j;obtain⟨rfl,rfl⟩:=he;have⟨q1,q2,q3⟩:=A c a a4;rw[LI q1] at s⊢;rw[s2 c q1 (GW.2 ⟨a,a4⟩)] at s;exact⟨c,a,oO,a4,rfl,a9 c a a4,s,rfl⟩
   .by_cases hn:b<h.nx
    .grind
    .exfalso;have⟨c,q1,q2,q3,_⟩:=s3 b x s hn;have⟨a,ha⟩:=GW.1 q3;refine j (Q6 (shift p.nx h.nx) a) ?_;rw[JW];refine BB.2 ⟨(c,a),ha,?_⟩;simp[LI q2,q1]
  refine⟨x,r,rfl,Q,⟨k.below.trans (t.mono k.base),Bj k.base t.size,fun b d=>Q b _ (k.glob b d),fun b d=>?_,?_,fun b o x j U=>?_,fun b o x j U h3 h4=>?_,fun b c o q x y j U h3 h4 a3 h5 h6=>?_⟩,?_⟩
  .cases hs:r b with
   |none=>rfl
   |some x=>
    have c9:h.nx+p.more<=b:=d;have⟨c,q1,q2,q3,_⟩:=s3 b x hs oO;have⟨a,ha⟩:=GW.1 q3;have:=(A c a ha).2.1;omega
  .rw[z];rfl
  .rcases u b o x j U with⟨q1,q2,q3⟩|⟨c,a,q1,q2,q3,q4,q5,q6⟩
   .have a8:=k.obj b o x q2 q3;by_cases ho:o.owns=true
    .exact a8.mono Q.get (t.block _ (a8.lt ho))
    .exact a8.ownless Q.get (by simpa using ho)
   .rw[q3];exact ei (A c a q2).2.2 b4 (k'.obj c a x q4 q5)
  .rcases u b o x j U with⟨q1,q2,q3⟩|⟨c,a,q1,q2,q3,q4,q5,q6⟩
   .exact k.own b o x q2 q3 h3 h4
   .rw[q3,Mf] at h3;rw[q3,bL] at h4;have:=k'.own c a x q4 q5 h3 h4;rw[i] at this;exact Bj k.base this
  .have M:∀c a x,(c,a)∈p.res->h'.m.get c=some a->R c=some x->w.heap.size<=x.blk:=fun c a x r1 r2 r3=>by
    have⟨r4,r5⟩:=Vi (A c a r1).2.2;have:=k'.own c a x r2 r3 r5 r4;rw[i] at this;exact this
   rcases u b o x j h3 with⟨q1,q2,q3⟩|⟨b',a,q1,q2,q3,q4,q5,q6⟩
   .rcases u c q y U h4 with⟨r1,r2,r3⟩|⟨c',a',r1,r2,r3,r4,r5,r6⟩
    .exact k.apart b c o q x y q2 r2 q3 r3 a3 h5 h6
    .have:=(k.obj b o x q2 q3).lt h5;have:=M c' a' y r2 r4 r5;omega
   .rcases u c q y U h4 with⟨r1,r2,r3⟩|⟨c',a',r1,r2,r3,r4,r5,r6⟩
    .have:=(k.obj c q y r2 r3).lt h6;have:=M b' a x q2 q4 q5;omega
    .rw[q3,Mf] at h5;rw[r3,Mf] at h6;exact k'.apart b' c' a a' x y q4 r4 q5 r5 (fun e=>a3 (by rw[q6,r6,e])) h5 h6
  .rcases s with d|hc
   .left;rw[d] at f5;cases f5
   .exact .inr (JY b4 f5 hc)
theorem LK {P:Program} {C:Ctx} {z:Option Bool} {f:FuncId} {args:List AV} {h:AH} {g:AV->AH->Bool}:∀{ps:List Piece},
  (∀p∈ps,∀args h g,p.here args h=true->p.take h g=true->∃v c,g v c=true/\ET P C p.f args h v c)->pieces ps f args h g z=some true->
  z=some true∨∃v c,g v c=true/\ET P C f args h v c
 |[],_,hk=> .inl hk
 |p::ps,hp,hk=>by
  have a:cond (Nat.beq f p.f) (cond (p.here args h) (some (p.take h g)) (pieces ps f args h g z)) (pieces ps f args h g z)=some true:=hk;have b:=LK (ps:=ps) (z:=z) (f:=f) (args:=args) (h:=h) (g:=g) fun q j=>hp q (by simp[j])
  cases e:Nat.beq f p.f with
  |false=>rw[e] at a;exact b a
  |true=>
   rw[e,cond_true] at a
   cases d:p.here args h with
   |false=>rw[d] at a;exact b a
   |true=>
    rw[d,cond_true] at a;have i:p.take h g=true:=by simpa using a
    have:=beq_eq e;subst this;exact .inr (hp p oS args h g d i)
def gK (P:Program) (t:TypeId) (a:TD):Prop:=∃i,P.info? t=some i/\P.underlying t=some a.d/\i.size=a.size/\i.bytes=a.bytes/\
  (isBad a.zero=false->∃z,i.zero=some z/\∀b,conc b a.zero=some z)
def Tc (v:Value):Option AV:=
 match v with
 | .bool b=>some (.bool b)
 | .int k n=>some (.int k n)
 | .string s=>match s.data.toList with|[]=>some (.str [])|_=>none
 | .pointer none=>some .pnil
 | .slice none 0 0=>some .snil
 | .map none=>some .mnil
 | .nilFunc=>some .fnil
 | .nilIface=>some .inil
 |_=>none
theorem Td {v:Value} {a:AV} (h:Tc v=some a) (c:BJ):conc c a=some v:=by
 unfold Tc at h;split at h<;>first|(cases h;done)|(cases h;simp[conc];done)|skip
 .rename_i s;split at h
  .rename_i b;cases h;simp only[conc,Cy,if_true,bytesOf,D4];congr 2;have⟨d⟩:=s;simp at b;subst b;rfl
  .cases h
noncomputable def Zs (l:List Value):Option (List AV):=Ds (some []) (fun v _ b=>match Tc v,b with|some a,some r=>some (a::r)|_,_=>none) l
theorem Te:∀{l:List Value} {r:List AV},Zs l=some r->∀b,B2 b r=some l
 |[],r,h,b=>by cases h;rfl
 |v::l,r,h,b=>by
  have c:(match Tc v,Zs l with|some a,some r=>some (a::r)|_,_=>none)=some r:=h;split at c
  .rename_i a f e d;cases c;simp[B2,Td e b,Te d b]
  .cases c
noncomputable def Tf (z:Option Value):AV:=
 match z with
 |none=> .bad
 |some (.agg cs)=>(match Zs cs.toList with|some l=> .agg l|none=> .bad)
 |some v=>(match Tc v with|some a=>a|none=> .bad)
theorem Zt {z:Option Value} (h:isBad (Tf z)=false):∃v,z=some v/\∀b,conc b (Tf z)=some v:=by
 unfold Tf at h⊢;split at h
 .cases h
 .rename_i f;split at h
  .rename_i l c;refine⟨_,rfl,fun b=>?_⟩;simp[conc,Te c b]
  .cases h
 .rename_i v e;split at h
  .rename_i a d;exact⟨_,rfl,fun b=>by simp[Td d b]⟩
  .cases h
structure oY (P:Program) (t:TypeId) where
 a:TD
 ok:gK P t a
noncomputable def oZ {P:Program} {t:TypeId} {i:TypeInfo} {d:TypeDesc} (b:P.types[t]?=some i) (c:P.underlying t=some d):oY P t:=
 ⟨⟨d,i.size,i.bytes,Tf i.zero⟩,i,(by
  have a:t<P.types.size:=(Ak.1 b).1;show(if t<P.types.size then P.types[t]? else Made.infoAt P.toTables Made.depth t)=some i;rw[if_pos a];exact b),c,rfl,rfl,fun h=>Zt h⟩
def I5 {e:Type} (p:Nat->e->Prop):Tr e->Prop
 | .leaf=>True
 | .node v a b c d=>(∀x,v=some x->p 0 x)/\I5 (fun k=>p (4*k+1)) a/\I5 (fun k=>p (4*k+2)) b/\I5 (fun k=>p (4*k+3)) c/\I5 (fun k=>p (4*k+4)) d
theorem I5.get {g:Type}:∀{t:Tr g} {p:Nat->g->Prop},I5 p t->∀k x,t.get k=some x->p k x
 | .leaf,p,_,k,x,h=>by rw[Tr.get_leaf] at h;cases h
 | .node v a b c d,p,⟨h0,h1,h2,h3,h4⟩,k,x,h=>by
  cases k with
  |zero=>exact h0 x h
  |succ k=>
   rw[Tr.get_succ] at h;have f:k%4=0∨k%4=1∨k%4=2∨k%4=3:=oO;rcases f with f|f|f|f<;>rw[f] at h
   .have:=h1.get (k/4) x h;have e:4*(k/4)+1=k+1:=oO
    rwa [e] at this
   .have:=h2.get (k/4) x h;have e:4*(k/4)+2=k+1:=oO
    rwa [e] at this
   .have:=h3.get (k/4) x h;have e:4*(k/4)+3=k+1:=oO
    rwa [e] at this
   .have:=h4.get (k/4) x h;have e:4*(k/4)+4=k+1:=oO
    rwa [e] at this
theorem CF {a:Type} {p:a->Prop} {y:a} (h:p y):∀x,some y=some x->p x:=fun x e=>by cases e;exact h
end Go.Refl
namespace Go.Refl
open Go.Proofs Go.Proofs.Tryz
def U8 {a:Type}:Nat->(Nat->Option a)->Tr a
 |0,_=> .leaf
 |d+1,f=> .node (f 0) (U8 d fun k=>f (4*k+1)) (U8 d fun k=>f (4*k+2)) (U8 d fun k=>f (4*k+3)) (U8 d fun k=>f (4*k+4))
theorem Ki {a:Type}:∀(d:Nat) {f:Nat->Option a} {p:Nat->a->Prop},(∀k x,f k=some x->p k x)->I5 p (U8 d f)
 |0,_,_,_=>trivial
 |d+1,_,_,h=>⟨fun x e=>h 0 x e,Ki d fun k x e=>h _ x e,Ki d fun k x e=>h _ x e,Ki d fun k x e=>h _ x e,Ki d fun k x e=>h _ x e⟩
noncomputable def gS (P:Program) (k:Nat):Option TD:=
 match P.types[k]?,P.underlying k with
 |some i,some d=>some ⟨d,i.size,i.bytes,Tf i.zero⟩
 |_,_=>none
theorem cK {P:Program} {k:Nat} {a:TD} (h:gS P k=some a):gK P k a:=by
 unfold gS at h;split at h
 .rename_i i d c b;cases h;exact(oZ c b).ok
 .cases h
noncomputable def TC:Tr TD:=U8 6 (gS prog)
noncomputable def OJ:Tr Func:=U8 6 fun k=>prog.funcs[k]?
theorem dV:I5 (fun t a=>gK prog t a) TC:=Ki 6 fun _ _ h=>cK h
theorem dW:I5 (fun f x=>prog.funcs[f]?=some x) OJ:=Ki 6 fun _ _ h=>h
noncomputable section
def Uk (t:List Nat):List Nat->Bool:=
 Ds (fun _=>true) (fun x _ a s=>match s with|[]=>false|y::s=>cond (Nat.beq x y) (a s) false) t
def fX (t s:List Nat):Bool:=Ds (Uk t []) (fun x r a=>cond (Uk t (x::r)) true a) s
def fZ (s t:List Nat) (h:AH) (g:AV->AH->Bool):Bool:=cond (Nat.ble s.length 4294967280) (cond (fX t s) false (g (.int .i64 (-1)) h)) false
def lG (a:List Nat):List Nat->Bool:=
 Ds (fun b=>match b with|[]=>true|_=>false) (fun x _ c b=>match b with|[]=>false|y::b=>cond (Nat.beq x y) (c b) false) a
def Ul (s:List Nat) (n:Nat) (b:List (AV×AV×Nat)):Bool:=
 Ds true (fun e _ a=>match e.1 with| .str t=>cond (Nat.beq e.2.2 n) false (cond (lG s t) false a)|_=>false) b
def YI (a:Nat) (c:List (AV×AV×Nat)):Bool:=
 Ds true (fun e r b=>match e.1 with| .str s=>cond (Nat.ble (Nat.succ e.2.2) a) (cond (Ul s e.2.2 r) b false) false|_=>false) c
def Vv (n:Int) (b:List (AV×AV×Nat)):Bool:=
 Ds true (fun e _ a=>match e.2.1 with| .int .i64 m=>cond (Qv m n) false a|_=>false) b
def YJ (n:Int) (b:List (AV×AV×Nat)):(AV->Bool)->(Unit->Bool)->Bool:=
 Ds (fun _ z=>z ()) (fun e r a g z=>match e.2.1 with| .int .i64 m=>cond (Qv m n) (cond (Vv n r) (g e.1) false) (a g z)|_=>false) b
def mW (b:Nat) (n:Int) (h:AH) (g:AV->AH->Bool):Bool:=
 match h.m.get b with
 |some (.map es clock _)=>cond (YI clock es) (YJ n es (fun k=>g k h) (fun _=>g (.str []) h)) false
 |_=>false
def mX (e:Nat):Bool:=cond (Nat.beq e 164) true (Nat.beq e 166)
def YK (b:Nat) (h:AH) (g:AV->AH->Bool):Bool:=
 match h.m.get b with
 |some (.cells (p::q::[]) e z false)=>cond (mX e) (cond (Nat.beq z 0) (match p with
  | .pnil=>h.m.set b (.cells (.ptr b 0::q::[]) e z false) fun m=>g (.tup []) ⟨m,h.nx⟩
  | .ptr c a=>cond (Nat.beq c b) (cond (Nat.beq a 0) (g (.tup []) h) false) false
  |_=>false) false) false
 |_=>false
def YL (b:Nat) (h:AH) (g:AV->AH->Bool):Bool:=
 match h.m.get b with
 |some (.cells (_:: .sl c q n cap _::[]) _ z _)=>cond (Nat.beq z 0) (cond (Nat.ble 1 n) (cond (Nat.ble n cap) (cond (Nat.ble n 1048576) (Ya h c q n fun l=>Jq l fun s=>match h.m.get c with
  |some (.cells cs e z false)=>cond (Nat.beq e 5) (h.m.set c (.cells cs e z true) fun m=>g (.str s) ⟨m,h.nx⟩) false
  |_=>false) false) false) false) false
 |_=>false
def badL (n:Nat):List AV:=Qz [] (fun _ a=> .bad::a) n
def YM (b:Nat) (n:Int) (h:AH) (g:AV->AH->Bool):Bool:=
 match h.m.get b with
 |some (.cells (.pnil:: .snil::[]) e z false)=>cond (mX e) (cond (Nat.beq z 0) (match n with
  | .ofNat k=>cond (Nat.ble 1 k) (cond (Nat.ble k 1048576) (IL h (.cells (badL k) 5 1 false) fun c a=>a.m.set b (.cells (.ptr b 0:: .sl c 0 0 k true::[]) e z false) fun m=>g (.tup []) ⟨m,a.nx⟩) false) false
  |_=>false) false) false
 |_=>false
def bd (x:Int) (l:List Int):(List Int->Bool)->Bool:=Ds (fun g=>g [x]) (fun y r a g=>cond (XZ x y) (g (x::y::r)) (a fun l=>g (y::l))) l
def YN (b:List (AV×AV×Nat)):(List Int->Bool)->Bool:=Ds (fun g=>g []) (fun e _ a g=>match e.1 with| .int _ n=>a fun l=>bd n l g|_=>false) b
def jT (l:List Int):(List AV->Bool)->Bool:=Ds (fun g=>g []) (fun n _ a g=>a fun l=>g (.int .i64 n::l)) l
def hZ (n:Int):Bool:=match n with| .ofNat a=>Nat.ble a 9223372036854775807| .negSucc a=>Nat.ble a 9223372036854775807
def QI (n:Int) (m:Nat) (b:List (AV×AV×Nat)):Bool:=
 Ds true (fun e _ a=>match e.1 with| .int .i64 k=>cond (Nat.beq e.2.2 m) false (cond (Qv k n) false a)|_=>false) b
def Um (a:Nat) (c:List (AV×AV×Nat)):Bool:=
 Ds true (fun e r b=>match e.1 with| .int .i64 n=>cond (hZ n) (cond (Nat.ble (Nat.succ e.2.2) a) (cond (QI n e.2.2 r) b false) false) false|_=>false) c
def sortK (b:Nat) (h:AH) (g:AV->AH->Bool):Bool:=
 match h.m.get b with
 |some (.cells (.map c::[]) _ z _)=>cond (Nat.beq z 0) (match h.m.get c with
  |some (.map es clock _)=>cond (Nat.ble es.length 1048576) (cond (Um clock es) (YN es fun a=>match a with
   |[]=>g .snil h
   |_::_=>jT a fun d=>IK a.length fun n=>IL h (.cells d 3 1 false) fun b h=>g (.sl b 0 n n true) h) false) false
  |_=>false) false
 |_=>false
def Od (f:FuncId) (a:List AV) (h:AH) (g:AV->AH->Bool):Option Bool:=
 cond (Nat.beq f 247) (match a with| .str s:: .str t::[]=>some (fZ s t h g)|_=>some false)
 (cond (Nat.beq f 239) (match a with| .map b:: .int .i64 n::[]=>some (mW b n h g)|_=>some false)
 (cond (Nat.beq f 349) (match a with| .fn f [] (.ptr b 0::[])::[]=>some (cond (Nat.beq f 401) (sortK b h g) false)|_=>some false)
 (cond (Nat.beq f 284) (match a with| .ptr b 0::[]=>some (YK b h g)|_=>some false)
 (cond (Nat.beq f 143) (match a with| .ptr b 0::[]=>some (YL b h g)|_=>some false)
 (cond (Nat.beq f 193) (match a with| .ptr b 0:: .int .i64 n::[]=>some (YM b n h g)|_=>some false) none)))))
def Un (f:FuncId) (a:List AV):Bool:=
 cond (Nat.beq f 53) (match a with|_::_::[]=>true|_=>false)
  (cond (Nat.beq f 260) (match a with|_::[]=>true|_=>false) (cond (Nat.beq f 276) (match a with|_::_::_::[]=>true|_=>false) false))
def E0:Env:={ty:=TC,fn:=OJ,ng:=19,hook:=Od,dhook:=Un}
end
end Go.Refl
namespace Go.Refl
open Go.Proofs
abbrev ii:Int->AV:= .int .i64
abbrev ub:Int->AV:= .int .u8
def iis (l:List Int):List AV:=l.map ii
def ubs (l:List Int):List AV:=l.map ub
def abc:AV:= .str [97,98,99,100,101,102,103,104,105,106,107,108,109,110,111,112,113,114,115,116,117,118,119,120,121,122,48,49,50,51,52,53,54,55,56,57,95]
def lf:Tr AO:= .node none .leaf .leaf .leaf .leaf
def nd (a:AO):Tr AO:= .node (some a) .leaf .leaf .leaf .leaf
def ss (l:List (List Nat)):List AV:=l.map .str
noncomputable def lX:AO:= .cells [.map 19] 306 1 true
noncomputable def lY:AO:= .cells [.map 20] 310 1 true
noncomputable def lZ:AO:= .cells [.map 21] 362 1 true
noncomputable def lh:AO:= .cells [.map 22] 214 1 true
noncomputable def gn:AO:= .cells (ubs [0,0,0,0,0,0,0,0,0,1,1,1,1,1,0,0,0,0,0,0,0,0,0,0,0,0,0,0,0,0,0,0,1,0,0,0,0,0,0,0,0,0,0,0,0,0,0,0,0,0,0,0,0,0,0,0,0,0,0,0,0,0,0,0,0,0,0,0,0,0,0,0,0,0,0,0,0,0,0,0,0,0,0,0,0,0,0,0,0,0,0,0,0,0,0,0,0,0,0,0,0,0,0,0,0,0,0,0,0,0,0,0,0,0,0,0,0,0,0,0,0,0,0,0,0,0,0,0,0,0,0,0,0,0,0,0,0,0,0,0,0,0,0,0,0,0,0,0,0,0,0,0,0,0,0,0,0,0,0,0,0,0,0,0,0,0,0,0,0,0,0,0,0,0,0,0,0,0,0,0,0,0,0,0,0,0,0,0,0,0,0,0,0,0,0,0,0,0,0,0,0,0,0,0,0,0,0,0,0,0,0,0,0,0,0,0,0,0,0,0,0,0,0,0,0,0,0,0,0,0,0,0,0,0,0,0,0,0,0,0,0,0,0,0,0,0,0,0,0,0,0,0,0,0,0,0]) 423 1 true
noncomputable def li:AO:= .cells [.map 23] 161 1 true
noncomputable def kn:AO:= .cells (iis [0,0,0,0,0,0,1,2,1,3,4,1,5,1,4,2,3,2]) 439 1 true
noncomputable def kq:AO:= .cells (iis [0,0,0,0,1,0]) 448 1 true
noncomputable def aO:AO:= .cells (iis [0,0,0,0,0,0,2,6,2,8,3,7,3,8,1,8]) 496 1 true
noncomputable def aP:AO:= .cells (ubs [0,1,28,2,29,14,24,3,30,22,20,15,25,17,4,8,31,27,13,23,21,19,16,7,26,12,18,6,11,5,10,9]) 563 1 true
noncomputable def aQ:AO:= .cells (ubs [0,1,56,2,57,49,28,3,61,58,42,50,38,29,17,4,62,47,59,36,45,43,51,22,53,39,33,30,24,18,12,5,63,55,48,27,60,41,37,16,46,35,44,21,52,32,23,11,54,26,40,15,34,20,31,10,25,14,19,9,13,8,7,6]) 564 1 true
noncomputable def Rm:AO:= .lmap [(.str [33,61],.fn 489 [] []),(.str [60],.fn 490 [] []),(.str [60,61],.fn 491 [] []),(.str [61],.fn 488 [] []),(.str [62],.fn 492 [] []),(.str [62,61],.fn 493 [] [])]
noncomputable def Rn:AO:= .lmap [(ii 3,.fn 494 [] []),(ii 4,.fn 495 [] []),(ii 5,.fn 496 [] []),(ii 6,.fn 498 [] []),(ii 7,.fn 500 [] []),(ii 8,.fn 502 [] [])]
noncomputable def Rp:AO:= .lmap [(ii 1,ii 0),(ii 2,ii 0),(ii 3,ii 0),(ii 4,ii 0),(ii 5,ii 0),(ii 6,ii 0),(ii 7,ii 0),(ii 8,ii 0),(ii 9,ii 0),(ii 10,ii 1),(ii 11,ii 2),(ii 12,ii 2),(ii 13,ii 2),(ii 14,ii 1),(ii 15,ii 1),(ii 16,ii 1),(ii 17,ii 1)]
noncomputable def Rq:AO:= .lmap [(.str [33,61],.str [61]),(.str [60],.str [62,61]),(.str [60,61],.str [62]),(.str [61],.str [33,61]),(.str [62],.str [60,61]),(.str [62,61],.str [60])]
noncomputable def TE:AO:= .lmap [(.str [97,108,108],.bool true),(.str [97,116],.bool true),(.str [97,116,116,101,110,100,115],.bool true),(.str [97,119,97,121],.bool true),(.str [100,97,121],.bool true),(.str [101,97,99,104],.bool true),(.str [102,97,108,115,101],.bool true),(.str [103,114,111,117,112],.bool true),(.str [104,97,114,100],.bool true),(.str [104,111,117,114],.bool true),(.str [104,111,117,115,101],.bool true),(.str [105,110],.bool true),(.str [108,101,97,115,116],.bool true),(.str [108,101,115,115,111,110],.bool true),(.str [109,111,115,116],.bool true),(.str [112,101,114,115,111,110],.bool true),(.str [114,111,111,109],.bool true),(.str [115,101,97,116,115],.bool true),(.str [115,104,117,116],.bool true),(.str [115,105,122,101],.bool true),(.str [115,108,111,116],.bool true),(.str [115,111,102,116],.bool true),(.str [115,111,109,101],.bool true),(.str [116,101,97,99,104,101,115],.bool true),(.str [116,114,117,101],.bool true)]
noncomputable def N2:AH:=⟨(.node (some lX) (.node (some lY) (.node (some li) (nd Rp) .leaf .leaf .leaf) lf lf (nd aQ)) (.node (some lZ) (.node (some kn) (nd Rq) .leaf .leaf .leaf) lf lf lf) (.node (some lh) (.node (some kq) (nd TE) .leaf .leaf .leaf) lf lf (nd Rm)) (.node (some gn) lf (nd aO) (nd aP) (nd Rn))),24⟩
noncomputable def pW:Piece:=⟨221,[.str [104,97,114,100,32,115,111,102,116,32,101,97,99,104,32,97,108,108,32,115,111,109,101,32,108,101,97,115,116,32,109,111,115,116,32,116,114,117,101,32,102,97,108,115,101,32,97,116,32,105,110,32,116,101,97,99,104,101,115,32,97,116,116,101,110,100,115,32,97,119,97,121,32,115,104,117,116,32,100,97,121,32,104,111,117,114,32,104,111,117,115,101,32,115,101,97,116,115,32,115,105,122,101,32,108,101,115,115,111,110,32,115,108,111,116,32,114,111,111,109,32,112,101,114,115,111,110,32,103,114,111,117,112]],[(4,gn)],24,.sl 24 0 25 25 false,[(24,.cells (ss [[104,97,114,100],[115,111,102,116],[101,97,99,104],[97,108,108],[115,111,109,101],[108,101,97,115,116],[109,111,115,116],[116,114,117,101],[102,97,108,115,101],[97,116],[105,110],[116,101,97,99,104,101,115],[97,116,116,101,110,100,115],[97,119,97,121],[115,104,117,116],[100,97,121],[104,111,117,114],[104,111,117,115,101],[115,101,97,116,115],[115,105,122,101],[108,101,115,115,111,110],[115,108,111,116],[114,111,111,109],[112,101,114,115,111,110],[103,114,111,117,112]]) 9 1 false)],1⟩
noncomputable def pS:Piece:=⟨221,[.str [33,61,32,60,61,32,62,61,32,45,62,32,40,32,41,32,123,32,125,32,44,32,58,32,59,32,46,32,61,32,60,32,62,32,38,32,124,32,33]],[(4,gn)],24,.sl 24 0 18 18 false,[(24,.cells (ss [[33,61],[60,61],[62,61],[45,62],[40],[41],[123],[125],[44],[58],[59],[46],[61],[60],[62],[38],[124],[33]]) 9 1 false)],1⟩
noncomputable def ku:Piece:=⟨320,[.str [115],abc],[],24,.str [],[],2⟩
noncomputable def kw:Piece:=⟨320,[.str [108],abc],[],24,.str [],[],2⟩
noncomputable def aR:Piece:=⟨320,[.str [110,111],abc],[],24,.str [],[],2⟩
noncomputable def kz:Piece:=⟨320,[.str [98],abc],[],24,.str [],[],2⟩
noncomputable def lA:Piece:=⟨320,[.str [120],abc],[],24,.str [],[],2⟩
noncomputable def ps1:List Piece:=[pW,pS,ku,kw,aR,kz,lA
]
noncomputable def E1:Env:={E0 with hook:=fun f a h g=>pieces ps1 f a h g (Od f a h g)}
noncomputable def X7:List (Nat×AO):=[(0,lX),(1,lY),(2,lZ),(3,lh),(4,gn),(5,li),(6,kn),(7,kq),(12,aO),(16,aP),(17,aQ),(19,Rm),(20,Rn),(21,Rp),(22,Rq),(23,TE)]
noncomputable def dh:Piece:=⟨9,[.sl 24 0 57 57 false],X7++[(24,.cells (ubs [104,97,114,100,32,110,111,32,101,97,99,104,32,108,58,32,108,101,115,115,111,110,44,32,115,58,32,115,108,111,116,58,32,97,116,40,108,44,32,115,41,32,45,62,32,104,111,117,114,40,115,41,32,61,32,48,59]) 5 1 true)],25,.tup [.sl 354 0 1 1 true,ii 0,ii 0],[(222,.cells [.str [108],ii 1,.str [115],ii 2] 216 2 false),(274,.cells [ii 2,.str [108],ii 0,ii 2,.str [115],ii 0] 220 3 false),(338,.cells [ii 4,.str [115],ii 0,ii 1,.str [],ii 0] 220 3 false),(348,.cells [ii 3,.str [],ii 0,.sl 274 0 2 2 false,.snil,.snil,ii 9,.str [61],ii 0,.sl 338 0 2 2 false,.snil,.snil] 104 6 false),(354,.cells [.str [110,111],.bool true,ii 0,.sl 222 0 2 2 true,ii 13,.str [],ii 0,.snil,.snil,.sl 348 0 2 2 false] 106 10 false)],478⟩
noncomputable def di:Piece:=⟨85,[.agg [.sl 503 0 2 2 false,.sl 504 0 1 1 false,.snil,.snil,.sl 505 0 1 1 false],.sl 354 0 1 1 true],X7++[(222,.cells [.str [108],ii 1,.str [115],ii 2] 216 2 true),(274,.cells [ii 2,.str [108],ii 0,ii 2,.str [115],ii 0] 220 3 true),(338,.cells [ii 4,.str [115],ii 0,ii 1,.str [],ii 0] 220 3 true),(348,.cells [ii 3,.str [],ii 0,.sl 274 0 2 2 false,.snil,.snil,ii 9,.str [61],ii 0,.sl 338 0 2 2 false,.snil,.snil] 104 6 true),(354,.cells [.str [110,111],.bool true,ii 0,.sl 222 0 2 2 true,ii 13,.str [],ii 0,.snil,.snil,.sl 348 0 2 2 false] 106 10 true),(503,.cells [.str [97],ii 0,ii 0,.str [98],ii 0,ii 1] 49 3 true),(504,.cells [.str [114],ii 0,ii 0,.snil] 52 4 true),(505,.cells [.str [120],.snil,.snil] 55 3 true)],1524,.tup [.sl 2691 0 2 2 true,ii 0],[(1995,.cells (iis [0,0]) 3 1 false),(2332,.cells [ii 2,ii 1,ii 0,.snil] 78 4 false),(2334,.cells [ii 3,ii 0,ii 0,.sl 2332 0 1 1 false,ii 1,ii 1,ii 0,.snil] 78 4 false),(2349,.cells (iis [0,1]) 3 1 false),(2686,.cells [ii 2,ii 2,ii 0,.snil] 78 4 false),(2688,.cells [ii 3,ii 0,ii 0,.sl 2686 0 1 1 false,ii 1,ii 0,ii 0,.snil] 78 4 false),(2691,.cells [ii 0,.sl 1995 0 2 2 true,ii 5,ii 0,ii 0,.sl 2334 0 2 2 false,ii 0,.sl 2349 0 2 2 true,ii 5,ii 0,ii 0,.sl 2688 0 2 2 false] 80 6 false)],1186⟩
noncomputable def dj:Piece:=⟨89,[.sl 3420 0 7 7 true,ii 10],X7++[(3290,.cells (iis [1,1,1]) 3 1 true),(3291,.cells (iis [-4,1,2]) 3 1 true),(3305,.cells (iis [2,1,1]) 3 1 true),(3306,.cells (iis [4,-1,-2]) 3 1 true),(3333,.cells (iis [2,1,1]) 3 1 true),(3334,.cells (iis [-5,1,2]) 3 1 true),(3348,.cells (iis [1,1,1]) 3 1 true),(3349,.cells (iis [5,-1,-2]) 3 1 true),(3366,.cells (iis [2,1,1]) 3 1 true),(3367,.cells (iis [-6,4,-5]) 3 1 true),(3381,.cells (iis [1,1,1]) 3 1 true),(3382,.cells (iis [6,-4,5]) 3 1 true),(3416,.cells [ii 1] 3 1 true),(3417,.cells [ii 7] 3 1 true),(3420,.cells [.sl 3290 0 3 3 true,.sl 3291 0 3 3 true,ii 1,.sl 3305 0 3 3 true,.sl 3306 0 3 3 true,ii 2,.sl 3333 0 3 3 true,.sl 3334 0 3 3 true,ii 2,.sl 3348 0 3 3 true,.sl 3349 0 3 3 true,ii 1,.sl 3366 0 3 3 true,.sl 3367 0 3 3 true,ii 2,.sl 3381 0 3 3 true,.sl 3382 0 3 3 true,ii 1,.sl 3416 0 1 1 false,.sl 3417 0 1 1 false,ii 1] 328 3 true)],3456,.tup [.sl 4054 0 49 49 true,ii 22,ii 0],[(3494,.cells (iis [1,2,-4,0]) 3 1 false),(3552,.cells (iis [-1,-2,-10]) 3 1 false),(3558,.cells (iis [1,-2,10]) 3 1 false),(3564,.cells (iis [-1,2,10]) 3 1 false),(3570,.cells (iis [1,2,-10]) 3 1 false),(3573,.cells (iis [1,2,11]) 3 1 false),(3576,.cells (iis [-1,-11]) 3 1 false),(3579,.cells (iis [-2,-11]) 3 1 false),(3595,.cells (iis [4,11,-12]) 3 1 false),(3601,.cells (iis [-4,11,12]) 3 1 false),(3607,.cells (iis [4,-11,12]) 3 1 false),(3613,.cells (iis [-4,-11,-12]) 3 1 false),(3616,.cells (iis [-4,-11,13]) 3 1 false),(3619,.cells (iis [4,-13]) 3 1 false),(3622,.cells (iis [11,-13]) 3 1 false),(3640,.cells (iis [12,13,0]) 3 1 false),(3699,.cells (iis [1,2,-14]) 3 1 false),(3705,.cells (iis [-1,2,14]) 3 1 false),(3711,.cells (iis [1,-2,14]) 3 1 false),(3717,.cells (iis [-1,-2,-14]) 3 1 false),(3720,.cells (iis [-1,-2,15]) 3 1 false),(3723,.cells (iis [1,-15]) 3 1 false),(3726,.cells (iis [2,-15]) 3 1 false),(3742,.cells (iis [-5,15,-16]) 3 1 false),(3748,.cells (iis [5,15,16]) 3 1 false),(3754,.cells (iis [-5,-15,16]) 3 1 false),(3760,.cells (iis [5,-15,-16]) 3 1 false),(3763,.cells (iis [5,-15,17]) 3 1 false),(3766,.cells (iis [-5,-17]) 3 1 false),(3769,.cells (iis [15,-17]) 3 1 false),(3787,.cells (iis [16,17,0]) 3 1 false),(3830,.cells (iis [-1,-2,5,0]) 3 1 false),(3888,.cells (iis [4,-5,-18]) 3 1 false),(3894,.cells (iis [-4,-5,18]) 3 1 false),(3900,.cells (iis [4,5,18]) 3 1 false),(3906,.cells (iis [-4,5,-18]) 3 1 false),(3909,.cells (iis [-4,5,19]) 3 1 false),(3912,.cells (iis [4,-19]) 3 1 false),(3915,.cells (iis [-5,-19]) 3 1 false),(3931,.cells (iis [-6,19,-20]) 3 1 false),(3937,.cells (iis [6,19,20]) 3 1 false),(3943,.cells (iis [-6,-19,20]) 3 1 false),(3949,.cells (iis [6,-19,-20]) 3 1 false),(3952,.cells (iis [6,-19,21]) 3 1 false),(3955,.cells (iis [-6,-21]) 3 1 false),(3958,.cells (iis [19,-21]) 3 1 false),(3976,.cells (iis [20,21,0]) 3 1 false),(4019,.cells (iis [-4,5,6,0]) 3 1 false),(4051,.cells (iis [7,0]) 3 1 false),(4054,.cells [.sl 3494 0 3 4 false,.sl 3552 0 3 3 true,.sl 3558 0 3 3 true,.sl 3564 0 3 3 true,.sl 3570 0 3 3 true,.sl 3573 0 3 3 false,.sl 3576 0 2 2 false,.sl 3579 0 2 2 false,.sl 3595 0 3 3 true,.sl 3601 0 3 3 true,.sl 3607 0 3 3 true,.sl 3613 0 3 3 true,.sl 3616 0 3 3 false,.sl 3619 0 2 2 false,.sl 3622 0 2 2 false,.sl 3640 0 2 3 false,.sl 3699 0 3 3 true,.sl 3705 0 3 3 true,.sl 3711 0 3 3 true,.sl 3717 0 3 3 true,.sl 3720 0 3 3 false,.sl 3723 0 2 2 false,.sl 3726 0 2 2 false,.sl 3742 0 3 3 true,.sl 3748 0 3 3 true,.sl 3754 0 3 3 true,.sl 3760 0 3 3 true,.sl 3763 0 3 3 false,.sl 3766 0 2 2 false,.sl 3769 0 2 2 false,.sl 3787 0 2 3 false,.sl 3830 0 3 4 false,.sl 3888 0 3 3 true,.sl 3894 0 3 3 true,.sl 3900 0 3 3 true,.sl 3906 0 3 3 true,.sl 3909 0 3 3 false,.sl 3912 0 2 2 false,.sl 3915 0 2 2 false,.sl 3931 0 3 3 true,.sl 3937 0 3 3 true,.sl 3943 0 3 3 true,.sl 3949 0 3 3 true,.sl 3952 0 3 3 false,.sl 3955 0 2 2 false,.sl 3958 0 2 2 false,.sl 3976 0 2 3 false,.sl 4019 0 3 4 false,.sl 4051 0 1 2 false] 25 1 false)],599⟩
noncomputable def ps2:List Piece:=[dh,di,dj,pW,pS,ku,kw,aR,kz,lA
]
noncomputable def E2:Env:={E0 with hook:=fun f a h g=>pieces ps2 f a h g (Od f a h g)}
end Go.Refl
namespace Go.Refl
open Go.RowKit
def iI:Lit->Value
 | .bool b=> .bool b
 | .int k n=> .int k n
 | .string a=> .string ⟨a.toArray⟩
 |_=> .tuple #[]
mutual
def Ri {H:Type}:DataW H->List Value
 | .lit l=>[iI l]
 | .agg a=>Qo a
 |_=>[]
def Qo {H:Type}:List (DataW H)->List Value
 |[]=>[]
 |d::r=>Ri d++Qo r
end
def Qp (P:Program) (N:Nat):Nat->List Field->Bool
 |o,[]=>Nat.beq o N
 |o,f::r=>Nat.beq f.offset o&&Qp P N (o+P.cellsOf f.type) r
def Rj (P:Program):Nat->TypeId->Bool
 |0,_=>false
 |n+1,t=>
  match P.underlying t with
  |some .bool|some (.int _)|some .string=>true
  |some (.array m e)=>Nat.beq (P.cellsOf t) (m*P.cellsOf e)&&Rj P n e
  |some (.struct fs)=>Qp P (P.cellsOf t) 0 fs.toList&&fs.toList.all fun f=>Rj P n f.type
  |_=>false
theorem Nw (a:List Value) (s:Nat):∀n,(List.range n).flatMap (fun i=>(a.drop (i*s)).take s)=a.take (n*s)
 |0=>oS
 |n+1=>by
  rw[List.range_succ,List.flatMap_append,Nw a s n,Nat.succ_mul,List.take_add];simp
theorem Kt (P:Program) (a:List Value):∀(b:List Field) (o:Nat),Qp P a.length o b=true->b.flatMap (fun f=>(a.drop f.offset).take (P.cellsOf f.type))=a.drop o
 |[],o,h=>by
  have:=Bh h;subst this;simp
 |f::r,o,h=>by
  simp only[Qp,AE] at h;have e:=Bh h.1;rw[List.flatMap_cons,Kt P a r _ h.2,e,<-List.drop_drop,List.take_append_drop]
theorem mapM_flat {d H:Type} (f:d->Option (DataW H×List MemPlace)) (b:d->List Value):∀(l:List d) (c:List (DataW H×List MemPlace)),l.mapM f=some c->(∀i∈l,∀y,f i=some y->b i=Ri y.1)->
  l.flatMap b=Qo (c.map (·.1))
 |[],c,h,_=>by simp at h;subst h;rfl
 |a::l,c,h,hf=>by
  rw[Ho] at h
  cases g:f a with
  |none=>rw[g] at h;cases h
  |some y=>
   rw[g] at h
   cases e:l.mapM f with
   |none=>simp[e] at h
   |some j=>
    simp[e] at h;subst h;simp only[List.flatMap_cons,BI,Qo];rw[hf a oS y g,mapM_flat f b l j e fun i k=>hf i (by simp[k])]
theorem LN {H:Type} {p:TypeId×Value->H} {P:Program} {w:World} {g:Nat} {r:Nat->Bool} {d:Bool}:∀(n:Nat) (a:Nat) (t:TypeId) (c:List Value) (x:DataW H×List MemPlace),Rj P n t=true->
  DataW.trod p P w g r d a t c=some x->c=Ri x.1
 |0,_,_,_,_,h,_=>by cases h
 |n+1,0,t,c,x,_,h=>by simp[DataW.trod] at h
 |n+1,a+1,t,c,x,hs,h=>by
  unfold Rj at hs;unfold DataW.trod at h;split at hs
  .rename_i b;rw[b] at h;split at h<;>simp_all
   subst h;rfl
  .rename_i k b;rw[b] at h;split at h<;>simp_all
   obtain⟨_,rfl⟩:=h;rfl
  .rename_i b;rw[b] at h;split at h<;>simp_all
   obtain⟨_,rfl⟩:=h;simp[Ri,iI]
  .rename_i m e b;rw[b] at h;simp only at h;simp only[AE] at hs;have u:=Bh hs.1;split at h
   .rename_i l;simp only[Af] at h;obtain⟨q,o,rfl⟩:=h;have:=mapM_flat _ (fun i=>(c.drop (i*P.cellsOf e)).take (P.cellsOf e)) _ _ o (fun i _ y j=>LN n a e _ y hs.2 j);rw[Nw,<-u,<-l,IB] at this;exact this
   .cases h
  .rename_i v b;rw[b] at h;simp only at h;simp only[AE,Bi] at hs;split at h
   .rename_i l;simp only[Af] at h;obtain⟨q,o,rfl⟩:=h;have:=mapM_flat _ (fun f=>(c.drop f.offset).take (P.cellsOf f.type)) _ _ o (fun f s y j=>LN n a f.type _ y (hs.2 f s) j);rw[Kt P c _ 0 (by rw[l];exact hs.1)] at this;rw[List.drop_zero] at this;exact this
   .cases h
  .cases hs
end Go.Refl
namespace Go.Refl
open Go.Proofs Go.RowKit
def Ig (m:Nat->Nat):BJ:=⟨fun b=>if b<19 then some ⟨b,0,0⟩ else if b<24 then some ⟨m b,0,0⟩ else none,24⟩
def bz (m:Nat->Nat) (b:Nat):Loc:=if b<19 then⟨b,0,0⟩ else⟨m b,0,0⟩
variable{m:Nat->Nat}
theorem Oy {b:Nat} {x:Loc} (h:Ig m b=some x):x=bz m b/\b<24:=by
 show x=(if b<19 then⟨b,0,0⟩ else⟨m b,0,0⟩)/\b<24;have a:(if b<19 then some (⟨b,0,0⟩:Loc) else if b<24 then some ⟨m b,0,0⟩ else none)=some x:=h;split at a
 .grind
 .grind
theorem Tg:I5 (fun _ o=>o.ro=true) N2.m:=⟨CF rfl,⟨CF rfl,⟨CF rfl,⟨CF rfl,trivial,trivial,trivial,trivial⟩,trivial,trivial,trivial⟩,⟨(fun x e=>by cases e),trivial,trivial,trivial,trivial⟩,⟨(fun x e=>by cases e),trivial,trivial,trivial,trivial⟩,⟨CF rfl,trivial,trivial,trivial,trivial⟩⟩,⟨CF rfl,⟨CF rfl,⟨CF rfl,trivial,trivial,trivial,trivial⟩,trivial,trivial,trivial⟩,⟨(fun x e=>by cases e),trivial,trivial,trivial,trivial⟩,⟨(fun x e=>by cases e),trivial,trivial,trivial,trivial⟩,⟨(fun x e=>by cases e),trivial,trivial,trivial,trivial⟩⟩,⟨CF rfl,⟨CF rfl,⟨CF rfl,trivial,trivial,trivial,trivial⟩,trivial,trivial,trivial⟩,⟨(fun x e=>by cases e),trivial,trivial,trivial,trivial⟩,⟨(fun x e=>by cases e),trivial,trivial,trivial,trivial⟩,⟨CF rfl,trivial,trivial,trivial,trivial⟩⟩,⟨CF rfl,⟨(fun x e=>by cases e),trivial,trivial,trivial,trivial⟩,⟨CF rfl,trivial,trivial,trivial,trivial⟩,⟨CF rfl,trivial,trivial,trivial,trivial⟩,⟨CF rfl,trivial,trivial,trivial,trivial⟩⟩⟩
variable{W:World}
theorem WX (l:∀n,n<19->∃arr e v,W.heap[n]?=some (.cells arr e v)) (q:∀b,19<=b->b<24->∃z cl,W.heap[m b]?=some (.map z cl))
  (r:∀b c,19<=b->b<24->19<=c->c<24->b≠c->m b≠m c) (a:I5 (fun b o=>OR (Ig m) (bz m b) W o) N2.m):BK ⟨19,W.heap.size,W⟩ (Ig m) N2 W:=by
 have d:∀b,19<=b->b<24->19<=m b:=fun b f j=>by
  rcases Do (m b) 19 with h|h
  .grind
  .exact h
 refine⟨Below.refl _ _,Ai _,fun n t=>?_,fun b g=>?_,rfl,fun b o x f j=>?_,fun b o x f j s i=>?_,fun b c o p x y f j s i k _ _=>?_⟩
 .show(if n<19 then some (⟨n,0,0⟩:Loc) else if n<24 then some ⟨m n,0,0⟩ else none)=_;rw[if_pos t]
 .have g:24<=b:=g;show(if b<19 then some (⟨b,0,0⟩:Loc) else if b<24 then some ⟨m b,0,0⟩ else none)=none;rw[if_neg oO,if_neg oO]
 .obtain⟨rfl,_⟩:=Oy j;exact a.get b o f
 .have:=Tg.get b o f;rw[this] at i;cases i
 .obtain⟨rfl,g⟩:=Oy s;obtain⟨rfl,u⟩:=Oy i;unfold bz;split<;>split<;>simp only<;>rename_i q1 q2
  .exact k
  .have:=d c oO u;omega
  .have:=d b oO g;omega
  .grind
theorem WY (t:OR (Ig m) ⟨0,0,0⟩ W lX) (s:OR (Ig m) ⟨1,0,0⟩ W lY) (r:OR (Ig m) ⟨2,0,0⟩ W lZ) (q:OR (Ig m) ⟨3,0,0⟩ W lh) (p:OR (Ig m) ⟨4,0,0⟩ W gn) (n:OR (Ig m) ⟨5,0,0⟩ W li) (l:OR (Ig m) ⟨6,0,0⟩ W kn) (k:OR (Ig m) ⟨7,0,0⟩ W kq) (j:OR (Ig m) ⟨12,0,0⟩ W aO) (i:OR (Ig m) ⟨16,0,0⟩ W aP) (h:OR (Ig m) ⟨17,0,0⟩ W aQ) (g:OR (Ig m) ⟨m 19,0,0⟩ W Rm) (f:OR (Ig m) ⟨m 20,0,0⟩ W Rn) (d:OR (Ig m) ⟨m 21,0,0⟩ W Rp) (c:OR (Ig m) ⟨m 22,0,0⟩ W Rq) (a:OR (Ig m) ⟨m 23,0,0⟩ W TE):I5 (fun b o=>OR (Ig m) (bz m b) W o) N2.m:=
 ⟨CF t,⟨CF s,⟨CF n,⟨CF d,trivial,trivial,trivial,trivial⟩,trivial,trivial,trivial⟩,⟨(fun x e=>by cases e),trivial,trivial,trivial,trivial⟩,⟨(fun x e=>by cases e),trivial,trivial,trivial,trivial⟩,⟨CF h,trivial,trivial,trivial,trivial⟩⟩,⟨CF r,⟨CF l,⟨CF c,trivial,trivial,trivial,trivial⟩,trivial,trivial,trivial⟩,⟨(fun x e=>by cases e),trivial,trivial,trivial,trivial⟩,⟨(fun x e=>by cases e),trivial,trivial,trivial,trivial⟩,⟨(fun x e=>by cases e),trivial,trivial,trivial,trivial⟩⟩,⟨CF q,⟨CF k,⟨CF a,trivial,trivial,trivial,trivial⟩,trivial,trivial,trivial⟩,⟨(fun x e=>by cases e),trivial,trivial,trivial,trivial⟩,⟨(fun x e=>by cases e),trivial,trivial,trivial,trivial⟩,⟨CF g,trivial,trivial,trivial,trivial⟩⟩,⟨CF p,⟨(fun x e=>by cases e),trivial,trivial,trivial,trivial⟩,⟨CF j,trivial,trivial,trivial,trivial⟩,⟨CF i,trivial,trivial,trivial,trivial⟩,⟨CF f,trivial,trivial,trivial,trivial⟩⟩⟩
theorem Ms {c:BJ} {n:Nat} {arr:Array Value} {e:TypeId} {j:Nat×Nat} {b:List AV} {l:List Value} (h:W.heap[n]?=some (.cells arr e j)) (f:arr.toList=l) (g:B2 c b=some l):OR c ⟨n,0,0⟩ W (.cells b e 1 true):=by
 have d:arr.size=b.length:=by rw[<-Jz,f];exact BT g
 refine⟨arr,j,h,by simp only;omega,fun i v o=> .inr ?_,fun e=>(by cases e),fun e=>(by cases e)⟩;have⟨z,k,a⟩:=CG g i v o;exact⟨z,by simpa[<-f] using k,a⟩
end Go.Refl
namespace Go.Refl
open Go.RowKit
def litA:Lit->AV
 | .bool b=> .bool b
 | .int k n=> .int k n
 | .string a=> .str (a.map UInt8.toNat)
 |_=> .bad
def Lp {H:Type} (a:DataW H->AV) (z:Lit×DataW H):AV×AV:=(litA z.1,a z.2)
variable{c:BJ}
theorem YQ {k v:AV} {n:Nat} {a:List (AV×AV×Nat)} {x:MapEntry} {l:List MapEntry} (f:conc c k=some x.key) (e:conc c v=some x.val) (d:n=x.born) (b:Ci c a=some l):
  Ci c ((k,v,n)::a)=some (x::l):=by
 subst d;simp[Ci,f,e,b]
theorem Lq {c:BJ} {H:Type} {b:DataW H->AV} {f:MapEntry->Option ((Lit×DataW H)×List MemPlace)}:∀(l:List MapEntry) (g:List ((Lit×DataW H)×List MemPlace)),l.mapM f=some g->
  (∀x∈l,∀y,f x=some y->conc c (litA y.1.1)=some x.key/\conc c (b y.1.2)=some x.val)->
  ∃d:List (AV×AV×Nat),Ci c d=some l/\d.map (fun e=>(e.1,e.2.1))=g.map (fun z=>Lp b z.1)
 |[],g,h,_=>by simp at h;subst h;exact⟨[],rfl,rfl⟩
 |a::l,g,h,hf=>by
  rw[Ho] at h
  cases j:f a with
  |none=>rw[j] at h;cases h
  |some y=>
   rw[j] at h
   cases i:l.mapM f with
   |none=>simp[i] at h
   |some k=>
    simp[i] at h;subst h;have⟨d,o,n⟩:=Lq l k i fun x m=>hf x (by simp[m])
    have⟨q1,q2⟩:=hf a oS y j;exact⟨(litA y.1.1,b y.1.2,a.born)::d,YQ q1 q2 rfl o,by simp only[BI,n,Lp]⟩
theorem YR {a b:Lit} (h:litA a=litA b) (e:litA a≠ .bad):a=b:=by
 cases a<;>cases b<;>simp_all [litA]
 rename_i x y;have:∀{x y:List UInt8},x.map UInt8.toNat=y.map UInt8.toNat->x=y:=by
  intro x
  induction x with
  |nil=>intro y h;cases y<;>simp_all
  |cons a x d=>
   intro y h
   cases y with
   |nil=>simp at h
   |cons b y=>simp at h;rw[d h.2,UInt8.toNat_inj.1 h.1]
 exact this h
theorem mapM_mem {j i:Type} {f:j->Option i}:∀(l:List j) (d:List i),l.mapM f=some d->∀x∈l,∀y,f x=some y->y∈d
 |[],_,_,x,b,_,_=>by cases b
 |a::l,d,h,x,b,y,hy=>by
  rw[Ho] at h
  cases g:f a with
  |none=>rw[g] at h;cases h
  |some z=>
   rw[g] at h
   cases e:l.mapM f with
   |none=>simp[e] at h
   |some k=>
    simp[e] at h;subst h;rcases Az.1 b with rfl|b
    .rw[g] at hy;cases hy;simp
    .exact Dk _ (mapM_mem l k e x b y hy)
theorem YS {H:Type} {j:TypeId×Value->H} {P:Program} {W:World} {g:Nat} {q:Nat->Bool} {d:Bool} {t k e:TypeId} {f:Nat} {s:List Value} {D:List (Lit×DataW H)} {p:List MemPlace}
  (v:P.underlying t=some (.map k e)) (h:DataW.trod j P W g q d (f+1) t s=some (.map D,p)):
  ∃(b:Nat) (i:Array MapEntry) (a:Nat) (l:List ((Lit×DataW H)×List MemPlace)),s=[.map (some b)]/\W.heap[b]?=some (.map i a)/\
   (i.toList.mapM fun x=>(keyOf P k x.key).bind fun m=>if x.val.formed P e then(DataW.trod j P W g q d f e x.val.cells.toList).map fun y=>((m,y.1),y.2) else none)=some l/\
   (l.map (·.1)).foldr DataW.insert []=D/\DataW.rising ((l.map (·.1)).foldr DataW.insert [])=true:=by
 unfold DataW.trod at h;rw[v] at h;split at h
 all_goals first
  |(rename_i u z b o
    have n:k=u/\e=z:=by simpa using o
    obtain⟨rfl,rfl⟩:=n;split at h
    .rename_i i a A;split at h
     .simp only[Cx] at h;have⟨l,B,r⟩:=h;split at r
      .grind
      .cases r
     .cases h
    .cases h)
  |simp_all
theorem YT {H:Type} {Q:TypeId×Value->H} {P:Program} {W:World} {o:Nat} {sp:Nat->Bool} {m:Bool} {datA:DataW H->AV} {t k e:TypeId} {d:Nat} {cs:List Value} {D:List (Lit×DataW H)} {p:List MemPlace} {A:List (AV×AV)}
  (ht:P.underlying t=some (.map k e)) (h:DataW.trod Q P W o sp m d t cs=some (.map D,p))
  (hK:∀v l,keyOf P k v=some l->conc c (litA l)=some v) (hV:∀d v y,v.formed P e=true->DataW.trod Q P W o sp m d e v.cells.toList=some y->y.1∈D.map (·.2)->conc c (datA y.1)=some v)
  (J:D.map (Lp datA)=A) (g:(∀z∈A,∃s,z.1= .str s)∨(∃q,∀z∈A,∃n,z.1= .int q n)):∃b,cs=[.map (some b)]/\OR c ⟨b,0,0⟩ W (.lmap A):=by
 cases d with
 |zero=>simp[DataW.trod] at h
 |succ d=>
  obtain⟨b,Y,u,Z,rfl,hb,h1,hD,B⟩:=YS ht h;have f:=WideShapes.sorted_perm (Z.map (·.1));have U:=WideShapes.apart_of_rising (Z.map (·.1)) B;rw[hD] at f;obtain⟨O,q1,q2⟩:=Lq _ _ h1 (by
   intro x hx y j;have C:=mapM_mem _ _ h1 x hx y j;simp only[Cx] at j;obtain⟨R,G,j⟩:=j;split at j
   .rename_i r;simp only[Af] at j;obtain⟨z,hz,rfl⟩:=j;refine⟨hK _ _ G,hV d _ z r hz ?_⟩;have:(R,z.1)∈D:=f.mem_iff.2 (BB.2 ⟨_,C,rfl⟩);exact BB.2 ⟨_,this,rfl⟩
   .cases j)
  have i:(O.map fun e=>(e.1,e.2.1)).Perm A:=by
   rw[q2,<-J];have:=f.symm.map (Lp datA);rw[EN] at this;exact this
  refine⟨b,rfl,Y,u,O,hb,i,?_,g,q1⟩;have M:D.Pairwise (fun p q=>p.1≠q.1):=(f.pairwise_iff (fun{a b} h=>Ne.symm h)).2 U;rw[<-J,EN];refine List.pairwise_map.2 (M.imp_of_mem fun{a b} ha hb S e=>S ?_);refine YR e fun L=>?_
  have hz:Lp datA a∈A:=by grind
  have a0:(Lp datA a).1= .bad:=L;rcases g with hk|⟨q,hk⟩
  .grind
  .grind
end Go.Refl
