/- A part of TopBudgetHonest. -/
import Derived.Deep.Matrix
import Derived.Lib.SmallJoins
import Derived.Test.YtboflajfckfphaaGreatDoorI
import Derived.Test.YtboflajfckfphaaGreatDoorP
import Derived.Test.YtboflajfckfphaaGreatDoorS
import Derived.Test.YtboflajfckfphaaGreatDoorT
import Derived.Test.YtboflajfckfphaaGreatDoorU
import Derived.Test.YtboflajfckfphaaGreatDoorV
import Derived.Test.YtboflajfckfphaaGreatDoorW
import Derived.Test.YtboflajfckfphaaGreatDoorX
set_option linter.all false
namespace Go.Refl
open Go.Proofs Go.RowKit Go.Proofs.Tryz
variable{C:Ctx}
theorem hk0 (a:Good C):Ep prog E0 C:=gB aU a
theorem X4:∀p∈ps1,∀C,Good C->∀a h g,p.here a h=true->p.take h g=true->∃v b,g v b=true/\ET prog C p.f a h v b:=by
 have one:∀p:Piece,p.fits 19=true->p.runs E0 1000000=true->∀C,Good C->∀a h g,p.here a h=true->p.take h g=true->∃v b,g v b=true/\ET prog C p.f a h v b:=
  fun p e d C i a h g k j=>Rh (fun C h=>h.1) Good.stays (fun C h=>Us h) (fun C h=>hk0 h) mixed e d i k j
 intro p c;simp only[ps1,Az,Dm,or_false] at c;rcases c with rfl|rfl|rfl|rfl|rfl|rfl|rfl
 .exact one _ aY aZ
 .exact one _ aa ab
 .exact one _ XL XM
 .exact one _ XN XO
 .exact one _ Wk Wl
 .exact one _ XP XQ
 .exact one _ XR XS
theorem lV (a:Good C):Em prog E1 C:=⟨(Us a).ng,(Us a).ty,(Us a).fn⟩
theorem lW (a:Good C):Em prog E2 C:=⟨(Us a).ng,(Us a).ty,(Us a).fn⟩
theorem hk1 (b:Good C):Ep prog E1 C where
 hook:=fun f a h g e=>by
  rcases LK (fun p d a h g=>X4 p d C b a h g) (show pieces ps1 f a h g (Od f a h g)=some true from e) with c|c
  .exact(hk0 b).hook f a h g c
  .exact c
 dhook:=(hk0 b).dhook
theorem de:∀p∈ps2,∀C,Good C->∀a h g,p.here a h=true->p.take h g=true->∃v b,g v b=true/\ET prog C p.f a h v b:=by
 have one:∀p:Piece,p.fits 19=true->p.runs E1 1000000=true->∀C,Good C->∀a h g,p.here a h=true->p.take h g=true->∃v b,g v b=true/\ET prog C p.f a h v b:=
  fun p e d C i a h g k j=>Rh (fun C h=>h.1) Good.stays (fun C h=>lV h) (fun C h=>hk1 h) mixed e d i k j
 have old:=X4;intro p c;simp only[ps2,Az,Dm,or_false] at c;simp only[ps1,Az,Dm,or_false] at old;rcases c with rfl|rfl|rfl|c
 .exact one _ W7 WA
 .exact one _ Xj Xk
 .exact one _ W4 W6
 .exact old p c
theorem hk2 (b:Good C):Ep prog E2 C where
 hook:=fun f a h g e=>by
  rcases LK (fun p d a h g=>de p d C b a h g) (show pieces ps2 f a h g (Od f a h g)=some true from e) with c|c
  .exact(hk0 b).hook f a h g c
  .exact c
 dhook:=(hk0 b).dhook
theorem Nt (f:Good C) {c:BJ} {w:World} (k:BK C c N2 w):Calls prog 4 #[] w fun e d=>e= .returned (.bool true)/\Below C.B C.w0 d:=by
 have b:=lW f;have a:=hk2 f;obtain⟨v,q,g,p,o⟩:=IJ b a (Mn b a (RY b a mixed) 1000000) go;have n:v= .bool true:=by
  split at g
  .rfl
  .cases g
 subst n;refine callsIn_wide.1 ((o c w [] k ⟨rfl,fun i v x e=>by simp at e⟩).mono ?_);rintro e d ⟨x,j,rfl,_,l,m⟩;have:x= .bool true:=by
  rcases m with h|h
  .cases h
  .simp only[conc] at h;cases h;rfl
 subst this;exact⟨rfl,l.below⟩
end Go.Refl
namespace Go.Refl
open Go.Proofs Go.RowKit Go.Proofs.YtboflajfckfphaaGreatDoor Go.Proofs.Tryz
section
def tg:Value->Nat
 | .string _=>1
 | .int _ _=>2
 | .bool _=>3
 | .func _ _ _=>4
 |_=>0
def iQ:AV->Nat
 | .str _=>1
 | .int _ _=>2
 | .bool _=>3
 | .fn _ _ _=>4
 |_=>0
variable{g:BJ}
theorem XD {a:AV} {v:Value} (h:conc g a=some v) (b:iQ a≠0):tg v=iQ a:=by
 cases a<;>simp[iQ] at b
 .simp[conc] at h;cases h;rfl
 .simp[conc] at h;cases h;rfl
 .simp only[conc] at h;split at h<;>cases h;rfl
 .simp[conc,Cx,Af] at h;obtain⟨_,_,_,_,rfl⟩:=h;rfl
def clA (c d:Nat) (i:List (AV×AV)):Bool:=i.all fun e=>Nat.beq (iQ e.1) c&&Nat.beq (iQ e.2) d
variable{i:List (AV×AV)}
theorem XE {c d:Nat} (h:clA c d i=true) (n:c≠0) (m:d≠0):∀e∈i,∀k v,conc g e.1=some k->conc g e.2=some v->tg k=c/\tg v=d:=fun e a k v f b=>by
 have:=Bi.1 h e a;simp only[AE] at this;have l:=Bh this.1;have j:=Bh this.2;exact⟨by rw[XD f oO,l],by rw[XD b oO,j]⟩
variable{W:World}
theorem Eo {a b:Nat} {s:List (AV×AV)} (D:OR g ⟨a,0,0⟩ W (.lmap i)) (C:OR g ⟨b,0,0⟩ W (.lmap s)) {c d r o:Nat} (h:i≠[]) (u:clA c d i=true) (t:clA r o s=true)
  (B:c≠0) (z:d≠0) (m:r≠0) (l:o≠0) (A:c≠r∨d≠o):a≠b:=by
 refine OR.ne_map D C (f:=fun k v=>Nat.beq (tg k) c&&Nat.beq (tg v) d) h (fun e j k v p q=>?_) (fun e j k v p q=>?_)
 .have⟨x,y⟩:=XE u B z e j k v p q;simp[x,y,Fx,Bool.and_self]
 .have⟨x,y⟩:=XE t m l e j k v p q
  cases n:(Nat.beq (tg k) c&&Nat.beq (tg v) d) with
  |false=>rfl
  |true=>
   simp only[AE] at n;have H:=Bh n.1;have G:=Bh n.2;omega
theorem J4 {b:Nat} (h:OR g ⟨b,0,0⟩ W (.lmap i)):∃x cl,W.heap[b]?=some (.map x cl):=by
 have⟨x,cl,_,h,_⟩:=h;exact⟨x,cl,h⟩
theorem XF {m:Nat->Nat} (v:m 19≠m 20) (u:m 19≠m 21) (t:m 19≠m 22) (s:m 19≠m 23) (r:m 20≠m 21) (q:m 20≠m 22) (p:m 20≠m 23) (o:m 21≠m 22) (n:m 21≠m 23) (j:m 22≠m 23):
  ∀b c,19<=b->b<24->19<=c->c<24->b≠c->m b≠m c:=by
 intro b c h f e d a;have l:b=19∨b=20∨b=21∨b=22∨b=23:=oO;have k:c=19∨c=20∨c=21∨c=22∨c=23:=oO;rcases l with rfl|rfl|rfl|rfl|rfl<;>rcases k with rfl|rfl|rfl|rfl|rfl<;>first|exact absurd rfl a|assumption|(apply Ne.symm;assumption)
theorem Pu (a:W.ShapedOpen prog) (c:laidMetH prog Rows.topBudgetHonestRow.laid W):∃g,BK ⟨19,W.heap.size,W⟩ g N2 W:=by
 have⟨J,g0,A⟩:=oH a c;have⟨H,Z,z⟩:=oI a c;have⟨G,Y,y⟩:=oB a c;have⟨D,U,x⟩:=oE a c;have⟨C,S,v⟩:=oG a c;obtain⟨m,R,Q,P,O,M⟩:∃m:Nat->Nat,m 19=J/\m 20=H/\m 21=G/\m 22=D/\m 23=C:=
  ⟨fun n=>if n=19 then J else if n=20 then H else if n=21 then G else if n=22 then D else C,oS,oS,oS,oS,oS⟩
 subst R Q P O M;have t:clA 1 4 (lm Rm)=true:=oK;have r:clA 2 4 (lm Rn)=true:=oK;have q:clA 2 2 (lm Rp)=true:=oK;have p:clA 1 1 (lm Rq)=true:=oK;have l:lm Rm≠[]:=by intro e;cases e
 have u:lm Rn≠[]:=by intro e;cases e
 have B:lm Rp≠[]:=by intro e;cases e
 have L:lm Rq≠[]:=by intro e;cases e
 have o:clA 1 3 (lm TE)=true:=oK;have k:∀g,OR g ⟨m 19,0,0⟩ W (.lmap (lm Rm)):=A;have j:∀g,OR g ⟨m 20,0,0⟩ W (.lmap (lm Rn)):=z;have h:∀g,OR g ⟨m 21,0,0⟩ W (.lmap (lm Rp)):=y;have f:∀g,OR g ⟨m 22,0,0⟩ W (.lmap (lm Rq)):=x;have d:∀g,OR g ⟨m 23,0,0⟩ W (.lmap (lm TE)):=v;let s:BJ:=⟨fun _=>none,0⟩;refine⟨Ig m,WX (UN a) ?_ (XF ?_ ?_ ?_ ?_ ?_ ?_ ?_ ?_ ?_ ?_) ?_⟩
 .intro b h1 h2;have eb:b=19∨b=20∨b=21∨b=22∨b=23:=oO;rcases eb with rfl|rfl|rfl|rfl|rfl
  .exact J4 (k s)
  .exact J4 (j s)
  .exact J4 (h s)
  .exact J4 (f s)
  .exact J4 (d s)
 .exact Eo (k s) (j s) l t r oD oD oD oD oD
 .exact Eo (k s) (h s) l t q oD oD oD oD oD
 .exact Eo (k s) (f s) l t p oD oD oD oD oD
 .exact Eo (k s) (d s) l t o oD oD oD oD oD
 .exact Eo (j s) (h s) u r q oD oD oD oD oD
 .exact Eo (j s) (f s) u r p oD oD oD oD oD
 .exact Eo (j s) (d s) u r o oD oD oD oD oD
 .exact Eo (h s) (f s) B q p oD oD oD oD oD
 .exact Eo (h s) (d s) B q o oD oD oD oD oD
 .exact Eo (f s) (d s) L p o oD oD oD oD oD
 .exact WY (Ms g0 rfl rfl) (Ms Z rfl rfl) (Ms Y rfl rfl) (Ms U rfl rfl) (nh a c) (Ms S rfl rfl) (nv a c) (nz a c) (mO a c) (mP a c) (mQ a c) (A _) (z _) (y _) (x _) (v _)
theorem Wi (a:W.ShapedOpen prog) (c:laidMetH prog Rows.topBudgetHonestRow.laid W):Calls prog 4 #[] W fun e b=>e= .returned (.bool true)/\Below W.heap.size W b:=by
 have⟨g,k⟩:=Pu a c;exact Nt (cd a) k
theorem OR.later {x:Loc} {w u:World} {o:AO} (h:OR g x w o) (l:∀(k:Nat) z,w.heap[k]?=some z->u.heap[k]?=some z):OR g x u o:=by
 cases o with
 |cells J e D ro=>have⟨a,C,j,f⟩:=h;exact⟨a,C,l _ _ j,f⟩
 |map i t ro=>have⟨a,j,f⟩:=h;exact⟨a,l _ _ j,f⟩
 |lmap i=>have⟨a,b,c,j,f⟩:=h;exact⟨a,b,c,l _ _ j,f⟩
 |iter s A=>have⟨j,f,B⟩:=h;exact⟨j,f,l _ _ B⟩
 |loop H m G n p q v d=>have⟨a,b,c,y,j,f⟩:=h;exact⟨a,b,c,y,l _ _ j,f⟩
 |dfr r=>exact l _ _ h
 |tail b L=>exact h
 |dead=>trivial
theorem R0 {a:World} (f:W.ShapedOpen prog) (q:laidMetH prog Rows.topBudgetHonestRow.laid W) (c:Below W.heap.size W a):Calls prog 4 #[] a fun e n=>e= .returned (.bool true)/\Below a.heap.size a n:=by
 have⟨g,k⟩:=Pu f q;have p:∀(k:Nat) z,W.heap[k]?=some z->a.heap[k]?=some z:=fun j z h=>by
  rw[c.block j (Ak.1 h).1];exact h
 refine Nt (Good.stays ⟨19,W.heap.size,W⟩ a (cd f) c.size c) ⟨Below.refl _ _,Ai _,k.glob,k.fresh,k.nx,fun b o x d m=>(k.obj b o x d m).later p,fun b o x d m r l=>?_,k.apart⟩;have:=Tg.get b o d;rw[this] at l;cases l
end
end Go.Refl
namespace Go.Proofs.YtboflajfckfphaaGreatDoor
open Go.ChangeShapes Go.WideShapes Go.ChangeAt Go.RowKit Go.Joins Bud Go Go.Proofs.Tryz
set_option maxRecDepth 1000000
theorem kb {a:Int} (h:(Lit.int .i64 a).wf=true):-9223372036854775808<=a/\a<9223372036854775808:=by
 simp only[Lit.wf,decide_eq_true_eq] at h;have d:IntKind.i64.min<=a/\a<=9223372036854775807:=by simpa using h
 have b:IntKind.i64.min=-9223372036854775808:=oD;omega
variable{W:World}
theorem UB {a:Addr} {u:Value} (h:W.cell? (a.add 0)=some u):∃g o,a=⟨g,o,none⟩/\g<W.heap.size:=by
 obtain⟨g,o,s⟩:=a;have h:W.cell? ⟨g,o,s⟩=some u:=h;have b:=Cb W _ h;refine⟨g,o,?_,b⟩
 cases s with
 |none=>rfl
 |some s=>
  unfold World.cell? at h;split at h
  .simp at h
  .cases h
theorem add_plain (g o j:Nat):(⟨g,o,none⟩:Addr).add j=⟨g,o+j,none⟩:=by cases j<;>simp[Addr.add]
variable{base n c:Nat} {a:Option Addr}
theorem ok_slice {t e:Nat} (f:prog.underlying t=some (.slice e)) (h:Cell.okWide prog W .any base t (.slice a n c)):(a=none/\n=0)∨∃g o,a=some ⟨g,o,none⟩/\g<W.heap.size:=by
 unfold Cell.okWide at h;rw[f] at h;have h:Cell.ok prog W .any base t (.slice a n c):=h;unfold Cell.ok at h;rw[f] at h
 cases a with
 |none=>
  left;refine⟨rfl,?_⟩
  match n,c,h with
  |0,_,_=>rfl
  |_+1,_,h=>exact h.elim
 |some a=>
  right;obtain⟨g,o,s⟩:=a;obtain⟨_,_,_,d,i,cells,b,_⟩:=h;have d:s=none:=d;subst d;refine⟨g,o,rfl,?_⟩;rcases Do g W.heap.size with h|h
  .exact h
  .unfold World.shape? at b;rw[CW h] at b;cases b
theorem Ts {b:List Value} (i:b.length=n) (h:(a=none/\n=0)∨∃g o,a=some ⟨g,o,none⟩/\g<W.heap.size) (l:∀x,a=some x->∀j u,b[j]?=some u->W.cell? (x.add j)=some u):Dj W (.slice a n c) 1 n b:=by
 refine⟨by rw[i,Nat.mul_one],?_⟩;rcases h with⟨rfl,d⟩|⟨g,o,rfl,k⟩
 .exact .inl ⟨c,by rw[d],d⟩
 .exact .inr ⟨g,o,c,rfl,k,fun j u f=>by have e:=l _ rfl j u f;rw[add_plain] at e;exact e⟩
theorem Xq {H:Type} {r:TypeId×Value->H} {d:DataW H} {ps:List MemPlace} (q:Value.okWide prog W .any base 25 (.slice a n c))
  (h:DataW.Trod r prog W 0 (fun _=>true) true 25 (.slice a n c) d ps):∃m:List Int,m.length=n/\Dj W (.slice a n c) 1 n (m.map I)/\∀y∈m,-9223372036854775808<=y/\y<9223372036854775808:=by
 have v:(a=none/\n=0)∨∃g o,a=some ⟨g,o,none⟩/\g<W.heap.size:=by
  refine ok_slice (base:=base) (t:=25) (e:=3) (c:=c) underlying25 ?_;unfold Value.okWide at q;rw[underlying25] at q;exact q
 obtain⟨z,D⟩:=h;rcases ChangeShapes.open_ints underlying25 underlying3 oK D with⟨b,_⟩|⟨x,l,L,s,b,_,J,G,B,_,f,p⟩
 .simp[Value.cells] at b;obtain⟨rfl,rfl,rfl⟩:=b;exact⟨[],rfl,Ts rfl v (fun x C=>by cases C),fun y k=>by cases k⟩
 .simp[Value.cells] at b;obtain⟨rfl,rfl,rfl⟩:=b;have A:s.length=c:=by simpa using B
  refine⟨s.take n,oT,Ts oT v fun y k j u i=>?_,fun y k=>kb (p y (Jo k))⟩;cases k;simp only[DZ,Ce,Bz] at i;split at i
  .rw[f j oO];rw[Ab oO] at i;simp at i;rw[<-i,Kr,Ab oO];rfl
  .cases i
theorem Xr {H:Type} {B:TypeId×Value->H} {v:Value} {y:DataW H×List MemPlace} {m:Nat}
  (J:∀a n c,v= .slice a n c->(a=none/\n=0)∨∃g o,a=some ⟨g,o,none⟩/\g<W.heap.size) (h:DataW.trod B prog W 0 (fun _=>true) true m 22 [v]=some y):∃R:List (List Int),Hf W v R:=by
 rcases Deep.open_int_rows underlying22 underlying25 underlying3 oK oK h with⟨d,_⟩|⟨a,len,cap,A,L,C,Z,d,_,S,Q,_,D⟩
 .simp at d;subst d;exact⟨[],[],Ts rfl (.inl ⟨rfl,rfl⟩) (fun x p=>by cases p),fun i l k=>by simp at k⟩
 .simp at d;subst d;have q:((List.range len).map fun r=>(Z r).take (L r)).length=len:=oS;refine⟨(List.range len).map fun r=>(Z r).take (L r),(List.range len).map fun r=> .slice (A r) (L r) (C r),?_,fun i l k=>?_⟩
  .rw[q];refine Ts oS (J _ _ _ rfl) fun x p j u b=>?_
   cases p;rw[Bz] at b;by_cases s:j<len
   .rw[J0 s] at b;simp at b;rw[(D j oO).1,b]
   .rw[BX oT] at b;cases b
  .rw[Bz] at k;by_cases s:i<len
   .rw[J0 s] at k;simp at k;subst k;obtain⟨_,h1,h2,Y,U,P,O⟩:=D i oO;have t:((Z i).take (L i)).length=L i:=oT;refine⟨.slice (A i) (L i) (C i),by rw[Bz,J0 s];rfl,?_⟩;rw[t];by_cases z:L i=0
    .exact .inr ⟨z,by simp[z],A i,C i,by rw[z]⟩
    .cases G:A i with
     |none=>have:=P G;omega
     |some ad=>
      obtain⟨_,f⟩:=O ad G;obtain⟨g,o,e,M⟩:=UB (f 0 oO);refine .inl (Ts oT (.inr ⟨g,o,by rw[e],M⟩) fun x p j u b=>?_);cases p;simp only[DZ,Ce,Bz] at b;split at b
      .rw[f j oO];rw[Ab oO] at b;simp at b;rw[<-b,Kr,Ab oO];rfl
      .cases b
   .rw[BX oT] at k;cases k
theorem ZJ {H:Type} {g:TypeId×Value->H} {v:Value} {d:DataW H} {ps:List MemPlace} (b:Value.okWide prog W .any base 24 v)
  (h:DataW.Trod g prog W 0 (fun _=>true) true 24 v d ps):∃n V R,v= .agg #[I n,V]/\Hf W V R:=by
 obtain⟨y,k,x,t,m,rfl,_,_,s,r⟩:=open_agg2 underlying24 oK oK b h;obtain⟨n,i,_,B⟩:=DataW.trod_int underlying3 s;simp at i;subst i;obtain⟨R,q⟩:=Xr (fun a A c e=>by
  subst e;unfold Value.okWide at b;rw[underlying24] at b;obtain⟨C,e,_,z,f,_,p⟩:=b;cases e;have j:prog.cellTypes prog.depth 24=some [3,22]:=oK;rw[f] at j;cases j;obtain⟨u,l,o⟩:=p 1 _ rfl;cases l;exact ok_slice underlying22 o) r
 exact⟨n,k,R,rfl,q⟩
