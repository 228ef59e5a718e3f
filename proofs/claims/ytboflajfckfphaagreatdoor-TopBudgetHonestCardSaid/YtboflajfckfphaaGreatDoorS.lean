/- A part of TopBudgetHonest. -/
import Derived.Test.YtboflajfckfphaaGreatDoorQ
import Derived.Test.YtboflajfckfphaaGreatDoorR
set_option linter.all false
namespace Go.Refl
open Go.Proofs Go.RowKit
theorem Ku:∀{a b:List Int},a.Pairwise (·<= ·)->b.Pairwise (·<= ·)->a.Perm b->a=b
 |[],b,_,_,h=>h.nil_eq
 |x::a,[],_,_,h=>by have:=h.length_eq;simp at this
 |x::a,y::b,h1,h2,h=>by
  have d:x<=y:=by
   have:y∈x::a:=h.mem_iff.2 oS;rcases Az.1 this with e|e
   .omega
   .exact(CY.1 h1).1 y e
  have c:y<=x:=by
   have:x∈y::b:=h.mem_iff.1 oS;rcases Az.1 this with e|e
   .omega
   .exact(CY.1 h2).1 x e
  have e:x=y:=oO;subst e;rw[Ku (CY.1 h1).2 (CY.1 h2).2 (List.Perm.cons_inv h)]
theorem UQ (x:Int):∀(l:List Int) (g:List Int->Bool),bd x l g=true->∃c,g c=true/\c.Perm (x::l)/\(l.Pairwise (·<= ·)->c.Pairwise (·<= ·))
 |[],g,h=>⟨[x],h,.refl _,fun _=>oS⟩
 |y::r,g,h=>by
  have d:cond (XZ x y) (g (x::y::r)) (bd x r fun l=>g (y::l))=true:=h
  cases e:XZ x y with
  |true=>
   rw[e,cond_true] at d;rw[J1] at e;have e:x<y:=by simpa using e
   refine⟨_,d,.refl _,fun b=>CY.2 ⟨fun z a=>?_,b⟩⟩;rcases Az.1 a with rfl|a
   .omega
   .have:=(CY.1 b).1 z a;omega
  |false=>
   rw[e,cond_false] at d;rw[J1] at e;have e:¬x<y:=by simpa using e
   have⟨c,k,i,j⟩:=UQ x r _ d;refine⟨_,k,((List.Perm.cons y i).trans (List.Perm.swap _ _ _)),fun b=>CY.2 ⟨fun z a=>?_,j (CY.1 b).2⟩⟩;rcases Az.1 (i.mem_iff.1 a) with rfl|a
   .omega
   .exact(CY.1 b).1 z a
def N1 (x:MapEntry):Int:=Vw x.key
theorem Rl:∀(d:List (AV×AV×Nat)) (g:List Int->Bool),YN d g=true->∃c,g c=true/\c.Pairwise (·<= ·)/\∀f l,Ci f d=some l->c.Perm (l.map N1)
 |[],g,h=>⟨[],h,.nil,fun f l e=>by simp[Ci] at e;subst e;exact .refl _⟩
 |(a,b,m)::d,g,h=>by
  have i:(match(generalizing:=false) a with| .int _ n=>YN d fun l=>bd n l g|_=>false)=true:=h;split at i
  .rename_i k n;have⟨c,y,x,u⟩:=Rl d _ i;have⟨o,r,q,p⟩:=UQ n c _ y;refine⟨o,r,p x,fun f l e=>?_⟩;obtain⟨z,v,j,t,A,s,rfl⟩:=Dw e;have:=FF t;subst this;exact q.trans (.cons _ (u f j s))
  .cases i
theorem UR:∀(l:List Int) (g:List AV->Bool),jT l g=true->g (l.map (AV.int .i64))=true
 |[],g,h=>h
 |n::l,g,h=>by
  have a:=h;exact UR l _ a
theorem Pn {f:BJ} {n:Int} {m:Nat}:∀(g:List (AV×AV×Nat)) (l:List MapEntry),QI n m g=true->Ci f g=some l->∀x∈l,x.born≠m/\x.key≠ .int .i64 n
 |[],l,_,hl,x,d=>by simp[Ci] at hl;subst hl;cases d
 |(a,b,j)::g,l,hf,hl,x,d=>by
  have c:(match(generalizing:=false) a with| .int .i64 k=>cond (Nat.beq j m) false (cond (Qv k n) false (QI n m g))|_=>false)=true:=hf;obtain⟨k,v,p,s,u,r,rfl⟩:=Dw hl;split at c
  .rename_i q;have⟨t,i⟩:=Eh c;have⟨o,h⟩:=Eh i;have:=FF s;subst this;rcases Az.1 d with rfl|d
   .refine⟨U7 t,fun e=>?_⟩;rw[Gc] at o;simp[Value.int.injEq,true_and] at e;subst e;simp at o
   .exact Pn g p h r x d
  .cases c
theorem Po {f:BJ} {c:Nat}:∀(e:List (AV×AV×Nat)) (l:List MapEntry),Um c e=true->Ci f e=some l->
  ((∀x∈l,x.born<c)/\(l.map (·.born)).Nodup/\(l.map (·.key)).Nodup)/\∀x∈l,∃n,x.key= .int .i64 n/\hZ n=true
 |[],l,_,hl=>by simp[Ci] at hl;subst hl;simp
 |(a,b,m)::e,l,hf,hl=>by
  have d:(match(generalizing:=false) a with| .int .i64 n=>cond (hZ n) (cond (Nat.ble (Nat.succ m) c) (cond (QI n m e) (Um c e) false) false) false|_=>false)=true:=hf;obtain⟨k,v,o,s,y,p,rfl⟩:=Dw hl;split at d
  .rename_i q;have⟨z,j⟩:=Bs d;have⟨u,i⟩:=Bs j;have⟨t,h⟩:=Bs i;have:=FF s;have⟨⟨q1,q2,q3⟩,q4⟩:=Po e o h p;have r:=Pn e o t p;refine⟨⟨fun x g=>?_,?_,?_⟩,fun x g=>?_⟩
   .rcases Az.1 g with rfl|g
    .exact ble_eq u
    .exact q1 x g
   .grind
   .grind
   .grind
  .cases d
theorem dg {n:Int} (h:hZ n=true):(Lit.int .i64 n).wf=true:=by
 unfold hZ at h;have b:IntKind.i64.min=-9223372036854775808:=rfl;have a:IntKind.i64.max=9223372036854775807:=rfl;simp[Lit.wf,b,a,AE,decide_eq_true_eq];split at h
 .have:=ble_eq h;constructor<;>simp<;>omega
 .have:=ble_eq h;constructor<;>omega
variable{f:BJ}
theorem BK.adopt {C:Ctx} {h:AH} {w t:World} (k:BK C f h w) (x:Below w.heap.size w t) {m:Tr AO} {L:AO} (B:h.m.Put h.nx L m) {g b:Nat} (O:w.heap.size<=g)
  (u:OR (f.put h.nx ⟨g,0,b⟩) ⟨g,0,b⟩ t L):BK C (f.put h.nx ⟨g,0,b⟩) ⟨m,h.nx+1⟩ t:=by
 have M:f h.nx=none:=k.fresh _ (Ai _);have s:=BJ.sub_put ⟨g,0,b⟩ M;have old:∀c p y,h.m.get c=some p->f c=some y->p.owns=true->y.blk<w.heap.size:=fun c p y a i l=>(k.obj c p y a i).lt l
 have j:∀c p,m.get c=some p->c≠h.nx->h.m.get c=some p:=fun c p a i=>by rw[B c,if_neg i] at a;exact a
 refine⟨k.below.trans (x.mono k.base),Bj k.base x.size,fun n v=>s n _ (k.glob n v),fun c G=>?_,(by have:=k.nx;simp only[BJ.put];omega),fun c p y a i=>?_,fun c p y a i l o=>?_,fun c d p q y z a i l o r J H=>?_⟩
 .have G:h.nx+1<=c:=G;rw[BJ.put_other _ oO];exact k.fresh c oO
 .by_cases e:c=h.nx
  .subst e;rw[BJ.put_same] at i;cases i;rw[B,if_pos rfl] at a;cases a;exact u
  .rw[BJ.put_other _ e] at i;have a:=j c p a e;by_cases D:p.owns=true
   .exact(k.obj c p y a i).mono s (x.block _ (old c p y a i D))
   .exact(k.obj c p y a i).ownless s (by simpa using D)
 .by_cases e:c=h.nx
  .subst e;rw[BJ.put_same] at i;cases i;exact Bj k.base O
  .rw[BJ.put_other _ e] at i;exact k.own c p y (j c p a e) i l o
 .by_cases e:c=h.nx
  .subst e;rw[BJ.put_same] at l;cases l;rw[BJ.put_other _ (Ne.symm r)] at o;have:=old d q z (j d q i (Ne.symm r)) o H;simp;omega
  .rw[BJ.put_other _ e] at l;have a:=j c p a e;by_cases A:d=h.nx
   .subst A;rw[BJ.put_same] at o;cases o;have:=old c p y a l J;simp;omega
   .rw[BJ.put_other _ A] at o;exact k.apart c d p q y z a (j d q i A) l o r J H
end Go.Refl
namespace Go.Refl
open Go.Proofs Go.RowKit Go.Proofs.Tryz
theorem N3 {H:Type} (l:List (Lit×DataW H)):(l.foldr DataW.insert []).length=l.length:=(WideShapes.sorted_perm l).length_eq
theorem keyOf_int {n:Int} (h:hZ n=true):keyOf prog 3 (.int .i64 n)=some (.int .i64 n):=by
 have a:prog.underlying 3=some (.int .i64):=underlying3;simp[keyOf,mapKey,a,dg h]
theorem Rt (ss d:List Int) (f:d.Pairwise (·<= ·)) (e:d.Perm ss):ss.mergeSort (fun x y=>decide (x<=y))=d:=by
 refine Ku ?_ f ((List.mergeSort_perm ss _).trans e.symm);have:=List.pairwise_mergeSort (le:=fun x y:Int=>decide (x<=y)) (fun a b c f e=>by simp at f e⊢;omega) (fun a b=>oT) ss;exact this.imp (fun h=>by simpa using h)
theorem aU:Uv:=by
 intro C hC b h g hk;have D:∀w xs,(callFunc 349 xs).run prog w= .ok (.enter 349 xs) w:=fun w xs=>enters_of func349 oK rfl _ _
 unfold sortK at hk;split at hk
 .rename_i c e z ro hm;have⟨hz,hk1⟩:=Bs hk;have hz:=beq_eq hz;subst hz;split at hk1
  .rename_i es q c1 b5;have⟨B,hk2⟩:=Bs hk1;have⟨b3,b7⟩:=Bs hk2;have B:=ble_eq B;have⟨ks,hg,p,O⟩:=Rl es _ b7;have u:∀(o:BJ) (w:World) (a:List Value),BK C o h w->E8 o [.fn 401 [] [.ptr b 0]] a->CallsIn Fence.wide 0 prog 349 a.toArray w fun e w'=>∃v:Value,e= .returned v/\
     w'.ownsRow w.heap.size 3 1 v ks.length (ks.map (Value.int .i64))/\(v= .slice none 0 0↔ks=[])/\Below w.heap.size w w':=fun o w a k ha=>by
    obtain⟨x,rfl,H⟩:=ha.one;obtain⟨y,hy,rfl⟩:∃y,o b=some y/\x= .func (.func 401) #[] #[.pointer (some ⟨y.blk,y.shift+0,none⟩)]:=by
     have:=VR.conc H oS;simp only[conc,B2,Dh,Bf,Cx,Af] at this;obtain⟨l,⟨_,⟨y,hy,rfl⟩,h2⟩,rfl⟩:=this;cases h2;exact⟨y,hy,rfl⟩
    have⟨arr,fz,a1,a2,a3,a4,a5⟩:=k.obj b _ y hm hy;have⟨a0,c2⟩:=a5 rfl;rw[a0] at a3;rw[a0];obtain⟨t,G,c0⟩:∃t,o c=some t/\arr[0]?=some (.map (some t.blk)):=by
     rcases a3 0 _ rfl with U|⟨z,h1,h2⟩
     .cases U
     .simp only[conc,Af] at h2;obtain⟨t,G,rfl⟩:=h2;exact⟨t,G,by simpa using h1⟩
    have⟨f,q1,q2⟩:=k.obj c _ t b5 G;have⟨r1,r2⟩:=Po es _ b3 q2;have M:f.size=es.length:=by
     have:=GP q2;simpa using this
    let R:Value->Option (DataW Unit×List MemPlace):=fun _=>some (.nil,[])
    have a6:∀x∈f.toList,WideElems.rd prog 3 R x=some (.int .i64 (N1 x),.nil):=fun x H=>by
     have⟨n,hn,hi⟩:=r2 x H;simp[WideElems.rd,hn,keyOf_int hi,R,N1,Vw]
    have b1:WideElems.Fit prog 3 R f q:=⟨by unfold maxLen;omega,r1,fun x H=>⟨_,a6 x H⟩⟩;have a9:f.toList.map (WideElems.rg prog 3 R)=f.toList.map (fun x=>((.int .i64 (N1 x),.nil):Lit×DataW Unit)):=
     Di fun x H=>by simp[WideElems.rg,a6 x H]
    have a8:w.ownsMap prog 3 R t.blk f.size (.map ((f.toList.map (WideElems.rg prog 3 R)).foldr DataW.insert [])):=⟨f,q,q1,b1,Ai _,rfl⟩;have A:Maps.size (DataW.map ((f.toList.map (WideElems.rg prog 3 R)).foldr DataW.insert []):DataW Unit)=es.length:=by
     show(List.foldr DataW.insert [] _).length=_;rw[N3];simp[M]
    have Q:=TB y.blk t.blk f.size _ R w ((Ak.1 a1).1) (by rw[cell_of a1];exact c0) a8 (by rw[A];unfold maxLen;omega) (by rw[A];omega);refine Q.mono ?_;rintro e w' ⟨v,ss,rfl,hp,d,j,U⟩;have b4:ss.Perm (f.toList.map N1):=by
     refine hp.trans ?_;simp only[intKeys];refine((WideShapes.sorted_perm _).map _).trans ?_;rw[a9,EN];exact .refl _
    have r:=(O o _ q2).trans b4.symm;rw[Rt ss ks p r,<-r.length_eq] at d;exact⟨v,rfl,d,j.trans ⟨fun e=>by subst e;exact r.eq_nil,fun e=>by subst e;exact r.symm.eq_nil⟩,U⟩
   split at hg
   .refine⟨_,_,hg,D,fun o w a k ha=>(u o w a k ha).mono ?_⟩;rintro e w' ⟨v,rfl,d,j,U⟩;have:=j.2 rfl;subst this;exact⟨_,o,rfl,BJ.le.refl o,k.junk U,.inr rfl⟩
   .rename_i Z Y;have b0:=UR _ _ hg;rw[Dx] at b0;have⟨m,b8,a7⟩:=CO b0;refine⟨_,_,b8,D,fun o w a k ha=>(u o w a k ha).mono ?_⟩;rintro e w' ⟨v,rfl,d,j,U⟩;have⟨hl,d⟩:=d;rcases d with⟨J,_⟩|⟨g0,cap,b2,rfl,S,P,b9,c4,c3,L⟩
    .have:=j.1 J;cases this
    .have b6:=k.lp ⟨g0,0,cap-(Z::Y).length⟩;refine⟨_,_,rfl,b6,k.adopt U a7 S ?_,.inr ?_⟩
     .refine⟨b2,(0,0),P,by simp only[CJ];omega,fun i v J=> .inr ?_,fun _=> .inl rfl,fun e=>by cases e⟩;rw[Bz] at J
      cases s:(Z::Y)[i]? with
      |none=>rw[s] at J;cases J
      |some n=>
       rw[s] at J;cases J;refine⟨.int .i64 n,?_,rfl⟩;have hi:i<(Z::Y).length:=(Aa.1 s).1;have:(b2.toList.take ((Z::Y).length*1))[i]?=some (.int .i64 n):=by rw[L,Bz,s];rfl
       rw[Ce,if_pos oO] at this;simpa using this
     .have:(Z::Y).length+(cap-(Z::Y).length)=cap:=oO;simp only[conc,BJ.put_same,Bf,if_true,this]
  .cases hk1
 .cases hk
end Go.Refl
