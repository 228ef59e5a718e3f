/- A part of the proof of TopBudgetHonest. -/
import Derived.Laws.IdiomStrings
import Derived.Laws.RangeString
import Derived.Test.YtboflajfckfphaaGreatDoorJ
set_option linter.all false
namespace Go.Refl
open Go.RowKit
section
theorem NR:∀{b:List AV},Yd b=true->∀v∈b,∃k m,v= .int k m
 |[],_,v,a=>by simp at a
 |u::b,h,v,a=>by
  cases u with
  |int k m=>
   rcases Az.1 a with rfl|a
   .exact⟨k,m,rfl⟩
   .exact NR (show Yd b=true from h) v a
  |_=>exact absurd (show false=true from h) oD
theorem Y5 (a b:ByteArray):(a==b)=true↔a=b:=by
 have⟨a⟩:=a;have⟨b⟩:=b;show(a==b)=true↔_;simp
theorem NS:∀(a b:List AV) (g:Bool->Bool),il a b g=true->∃r,g r=true/\a.length=b.length/\(r=true↔a=b)/\
  ∀(i:Nat) x y,a[i]?=some x->b[i]?=some y->∃k m n,x= .int k m/\y= .int k n
 |[],[],g,h=>⟨true,h,rfl,oS,fun i x y e=>by simp at e⟩
 |[],_::_,g,h=>absurd (show false=true from h) oD
 |x::a,[],g,h=>absurd (show false=true from h) oD
 |x::a,y::b,g,h=>by
  cases x with
  |int k m=>
   cases y with
   |int p n=>
    have⟨z,t⟩:=Bs (show cond (eqK k p) (cond (Qv m n) (il a b g) (il a b fun _=>g false)) false=true from h);have:=K7 z;subst this;rcases Ex t with⟨c,s⟩|⟨c,s⟩
    .rw[Gc] at c;have c:m=n:=by simpa using c
     subst c;have⟨r,l,o,j,q⟩:=NS a b g s;refine⟨r,l,by simp[o],by rw[j];simp,fun i u v f d=>?_⟩
     cases i with
     |zero=>simp at f d;subst f;subst d;exact⟨_,_,_,rfl,rfl⟩
     |succ i=>simp at f d;exact q i u v f d
    .rw[Gc] at c;have c:m≠n:=by simpa using c
     have⟨r,l,o,j,q⟩:=NS a b _ s;refine⟨false,l,by simp[o],by simp[c],fun i u v f d=>?_⟩
     cases i with
     |zero=>simp at f d;subst f;subst d;exact⟨_,_,_,rfl,rfl⟩
     |succ i=>simp at f d;exact q i u v f d
   |_=>exact absurd (show false=true from h) oD
  |_=>exact absurd (show false=true from h) oD
section
variable{P:Program} {E:Env} {C:Ctx} (B:Em P E C)
variable{A:BJ}
theorem OQ {a b:List AV} {j lb:List Value} (v:B2 A a=some j) (u:B2 A b=some lb) (H:a.length=b.length)
  (s:∀(i:Nat) x y,a[i]?=some x->b[i]?=some y->∃k m n,x= .int k m/\y= .int k n):a=b↔j=lb:=by
 constructor
 .grind
 .intro e;subst e;apply EM;intro i;by_cases t:i<a.length
  .have g:=Ab t;have f:=Ab (show i<b.length by omega);have⟨k,m,n,q,o⟩:=s i _ _ g f;have⟨z,r,l⟩:=CG v i _ g;have⟨G,d,c⟩:=CG u i _ f;rw[r] at d;cases d;rw[q] at l;rw[o] at c;rw[<-l] at c;cases c;rw[g,f,q,o]
  .grind
theorem fB {t:TypeId} {b a:Value} {r:Bool} {w:World} (h:∀n,0<n->(Op.equalIn (n+1) t b a).run P w= .ok r w):(Op.equal t b a).run P w= .ok r w:=h 9999 oD
include B in
theorem IT {e:TypeId} {b:TD} {c:IntKind} (g:E.ty.get e=some b) (l:b.d= .int c) (a:Array Value) (j:Nat) {v:Value} (f:a[j]?=some v) (w:World):(part e a j).run P w= .ok v w:=by
 simp[part,I3 B g,l,Qw,f]
include B in
theorem MH {e:TypeId} {u:TD} {v:IntKind} (g:E.ty.get e=some u) (l:u.d= .int v) (d:Nat) (b a:Array Value) (w:World):∀(c:List Nat),(∀j∈c,∃k m n,b[j]?=some (.int k m)/\a[j]?=some (.int k n))->
  ∃r,(Op.eqItems (d+1) e 1 b a c).run P w= .ok r w/\(r=true↔∀j∈c,b[j]?=a[j]?)
 |[],_=>⟨true,by simp[Op.eqItems],oS⟩
 |j::c,h=>by
  have⟨k,m,n,t,s⟩:=h j oS;have⟨r,G,q⟩:=MH g l d b a w c (fun j z=>h j (by simp[z]));have y:=Cq B g;have o:(Op.equalIn (d+1) e (.int k m) (.int k n)).run P w= .ok (m==n) w:=by
   simp only[Op.equalIn,Ay,y,Am,l];simp
  simp only[Op.eqItems,Ay,Nat.mul_one,IT B g l b j t,IT B g l a j s,Am,o];by_cases f:m=n
  .grind
  .refine⟨false,by simp[f],?_⟩;simp[t,s,f]
def Y6 (P:Program) (d:TypeDesc) (c:TypeId) (b a:Value) (r:Bool):Prop:=
 (∀w,(Op.equal c b a).run P w= .ok r w)/\((∃n e,d= .array n e)∨Instr.sameNow d b a=some r)/\((∃n e,d= .array n e)->Instr.sameNow d b a=none)
variable{D:TD} {x:AV}
include B in
theorem NT {kt:TypeId} (Q:E.ty.get kt=some D) {y:AV} {g:Bool->Bool} (a:Gr E D.d x=true) (h:P0 x y g=true):
  ∃r,g r=true/\∀A L J,conc A x=some L->conc A y=some J->Y6 P D.d kt L J r/\(r=true->Instr.sameBits 10000 J L=true/\J=L):=by
 have hu:=fun w=>Cq B Q (w:=w)
 unfold Gr at a;split at a
 ·
  rename_i kk k m c
  cases y with
  |int p b=>
   have⟨h1,h2⟩:=Bs (show cond (eqK k p) (Hu (Qv m b) g) false=true from h);have:=K7 h1;subst this;refine⟨_,Gx h2,fun A L J q o=>?_⟩;cases q;cases o;rw[Gc];refine⟨⟨fun w=>eq_of fun n=>?_,.inr ?_,fun⟨n,e,H⟩=>(by rw[c] at H;cases H)⟩,fun u=>?_⟩
   .simp only[Op.equalIn,Ay,hu,Am,c];simp
   .rw[c];simp[Instr.sameNow]
   .simp at u;subst u;exact⟨by simp[Instr.sameBits],rfl⟩
  |_=>exact absurd (show false=true from h) oD
 ·
  rename_i s c
  cases y with
  |str t=>
   refine⟨_,Gx (show Hu (eqS s t) g=true from h),fun A L J q o=>?_⟩;simp only[conc] at q o;split at q<;>simp at q
   split at o<;>simp at o
   rename_i b1 b2;subst q;subst o;have O:(bytesOf s==bytesOf t)=eqS s t:=by
    rw[LG,Dz,Y5];simp[beq_iff_eq];exact⟨fun e=>J2 b1 b2 e,fun e=>by rw[e]⟩
   refine⟨⟨fun w=>eq_of fun n=>?_,.inr ?_,fun⟨n,e,H⟩=>(by rw[c] at H;cases H)⟩,fun u=>?_⟩
   .simp only[Op.equalIn,Ay,hu,Am,c,AJ,O]
   .rw[c];simp[Instr.sameNow,O]
   .rw[LG] at u;simp at u;subst u;exact⟨by simp only[Instr.sameBits];exact(Y5 _ _).2 rfl,rfl⟩
  |_=>exact absurd (show false=true from h) oD
 ·
  rename_i n e cs c;split at a
  .rename_i kk _ _ H;have hn:=beq_eq ((BC _ _).1 a).1
   cases y with
   |agg b=>
    have⟨r,u,hl,G,hk⟩:=NS _ _ _ (show il cs b g=true from h);refine⟨r,u,fun A L J q o=>?_⟩;simp[conc,Af] at q o;obtain⟨la,ha,rfl⟩:=q;obtain⟨lb,O,rfl⟩:=o;have v:=OQ ha O hl hk;have a7:=BT ha;have a8:=BT O;have⟨i,q1,q2,q3,q4,q5⟩:=B.ty kt D Q;have⟨j,p1,p2,p3,p4,p5⟩:=B.ty e _ H;have f:∀j∈List.range n,∃k m n,la.toArray[j]?=some (.int k m)/\lb.toArray[j]?=some (.int k n):=fun j U=>by
     have U:=Ks.1 U;have ea:=Ab (show j<cs.length by omega);have eb:=Ab (show j<b.length by omega);have⟨k,m,n,q,o⟩:=hk j _ _ ea eb;have⟨z,hz,hc⟩:=CG ha j _ ea;have⟨z',a0,Y⟩:=CG O j _ eb;rw[q] at hc;rw[o] at Y;cases hc;cases Y;exact⟨k,m,n,by simpa using hz,by simpa using a0⟩
    have a2:∀(l:List Value),(∀(j:Nat) z,l[j]?=some z->∃k m,z=Value.int k m)->(l.zip l).all (fun(x,y)=>Instr.sameBits 9999 x y)=true:=fun l hl=>by
     rw[Bi];rintro⟨x,y⟩ a1;have⟨j,U⟩:=List.getElem?_of_mem a1;rw[List.getElem?_zip_eq_some] at U;have⟨S,R⟩:=U;rw[S] at R;cases R;obtain⟨k,m,rfl⟩:=hl j x S;simp[Instr.sameBits]
    refine⟨⟨fun w=>fB fun d a5=>?_,.inl ⟨n,e,c⟩,fun _=>by rw[c];rfl⟩,fun a3=>?_⟩
    .rw[run_equalIn_array w d la.toArray lb.toArray (by rw[q2,c]) p1];have a6:P.cellsOf e=1:=by simp[Program.cellsOf,p1,p3]
     rw[a6];obtain⟨d',rfl⟩:∃d',d=d'+1:=⟨d- 1,by have:=a5;omega⟩;have⟨r',a4,M⟩:=MH B H rfl d' la.toArray lb.toArray w (List.range n) f;have:r'=r:=by
      rw[Dz,M,G,v];constructor
      .intro Z;apply EM;intro i;by_cases hi:i<n
       .have:=Z i (Ks.2 hi);simpa using this
       .rw[BX oO,BX oO]
      .intro e;subst e;intro _ _;rfl
     rw[<-this];exact a4
    .have:=v.1 (G.1 a3);subst this;refine⟨?_,rfl⟩;simp only[Instr.sameBits,beq_self_eq_true,Bool.true_and];refine a2 _ fun j z hz=>?_
     have⟨k,m,n',h1,h2⟩:=f j (by
      have:=(Aa.1 hz).1;exact Ks.2 oO)
     simp at h1;rw[hz] at h1;cases h1;exact⟨_,_,rfl⟩
   |_=>exact absurd (show false=true from h) oD
  .cases a
 .cases a
def EY (P:Program) (d:TypeDesc) (b:TypeId) (p:Value) (a:List MapEntry) (i:Nat) (o:Option (Nat×Value)):Prop:=
 ((∃n e,d= .array n e)∨Instr.findNow d p a i=some o)/\((∃n e,d= .array n e)->a≠[]->Instr.findNow d p a i=none)/\∀w,(Instr.findAsking b p a i).run P w= .ok o w
variable{p:Value} {i:Nat}
theorem EY.nil {d:TypeDesc} {a:TypeId}:EY P d a p [] i none:=⟨.inr rfl,fun _ h=>absurd rfl h,fun w=>rfl⟩
theorem EY.hit {d:TypeDesc} {b:TypeId} {e:MapEntry} {j:List MapEntry} (h:Y6 P d b p e.key true):EY P d b p (e::j) i (some (i,e.val)):=by
 have⟨g,a,f⟩:=h;refine⟨?_,fun c _=>by simp[Instr.findNow,f c],fun w=>by simp[Instr.findAsking,g w]⟩;rcases a with a|a
 .exact .inl a
 .exact .inr (by simp[Instr.findNow,a])
theorem EY.miss {d:TypeDesc} {b:TypeId} {e:MapEntry} {c:List MapEntry} {o:Option (Nat×Value)} (h:Y6 P d b p e.key false) (f:EY P d b p c (i+1) o):EY P d b p (e::c) i o:=by
 have⟨l,a,j⟩:=h;have⟨r1,r2,r3⟩:=f;refine⟨?_,fun g _=>by simp[Instr.findNow,j g],fun w=>by simp[Instr.findAsking,l w,r3 w]⟩;rcases a with a|a
 .exact .inl a
 .rcases r1 with r1|r1
  .exact .inl r1
  .exact .inr (by simp[Instr.findNow,a,r1])
include B in
theorem EY.run {c:TypeId} {D:TD} (e:E.ty.get c=some D) {p:Value} {a:List MapEntry} {o:Option (Nat×Value)} (h:EY P D.d c p a 0 o) (w:World):(Instr.findKey c p a).run P w= .ok o w:=by
 have⟨b,j,g⟩:=h;simp[Instr.findKey,Ay,Cq B e,Am];rcases b with b|b
 .by_cases f:a=[]
  .subst f;have:=g w;simp[Instr.findAsking,AJ] at this;simp[Instr.findNow,AJ];exact this
  .rw[j b f];exact g w
 .rw[b];rfl
theorem IU {e:AV×AV×Nat} {b:List (AV×AV×Nat)} {l:List MapEntry} (h:Ci A (e::b)=some l):
  ∃k v a,conc A e.1=some k/\conc A e.2.1=some v/\Ci A b=some a/\l={key:=k,val:=v,born:=e.2.2}::a:=by
 have⟨k,v,n⟩:=e;simp[Ci,Cx,Af] at h;obtain⟨p,g,c,f,a,d,rfl⟩:=h;exact⟨p,c,a,g,f,d,rfl⟩
include B in
theorem KE {G:TypeId} {D:TD} (g:E.ty.get G=some D) {k:AV} (a:Gr E D.d k=true):∀{u:List (AV×AV×Nat)} {f:Option AV->Bool},Jr k u f=true->
  ∃r,f r=true/\∀A b p i,Ci A u=some b->conc A k=some p->∃o,EY P D.d G p b i o/\(r=none->o=none)/\(∀v,r=some v->∃j z,o=some (j,z)/\conc A v=some z)
 |[],f,h=>⟨none,h,fun A b p i c l=>by
   simp[Ci,A0] at c;subst c;exact⟨none,EY.nil,fun _=>rfl,(fun v e=>(by cases e))⟩⟩
 |e::u,f,h=>by
  have S:=h;have⟨r,m,H⟩:=NT B g a S
  cases r with
  |true=>
   refine⟨_,m,fun A b p i c l=>?_⟩;obtain⟨n,M,y,t,L,J,rfl⟩:=IU c;have⟨q,_⟩:=H A p n l t;exact⟨_,EY.hit q,(fun e=>(by cases e)),fun v e=>by cases e;exact⟨_,_,rfl,L⟩⟩
  |false=>
   have⟨r,m,s⟩:=KE g a m;refine⟨r,m,fun A b p i c l=>?_⟩;obtain⟨n,M,y,t,L,J,rfl⟩:=IU c;have⟨q,_⟩:=H A p n l t;have⟨o,R,Q,O⟩:=s A y p (i+1) J l;exact⟨o,EY.miss q R,Q,O⟩
include B in
theorem PD {Z:TypeId} {D:TD} (H:E.ty.get Z=some D) {k v:AV} {m:Nat} (l:Gr E D.d k=true):∀{U:List (AV×AV×Nat)} {f:List (AV×AV×Nat)->Bool->Bool},OM k v m U f=true->
  ∃n new,f n new=true/\∀A g p s i,Ci A U=some g->conc A k=some p->conc A v=some s->∃o,EY P D.d Z p g i o/\
   (new=true->o=none/\Ci A n=some (g++[{key:=p,val:=s,born:=m}]))/\
   (new=false->∃j z e,o=some (i+j,z)/\g[j]?=some e/\Instr.sameBits 10000 e.key p=true/\Ci A n=some (g.modify j fun e=>{e with key:=p,val:=s}))
 |[],f,h=>⟨_,_,h,fun A g p s i y u G=>by
   simp[Ci,A0] at y;subst y;exact⟨none,EY.nil,fun _=>⟨rfl,by simp[Ci,u,G]⟩,(fun e=>(by cases e))⟩⟩
 |e::U,f,h=>by
  have h':=h;have⟨r,hr,hs⟩:=NT B H l h'
  cases r with
  |true=>
   refine⟨_,_,hr,fun A g p s i y u G=>?_⟩;obtain⟨L,ve,Y,t,J,S,rfl⟩:=IU y;have⟨q,hq⟩:=hs A p L u t;have⟨Q,O⟩:=hq rfl;subst O;exact⟨_,EY.hit q,(fun e=>(by cases e)),fun _=>⟨0,_,_,rfl,rfl,Q,by simp[Ci,t,G,S]⟩⟩
  |false=>
   have⟨n,new,hf,M⟩:=PD H l hr;refine⟨_,_,hf,fun A g p s i y u G=>?_⟩;obtain⟨L,ve,Y,t,J,S,rfl⟩:=IU y;have⟨q,_⟩:=hs A p L u t;have⟨o,p1,p2,p3⟩:=M A Y p s (i+1) S u G;refine⟨o,EY.miss q p1,fun R=>?_,fun R=>?_⟩
   .have⟨a,b⟩:=p2 R;exact⟨a,by have⟨e1,e2,e3⟩:=e;simp at t J;simp[Ci,t,J,b]⟩
   .have⟨j,z,en,a,b,c,d⟩:=p3 R;refine⟨j+1,z,en,by rw[a];congr 2;omega,by simpa using b,c,?_⟩;have⟨e1,e2,e3⟩:=e;simp[Ci,t,J,d]
variable{k:AV}
include B in
theorem run_checkKey {s:TypeId} (y:E.ty.get s=some D) (c:Gr E D.d k=true) (f:conc A k=some p) (b:Bool) (w:World):
  (Instr.checkKey b 10000 s p).run P w= .ok () w:=by
 have v:=Cq B y;have J:∀q n,q=n+1->(Instr.checkKey b (q+1) s p).run P w= .ok () w:=fun q n Z=>by
  unfold Gr at c;split at c
  .rename_i r;cases f;simp only[Instr.checkKey,Ay,v,Am,r];rfl
  .rename_i r;simp only[conc] at f;split at f<;>simp at f
   subst f;simp only[Instr.checkKey,Ay,v,Am,r];rfl
  .rename_i m e cs r;split at c
   .rename_i kk _ _ G;have hn:=beq_eq ((BC _ _).1 c).1;simp[conc,Af] at f;obtain⟨L,O,rfl⟩:=f;have a0:=BT O;simp only[Instr.checkKey,Ay,v,Am,r];simp only[Std.Legacy.Range.forIn_eq_forIn_range',Std.Legacy.Range.size,Nat.sub_zero,Nat.add_one_sub_one,Nat.div_one];have u:∀g:List Nat,(∀j∈g,j<m)->(forIn g PUnit.unit fun i (_:PUnit)=>do
      let a<-part e L.toArray (i*(<-sizeOf e))
      Instr.checkKey b q e a
      pure (ForInStep.yield PUnit.unit):Sem PUnit).run P w= .ok PUnit.unit w:=fun g l=>by
     induction g with
     |nil=>rfl
     |cons j g S=>
      have o:=l j oS;have Q:=Ab (show j<cs.length by omega);have⟨t,R,e1⟩:=NR ((BC _ _).1 c).2 _ (AQ Q);have⟨z,U,M⟩:=CG O j _ Q;rw[e1] at M;cases M;have hp:=IT B G rfl L.toArray j (by simpa using U) w;have Y:=Cs B G;have H:(Instr.checkKey b q e (.int t R)).run P w= .ok () w:=by
       rw[Z];simp only[Instr.checkKey,Ay,Cq B G,Am];rfl
      simp[List.forIn_cons,Ay,Y,Am,Nat.mul_one,hp,H,AJ];exact S (fun j o=>l j (by simp[o]))
    have:=u (List.range' 0 m) (fun j o=>by simp at o;exact o);simp at this⊢;rw[this];rfl
   .cases c
  .cases c
 exact J 9999 9998 rfl
def Iz (k:AV) (a:List AV):Prop:=((∃s,k= .str s)/\∀x∈a,∃s,x= .str s)∨∃b n,k= .int b n/\∀x∈a,∃m,x= .int b m
open Classical in
noncomputable def lookA (k:AV) (a:List (AV×AV)):Option AV:=(a.find? fun e=>decide (e.1=k)).map (·.2)
theorem Hz {k:AV}:∀{g:List (AV×AV×Nat)},Iz k (g.map (·.1))->∀G,Jr k g G=G (lookA k (g.map fun e:AV×AV×Nat=>(e.1,e.2.1)))
 |[],_,G=>rfl
 |e::g,hp,G=>by
  have t:Iz k (g.map (·.1)):=by
   rcases hp with⟨o,d⟩|⟨c,n,o,d⟩
   .exact .inl ⟨o,fun x j=>d x (by simp at j⊢;exact .inr j)⟩
   .exact .inr ⟨c,n,o,fun x j=>d x (by simp at j⊢;exact .inr j)⟩
  have y:Jr k (e::g) G=P0 k e.1 fun r=>cond r (G (some e.2.1)) (Jr k g G):=rfl
  have l:∀f:Bool->Bool,P0 k e.1 f=f (@decide (e.1=k) (Classical.propDecidable _)):=fun f=>by
   have q:∀b (f:Bool->Bool),Hu b f=f b:=fun b f=>by cases b<;>rfl
   rcases hp with⟨⟨a,rfl⟩,d⟩|⟨c,n,rfl,d⟩
   .have⟨s,u⟩:=d e.1 oS;rw[u];show Hu (eqS a s) f=_;rw[q,LG];congr 1;by_cases h:a=s
    .subst h;simp
    .grind
   .have⟨m,v⟩:=d e.1 oS;rw[v];show cond (eqK c c) (Hu (Qv n m) f) false=_;have:eqK c c=true:=by cases c<;>rfl
    rw[this,cond_true,q,Gc];congr 1;by_cases h:n=m
    .subst h;simp
    .grind
  rw[y,l,Hz t];by_cases h:e.1=k
  .simp[lookA,h]
  .simp[lookA,h]
theorem TY {a b:List (AV×AV)} (j:a.Perm b) (d:(b.map Prod.fst).Nodup):lookA k a=lookA k b:=by
 have g:=(j.map Prod.fst).nodup_iff.2 d;have c:∀{l:List (AV×AV)},(l.map Prod.fst).Nodup->∀v,lookA k l=some v↔(k,v)∈l:=by
  intro l
  induction l with
  |nil=>intro _ v;simp[lookA]
  |cons e l f=>
   intro d v;simp[BI,Dc] at d;have f:=f d.2 v;unfold lookA at f⊢;by_cases h:e.1=k
   .grind
   .grind
 cases n:lookA k a with
 |none=>
  cases m:lookA k b with
  |none=>rfl
  |some v=>
   have:=(c g v).2 (j.mem_iff.2 ((c d v).1 m));rw[n] at this;cases this
 |some v=>grind
theorem Mh:∀(a:List (AV×AV)),(P1 a).map (fun e:AV×AV×Nat=>(e.1,e.2.1))=a
 |[]=>rfl
 |e::a=>by
  show(e.1,e.2)::(P1 a).map (fun e:AV×AV×Nat=>(e.1,e.2.1))=_;rw[Mh a]
theorem NU (a:List (AV×AV)):(P1 a).map (·.1)=a.map Prod.fst:=by
 have:=congrArg (List.map Prod.fst) (Mh a);simpa[Function.comp_def] using this
theorem TZ {f:List (AV×AV)} {b:List (AV×AV×Nat)} (d:Iz k (f.map Prod.fst)) (m:(b.map fun e:AV×AV×Nat=>(e.1,e.2.1)).Perm f) (q:(f.map Prod.fst).Nodup) {G:Option AV->Bool}:Jr k b G=Jr k (P1 f) G:=by
 have a:(b.map (·.1)).Perm (f.map Prod.fst):=by
  have:=m.map Prod.fst;simpa[Function.comp_def] using this
 have c:Iz k (b.map (·.1)):=by
  rcases d with⟨l,j⟩|⟨o,n,l,j⟩
  .exact .inl ⟨l,fun x g=>j x (a.mem_iff.1 g)⟩
  .exact .inr ⟨o,n,l,fun x g=>j x (a.mem_iff.1 g)⟩
 rw[Hz c,Hz (by rw[NU];exact d),Mh,TY m q]
variable{h:AH}
open Classical in
include B in
theorem QB {t:TypeId} {J:Bool} {g:AV->Bool} (M:Qy E t x k J h g=true):
  ∃v,g v=true/\isBad v=false/\∀A w x' p,BK C A h w->VR A x x'->VR A k p->∃z,(Instr.lookup t x' p J).run P w= .ok z w/\conc A v=some z:=by
 unfold Qy at M;split at M
 .rename_i kt et _ _ _ ht;have hu:=fun w=>Cq B ht (w:=w)
  split at M
  .rename_i D L R b0;have⟨d,M⟩:=Bs M;have a2:isBad k=false:=by cases k<;>first|rfl|(unfold Gr at d;split at d<;>simp_all)
   have a4:∀(g:AV->Bool) q,(Jr k q fun r=>match r with
      |some v=>cond (isBad v) false (cond J (g (.tup [v,.bool true])) (g v))
      |none=>cond (isBad L.zero) false (cond J (g (.tup [L.zero,.bool false])) (g L.zero)))=true->
     ∃v,g v=true/\isBad v=false/\∀A w (c:Array MapEntry) p,Ci A q=some c.toList->VR A k p->
      ∃z zz Y,((∃j,(Instr.findKey kt p c.toList).run P w= .ok (some (j,zz)) w/\Y=true)∨((Instr.findKey kt p c.toList).run P w= .ok none w/\(zeroValue et).run P w= .ok zz w/\Y=false))/\z=(if J then .tuple #[zz,.bool Y] else zz)/\conc A v=some z:=by
    intro g q Z;have⟨r,hr,hs⟩:=KE B R d Z
    cases r with
    |some v=>
     have⟨h1,h2⟩:=Eh hr;have a3:∀A w (c:Array MapEntry) p,Ci A q=some c.toList->VR A k p->∃j z,(Instr.findKey kt p c.toList).run P w= .ok (some (j,z)) w/\conc A v=some z:=fun A w c p Q H=>by
      have⟨o,p1,p2,p3⟩:=hs A _ p 0 Q (H.conc' a2);obtain⟨j,z,rfl,O⟩:=p3 v rfl;exact⟨j,z,p1.run B R w,O⟩
     cases J with
     |true=>
      refine⟨_,h2,rfl,fun A w c p Q H=>?_⟩;have⟨j,z,Z,O⟩:=a3 A w c p Q H;exact⟨.tuple #[z,.bool true],z,true,.inl ⟨j,Z,rfl⟩,rfl,by simp[conc,B2,O]⟩
     |false=>
      refine⟨_,h2,h1,fun A w c p Q H=>?_⟩;have⟨j,z,Z,O⟩:=a3 A w c p Q H;exact⟨z,z,true,.inl ⟨j,Z,rfl⟩,rfl,O⟩
    |none=>
     have⟨h1,h2⟩:=Eh hr;have a3:∀A w (c:Array MapEntry) p,Ci A q=some c.toList->VR A k p->∃z,(Instr.findKey kt p c.toList).run P w= .ok none w/\(zeroValue et).run P w= .ok z w/\conc A L.zero=some z:=fun A w c p Q H=>by
      have⟨o,p1,p2,p3⟩:=hs A _ p 0 Q (H.conc' a2);cases p2 rfl;have⟨z,m,O⟩:=Ot B b0 w h1;exact⟨z,p1.run B R w,m,O A⟩
     cases J with
     |true=>
      refine⟨_,h2,rfl,fun A w c p Q H=>?_⟩;have⟨z,Z,m,O⟩:=a3 A w c p Q H;exact⟨.tuple #[z,.bool false],z,false,.inr ⟨Z,m,rfl⟩,rfl,by simp[conc,B2,O]⟩
     |false=>
      refine⟨_,h2,h1,fun A w c p Q H=>?_⟩;have⟨z,Z,m,O⟩:=a3 A w c p Q H;exact⟨z,z,false,.inr ⟨Z,m,rfl⟩,rfl,O⟩
   cases x with
   |mnil=>
    have⟨v,hv,hb,hs⟩:=a4 g _ M;refine⟨v,hv,hb,fun A w x' p kk Q H=>?_⟩;cases Q.conc oS;obtain⟨z,zz,Y,m,rfl,O⟩:=hs A w #[] p rfl H;refine⟨_,?_,O⟩;simp only[Instr.lookup,Ay,hu,Am,AJ,run_checkKey B R d (H.conc' a2)];rcases m with⟨j,m,rfl⟩|⟨m,a1,rfl⟩
    .simp only[m,Am,AJ,Ay]
    .simp only[m,Am,Ay,a1,AJ]
   |map b=>
    simp only at M;split at M
    .rename_i q S ro hm;have⟨v,hv,hb,hs⟩:=a4 g _ M;refine⟨v,hv,hb,fun A w x' p kk Q H=>?_⟩;have:=Q.conc oS;simp[conc,Af] at this;obtain⟨y,hy,rfl⟩:=this;have⟨c,q1,q2⟩:=kk.obj b _ y hm hy;obtain⟨z,zz,Y,m,rfl,O⟩:=hs A w c p q2 H;refine⟨_,?_,O⟩;have hg:(getObj y.blk).run P w= .ok (.map c S) w:=by simp[getObj,Sem.run,q1]
     simp only[Instr.lookup,Ay,hu,Am,hg,AJ,run_checkKey B R d (H.conc' a2)];rcases m with⟨j,m,rfl⟩|⟨m,a1,rfl⟩
     .simp only[m,Am,AJ,Ay]
     .simp only[m,Am,Ay,a1,AJ]
    .rename_i q hm;obtain⟨v,hv,hb,a7⟩:∃v,g v=true/\isBad v=false/\∀l:List (AV×AV×Nat),(l.map fun e:AV×AV×Nat=>(e.1,e.2.1)).Perm q->(q.map Prod.fst).Nodup->
       ((∀e∈q,∃s,e.1= .str s)∨(∃k,∀e∈q,∃n,e.1= .int k n))->(Jr k l fun r=>match r with
       |some u=>cond (isBad u) false (cond J (decide (AV.tup [u,.bool true]=v)) (decide (u=v)))
       |none=>cond (isBad L.zero) false (cond J (decide (AV.tup [L.zero,.bool false]=v)) (decide (L.zero=v))))=true:=by
      have a0:∀(f:(Option AV->Bool)->Bool),f (fun r=>match r with
        |some v=>cond (isBad v) false (cond J (g (.tup [v,.bool true])) (g v))
        |none=>cond (isBad L.zero) false (cond J (g (.tup [L.zero,.bool false])) (g L.zero)))=true->(∃r,∀G,f G=G r)->∃r v,(∀G,f G=G r)/\g v=true/\isBad v=false/\(match r with
        |some u=>cond (isBad u) false (cond J (decide (AV.tup [u,.bool true]=v)) (decide (u=v)))
        |none=>cond (isBad L.zero) false (cond J (decide (AV.tup [L.zero,.bool false]=v)) (decide (L.zero=v))))=true:=fun f Z ⟨r,hr⟩=>by
       rw[hr] at Z
       cases r with
       |some u=>
        have⟨q1,q2⟩:=Eh Z
        cases J with
        |true=>exact⟨_,_,hr,q2,rfl,by simp[q1]⟩
        |false=>exact⟨_,_,hr,q2,q1,by simp[q1]⟩
       |none=>
        have⟨q1,q2⟩:=Eh Z
        cases J with
        |true=>exact⟨_,_,hr,q2,rfl,by simp[q1]⟩
        |false=>exact⟨_,_,hr,q2,q1,by simp[q1]⟩
      by_cases a5:Iz k (q.map Prod.fst)
      .have⟨r,v,q1,q2,q3,q4⟩:=a0 (Jr k (P1 q)) M ⟨_,Hz (by rw[NU];exact a5)⟩;refine⟨v,q2,q3,fun l hp hn _=>?_⟩;rw[TZ a5 hp hn,q1];exact q4
      .obtain⟨r,v,q1,q2,q3,q4⟩:∃r v,(∀l:List (AV×AV×Nat),(l.map fun e:AV×AV×Nat=>(e.1,e.2.1)).Perm q->(q.map Prod.fst).Nodup->
         ((∀e∈q,∃s,e.1= .str s)∨(∃k,∀e∈q,∃n,e.1= .int k n))->∀G,Jr k l G=G r)/\g v=true/\isBad v=false/\(match r with
        |some u=>cond (isBad u) false (cond J (decide (AV.tup [u,.bool true]=v)) (decide (u=v)))
        |none=>cond (isBad L.zero) false (cond J (decide (AV.tup [L.zero,.bool false]=v)) (decide (L.zero=v))))=true:=by
        cases q with
        |nil=>
         have⟨r,v,q1,q2,q3,q4⟩:=a0 (Jr k []) M ⟨none,fun G=>rfl⟩;refine⟨r,v,fun l hp _ _ G=>?_,q2,q3,q4⟩;have:l=[]:=by
          have:=hp.length_eq;simpa using this
         rw[this];exact q1 G
        |cons e q=>
         by_cases U:(∀e'∈e::q,∃s,e'.1= .str s)∨(∃k,∀e'∈e::q,∃n,e'.1= .int k n)
         .exfalso;refine a5 ?_;have h0:P0 k e.1 (fun r=>cond r _ _)=true:=M;rcases U with h1|⟨kk,h1⟩
          .have⟨s,hs⟩:=h1 e oS;rw[hs] at h0
           cases k with
           |str a=>exact .inl ⟨⟨a,rfl⟩,fun x hx=>by
             obtain⟨e',a6,rfl⟩:=BB.1 hx;exact h1 e' a6⟩
           |_=>cases h0
          .have⟨n,hs⟩:=h1 e oS;rw[hs] at h0
           cases k with
           |int k2 a=>
            have⟨h2,_⟩:=Bs h0;have:=K7 h2;subst this;exact .inr ⟨k2,a,rfl,fun x hx=>by
             obtain⟨e',a6,rfl⟩:=BB.1 hx;exact h1 e' a6⟩
           |_=>cases h0
         .have a9:∃r v,g v=true/\isBad v=false/\(match r with
            |some u=>cond (isBad u) false (cond J (decide (AV.tup [u,.bool true]=v)) (decide (u=v)))
            |none=>cond (isBad L.zero) false (cond J (decide (AV.tup [L.zero,.bool false]=v)) (decide (L.zero=v))))=true:=by
           have⟨r,hr,_⟩:=KE B R d M;have⟨r',v,_,q2,q3,q4⟩:=a0 (fun G=>G r) hr ⟨r,fun G=>rfl⟩;exact⟨r',v,q2,q3,q4⟩
          have⟨r,v,q2,q3,q4⟩:=a9;exact⟨r,v,fun l hp hn hk2=>absurd hk2 U,q2,q3,q4⟩
       exact⟨v,q2,q3,fun l hp hn hk2=>by rw[q1 l hp hn hk2];exact q4⟩
     refine⟨v,hv,hb,fun A w x' p kk Q H=>?_⟩;have:=Q.conc oS;simp only[conc,Af] at this;obtain⟨y,hy,rfl⟩:=this;have⟨c,S,l,q1,q2,q3,q4,q5⟩:=kk.obj b _ y hm hy;have⟨u,a8,_,hs⟩:=a4 (fun u=>decide (u=v)) l (a7 l q2 q3 q4);have:u=v:=by simpa using a8
     subst this;obtain⟨z,zz,Y,m,rfl,O⟩:=hs A w c p q5 H;refine⟨_,?_,O⟩;have hg:(getObj y.blk).run P w= .ok (.map c S) w:=by simp[getObj,Sem.run,q1]
     simp only[Instr.lookup,Ay,hu,Am,hg,AJ,run_checkKey B R d (H.conc' a2)];rcases m with⟨j,m,rfl⟩|⟨m,a1,rfl⟩
     .simp only[m,Am,AJ,Ay]
     .simp only[m,Am,Ay,a1,AJ]
    .cases M
   |_=>cases M
  .cases M
 .cases M
theorem Hg {C:Ctx} {w:World} (k:BK C A h w) {b:Nat} {f a:AO} {x:Loc} (s:h.m.get b=some f) (g:A b=some x) (r:f.owns=true) (d:f.ro=false) {m:Tr AO} (l:h.m.Put b a m) (o:Obj) (n:x.blk<w.heap.size)
  (c:a.ro=false) (e:OR A x {w with heap:=w.heap.setIfInBounds x.blk o} a):BK C A ⟨m,h.nx⟩ {w with heap:=w.heap.setIfInBounds x.blk o}:=by
 refine k.turn s g r d l (fun t=>⟨rfl,rfl,rfl,oS,fun j q=>?_⟩) oS (fun j q=>?_) c e
 .grind
 .grind
include B in
theorem Lk {t:TypeId} {v:AV} {g:AH->Bool} (l:Ni E t x k v h g=true):
  ∃h',g h'=true/\∀A w L p r,BK C A h w->VR A x L->VR A k p->VR A v r->∃Z,(Instr.mapUpdate t L p r).run P w= .ok () Z/\BK C A h' Z:=by
 unfold Ni at l;split at l
 .rename_i kt et _ _ _ ht;have hu:=fun w=>Cq B ht (w:=w)
  split at l
  .rename_i D q;have⟨hq,l⟩:=Bs l;have⟨a,G⟩:=(BC _ _).1 hq;have G:isBad v=false:=by simpa using G
   have H:isBad k=false:=by cases k<;>first|rfl|(unfold Gr at a;split at a<;>simp_all)
   cases x with
   |map b=>
    simp at l;split at l
    .rename_i es c S;have⟨a0,new,hf,hs⟩:=PD B q a l;rw[Dx] at hf;have⟨m,hg,hp⟩:=Tr.set_spec _ _ _ _ hf;refine⟨_,hg,fun A w L p r M e1 Y e3=>?_⟩;have:=e1.conc oS;simp[conc,Af] at this;obtain⟨y,O,rfl⟩:=this;have⟨f,q1,q2⟩:=M.obj b _ y S O;have n:y.blk<w.heap.size:=(Ak.1 q1).1;have⟨o,p1,p2,p3⟩:=hs A _ p r 0 q2 (Y.conc' H) (e3.conc' G);have u:(getObj y.blk).run P w= .ok (.map f c) w:=by simp[getObj,Sem.run,q1]
     have s:∀o,(setObj y.blk o).run P w= .ok () {w with heap:=w.heap.setIfInBounds y.blk o}:=fun o=>by simp[setObj,Sem.run,q1]
     have d:=p1.run B q w
     cases new with
     |true=>
      obtain⟨rfl,J⟩:=p2 rfl;refine⟨{w with heap:=w.heap.setIfInBounds y.blk (.map (f.push {key:=p,val:=r,born:=c}) (c+1))},?_,Hg M S O rfl rfl hp _ n rfl ⟨f.push {key:=p,val:=r,born:=c},by simp[n],by simpa using J⟩⟩;simp[Instr.mapUpdate,Ay,hu,Am,u,run_checkKey B q a (Y.conc' H),d,s]
     |false=>
      obtain⟨j,z,en,rfl,hj,R,J⟩:=p3 rfl;refine⟨{w with heap:=w.heap.setIfInBounds y.blk (.map (f.modify j fun e=>{e with key:=p,val:=r}) c)},?_,Hg M S O rfl rfl hp _ n rfl ⟨f.modify j fun e=>{e with key:=p,val:=r},by simp[n],by simpa using J⟩⟩;have U:f[j]?=some en:=by simpa using hj
      rw[CC] at d;have Q:(Instr.keyThatStays (((f[j]?).map (·.key)).getD p) p).run P w= .ok p w:=by
       rw[U];simp[Instr.keyThatStays,R]
      simp[Instr.mapUpdate,Ay,hu,Am,u,run_checkKey B q a (Y.conc' H),d,Q,s]
    .cases l
   |_=>cases l
  .cases l
 .cases l
end
end
section
def F5 (P:Program) (C:Ctx) (f:Op) (q:Tr AV) (h:AH) (v:AV) (e:AH):Prop:=
 ∀(b:BJ) (w:World) (c:Operand->Value) (o:Oper),o.op=f->BK C b h w->Rc b q c->
  ∃a n z d,b.le a/\(execOp c o).run P w= .ok n d/\BK C a e d/\(n= .value z∨n= .skip/\z=undef)/\VR a v z
theorem F5.value {P:Program} {C:Ctx} {f:Op} {q:Tr AV} {h:AH} {v:AV} {m:AH} (s:∀(i:BJ) (w:World) (j:Operand->Value) (o:Oper),o.op=f->BK C i h w->Rc i q j->
  ∃e z l,i.le e/\(execOp j o).run P w= .ok (.value z) l/\BK C e m l/\VR e v z):F5 P C f q h v m:=fun i w j o r k n=>by
 have⟨e,z,l,a,b,c,d⟩:=s i w j o r k n;exact⟨e,_,z,l,a,b,c,.inl rfl,d⟩
variable{f:Op} {q:Tr AV} {h:AH}
theorem F5.pure {P:Program} {C:Ctx} {v:AV} (j:∀(c:BJ) (w:World) (d:Operand->Value) (o:Oper),o.op=f->BK C c h w->Rc c q d->
  ∃z,(execOp d o).run P w= .ok (.value z) w/\VR c v z):F5 P C f q h v h:=F5.value fun c w d o i k e=>by
 have⟨z,a,b⟩:=j c w d o i k e;exact⟨c,z,w,BJ.le.refl c,a,k,b⟩
theorem F5.skip {P:Program} {C:Ctx} {f:Op} {q:Tr AV} {h i:AH} (m:∀(c:BJ) (w:World) (d:Operand->Value) (o:Oper),o.op=f->BK C c h w->Rc c q d->
  ∃e,(execOp d o).run P w= .ok .skip e/\BK C c i e):F5 P C f q h (.tup []) i:=fun c w d o l k j=>by
 have⟨e,a,b⟩:=m c w d o l k j;exact⟨c,_,undef,e,BJ.le.refl c,a,b,.inr ⟨rfl,rfl⟩,.inr (by simp[conc,B2,undef])⟩
theorem PO (z:Array Value):∀c:Nat,(List.range (c*z.size)).map (fun i=>z[i%z.size]!)=(List.replicate c z.toList).flatten
 |0=>oS
 |c+1=>by
  have e:(c+1)*z.size=z.size+c*z.size:=by rw[Nat.add_mul];omega
  rw[e,List.range_add,Db,List.replicate_succ,List.flatten_cons,<-PO z c];congr 1
  .apply EM;intro i;by_cases a:i<z.size
   .simp[J0 a,Nat.mod_eq_of_lt a,a]
   .grind
  .simp[EN,Function.comp_def]
theorem IZ (z:Array Value) (c:Nat):((Array.range (c*z.size)).map (fun i=>z[i%z.size]!)).toList=(List.replicate c z.toList).flatten:=by
 rw[<-PO];simp
theorem I0 {a:BJ} {z:List AV} {l:List Value} (h:B2 a z=some l):∀c:Nat,B2 a (List.replicate c z).flatten=some (List.replicate c l).flatten
 |0=>rfl
 |c+1=>by
  exact II h (I0 h c)
section
variable{P:Program} {E:Env} {C:Ctx} (p:Em P E C)
include p
theorem I1:∀(n:Nat) (z:List AV) (g:List AV->Bool),ak z n g=true->g (List.replicate n z).flatten=true
 |0,z,g,h=>h
 |n+1,z,g,h=>by
  have:=I1 n z _ (show ak z n (fun l=>g (z++l))=true from h);simpa[List.replicate_succ] using this
theorem Ja {t:TypeId} {a:TD} (k:E.ty.get t=some a) (j:isBad a.zero=false) (l:(cellsOf a.zero).length=a.size):
  ∃b:Value,(∀w,(zeroValue t).run P w= .ok b w)/\b.cells.size=a.size/\∀c,B2 c (cellsOf a.zero)=some b.cells.toList:=by
 have⟨i,q1,q2,q3,q4,q5⟩:=p.ty t _ k;have⟨b,e,d⟩:=q5 j;refine⟨b,fun w=>by simp[zeroValue,typeInfo,q1,e],?_,fun c=>F0 (d c)⟩;have:=BT (F0 (d ⟨fun _=>none,0⟩));rw[l] at this;simpa using this
variable{g:AV->AH->Bool}
theorem OT {t:TypeId} {l c:Operand} (Y:DC E (.makeSlice t l c) q h g=true):∃v h',g v h'=true/\F5 P C (.makeSlice t l c) q h v h':=by
 simp only[DC] at Y;have⟨lv,h1,hl⟩:=BH p Y;have⟨cv,h2,hc⟩:=BH p h1;obtain⟨kl,j,rfl,h3⟩:=Ff h2;obtain⟨kc,a,rfl,s⟩:=Ff h3;split at s
 .rename_i e _ _ _ R;split at s
  .rename_i u x;have⟨Z,h6⟩:=Bs s;simp only[BC,CL] at Z;have⟨⟨a1,G⟩,D,a4,B⟩:=Z;have a1:=ble_eq a1;have G:=ble_eq G;have D:=ble_eq D;have B:=beq_eq B;have⟨m,hg,hp⟩:=CO (I1 p _ _ _ h6);refine⟨_,_,hg,F5.value fun y w H o U k S=>?_⟩;have A:=(hl y h w H k S).conc oS;have z:=(hc y h w H k S).conc oS;simp[conc,A0] at A z;have⟨J,z1,z2,z3⟩:=Ja p x a4 B;have⟨i,Q,O⟩:=PU p x w;have M:IntKind.i64.wrap (j:Int)=j:=wrap_in .i64 _ (FA (oO:_<=0x8000000000000000));have L:IntKind.i64.wrap (a:Int)=a:=wrap_in .i64 _ (FA (oO:_<=0x8000000000000000));have hb:u.bytes*a<=4294967296:=Bj (Nat.mul_le_mul D G) oD;have⟨q1,q2⟩:=Kb k hp (I0 (z3 y) a) [] 0 oS ((Array.range (a*u.size)).map (fun i=>J.cells[i%J.cells.size]!)) (by rw[<-z2,IZ];simp) (fun _=>rfl);refine⟨_,.slice (some ⟨w.heap.size,0,none⟩) j a,_,q2,?_,q1,.inr (by simp[conc,BJ.put_same])⟩;have b:¬((a:Int)<0):=oO;have d:¬(281474976710656<(u.bytes:Int)*a):=by
    have:((u.bytes*a:Nat):Int)<=4294967296:=Int.ofNat_le.2 hb;rw[Int.natCast_mul] at this;omega
   have n:¬((a:Int)<j):=oO;have r:¬((j:Int)<0):=oO;by_cases h0:a*u.size=0
   .simp[execOp,U,Instr.makeSlice,<-A,<-z,Cq p R,asInt,asIntOf,Q,O,M,L,b,d,n,r,Cs p x,h0,show Array.range 0=#[] from by simp,newRow]
   .simp[execOp,U,Instr.makeSlice,<-A,<-z,Cq p R,asInt,asIntOf,Q,O,M,L,b,d,n,r,Cs p x,h0,z1,newRow]
  .cases s
 .cases s
theorem Ob {t:TypeId} {n:Nat} {ps:Array (Nat×Operand)} (b:DC E (.buildSlice t n ps) q h g=true):∃v J,g v J=true/\F5 P C (.buildSlice t n ps) q h v J:=by
 simp only[DC] at b;split at b
 .rename_i e _ _ _ B;split at b
  .rename_i c l;have⟨H,h6⟩:=Bs b;simp only[BC,CL] at H;have⟨u,a4,s⟩:=H;have u:=ble_eq u;have s:=beq_eq s;have⟨d,O,M,L⟩:=Ja p l a4 s;have Z:=I1 p _ _ _ h6;obtain⟨a0,Y,Q⟩:=Hl p (fun i f G=>⟨_,_,by rw[Dx] at G;exact G,rfl⟩) Z;obtain⟨m,U,S⟩:=CO Y;refine⟨_,_,U,F5.value fun y w z o D k R=>?_⟩;have⟨A,r1,r2⟩:=Q y h w z _ k R (I0 (L y) n);have⟨q1,q2⟩:=Kb k S r2 [] 0 oS A.toArray oS (fun _=>rfl);refine⟨_,.slice (some ⟨w.heap.size,0,none⟩) n n,_,q2,?_,q1,.inr (by simp[conc,BJ.put_same])⟩;have j:¬(2^24<n*c.size):=by have:n*c.size<=65536:=u;omega
   have r0:(Array.range (n*c.size)).map (fun i=>d.cells[i%d.cells.size]!)=(List.replicate n d.cells.toList).flatten.toArray:=by
    apply Ch;rw[<-M,IZ]
   have a:Instr.fill (fun i=>some (i*c.size,c.size)) (List.replicate n d.cells.toList).flatten.toArray (ps.toList.map fun(i,x)=>(i,z x))=some A.toArray:=r1;by_cases r:n*c.size=0
   .have r3:(List.replicate n d.cells.toList).flatten.toArray=#[]:=by rw[<-r0,r];simp
    rw[r3] at a;simp[execOp,D,Instr.buildSlice,Cq p B,Cs p l,j,r,show Array.range 0=#[] from by simp,a,newRow]
   .simp[execOp,D,Instr.buildSlice,Cq p B,Cs p l,j,r,O,r0,a,newRow]
  .cases b
 .cases b
theorem YH {x:Operand} {b:Bool} (H:DC E (.next x b) q h g=true):∃v U,g v U=true/\F5 P C (.next x b) q h v U:=by
 cases b with
 |false=>exact absurd (show false=true from H) oD
 |true=>
 simp only[DC] at H;have⟨xv,i,Q⟩:=BH p H;split at i
 .rename_i b;split at i
  .rename_i s d M;rw[FJ] at i;split at i
   .rename_i c r;have⟨S,Z⟩:=Bs i;have S:=ble_eq S;have⟨m,R,Y⟩:=Tr.set_spec _ _ _ _ Z;rw[Dx] at R;refine⟨_,_,R,F5.value fun j w A o G k D=>?_⟩;have:=(Q j h w A k D).conc oS;simp[conc,Af] at this;have⟨y,z,J⟩:=this;have⟨u,O,t⟩:=k.obj b _ y M z;have l:d<s.length:=(Aa.1 r).1;have B:s[d]=c:=by rw[Ab l] at r;simpa using r
    have a:d<(bytesOf s).size:=by rw[Df];exact l
    have L:((bytesOf s)[d]'a).toNat=c:=by
     have:((bytesOf s)[d]'a)=UInt8.ofNat c:=by simp[bytesOf,ByteArray.getElem_eq_getElem_data,B]
     rw[this];simp[UInt8.toNat_ofNat'];omega
    have n:=decode_ascii (bytesOf s) d a oO;have e:=(Ak.1 t).1;refine⟨j,.tuple #[.bool true,.int .i64 d,.int .i32 c],{w with heap:=w.heap.setIfInBounds y.blk (.stringIter (bytesOf s) (d+1))},BJ.le.refl j,?_,
     Hg k M z rfl rfl Y _ e rfl ⟨u,O,by simp[e]⟩,.inr (by simp[conc,B2])⟩
    simp[execOp,G,Instr.next,<-J,u,getObj,setObj,Sem.run,t,a,n,L,goInt]
   .rename_i r;refine⟨_,_,i,F5.pure fun j w A o G k D=>?_⟩;have:=(Q j h w A k D).conc oS;simp[conc,Af] at this;have⟨y,z,J⟩:=this;have⟨u,O,t⟩:=k.obj b _ y M z;have a:¬d<(bytesOf s).size:=by
     rw[Df];simp at r;omega
    exact⟨.tuple #[.bool false],by simp[execOp,G,Instr.next,<-J,u,getObj,Sem.run,t,a],.inr (by simp[conc,B2])⟩
  .cases i
 .cases i
omit p in
theorem Oc {σ:BJ}:∀s:List Nat,B2 σ (s.map fun n=>AV.int .u8 (.ofNat n))=some ((s.map Int.ofNat).map (Value.int .u8))
 |[]=>rfl
 |n::s=>by
  have:=Oc (σ:=σ) s;simp only[BI,B2,conc,this];rfl
omit p in
theorem Ui (s:List Nat) (h:Cy s=true):((bytesOf s).data.toList.map fun b=>(b.toNat:Int))=s.map Int.ofNat:=by
 have:=(Gd s).1 h;simp[bytesOf];intro n a;have:=this n a;omega
theorem Uj:∀(l:List AV) (g:List Nat->Bool),Jq l g=true->∃s,g s=true/\l=s.map (fun n=>AV.int .u8 (.ofNat n))/\Cy s=true:=by
 intro l
 induction l with
 |nil=>exact fun g h=>⟨[],h,rfl,rfl⟩
 |cons v l d=>
  intro g;have a:Jq (v::l) g=(match v with| .int .u8 (.ofNat n)=>cond (Nat.ble n 255) (Jq l fun s=>g (n::s)) false|_=>false):=rfl;rw[a];intro c;split at c
  .rename_i n;have⟨b,k⟩:=Bs c;have⟨s,j,i,e⟩:=d _ k;have b:=ble_eq b;exact⟨n::s,j,by simp[i],by simp[Cy,e,b]⟩
  .cases c
theorem Jb {t:TypeId} {a:TD} {d:TypeDesc} (b:E.ty.get t=some a) (c:a.d=d):P.underlying t=some d:=by
 have⟨i,m,e,l,k,j⟩:=p.ty t a b;rw[e,c]
theorem SA {s d:TypeId} {x:Operand} (hk:DC E (.convert s d x) q h g=true):∃v h',g v h'=true/\F5 P C (.convert s d x) q h v h':=by
 simp only[DC] at hk;have⟨xv,a,hx⟩:=BH p hk;split at a
 .rename_i sa da hs hd;have S:=fun w=>Cq (P:=P) (C:=C) p hs (w:=w)
  have U:=fun w=>Cq (P:=P) (C:=C) p hd (w:=w)
  split at a
  ·
   rename_i ks kd kx n B A;rw[B] at S;rw[A] at U;refine⟨_,h,FC a,F5.pure fun r w D o J k H=>?_⟩;have:=(hx r h w D k H).conc oS;simp only[conc,A0] at this;refine⟨.int kd (kd.wrap n),?_,.inr rfl⟩;simp only[execOp,J,<-this,convert,Ay,S,U,Am];simp[Conv.intToInt]
  ·
   rename_i e s B A;split at a
   .rename_i _ _ M;have ue:=fun w=>Cq (P:=P) (C:=C) p M (w:=w)
    have Z:=Oj _ _ a;rw[Dx] at Z;have⟨m,hg,hp⟩:=CO Z;refine⟨_,_,hg,F5.value fun r w D o J k H=>?_⟩;have:=(hx r h w D k H).conc oS;simp only[conc] at this;split at this<;>simp at this
    rename_i L;have a6:=run_bytes_of_string w _ _ e (bytesOf s) (Jb p hs B) (Jb p hd A) (Jb p M rfl);generalize a7:grownCap w (bytesOf s).size 0 e=cap at a6;have u:(bytesOf s).size<=cap:=by rw[<-a7];unfold grownCap;exact Nat.le_add_right _ _
    refine⟨_,_,_,k.lp ⟨w.heap.size,0,cap-s.length⟩,by simp only[execOp,J,<-this,Ay,a6,Am,AJ];rfl,k.drew.new hp 0 (cap-s.length) _ fun a8 _=>?_,.inr ?_⟩
    .refine⟨_,_,F4 _ _,?_,fun i v hi=>?_,fun _=> .inr (Ai _),fun e=>absurd e oD⟩
     .have:(bytesOf s).data.size=s.length:=Df s;rw[Df] at u;simp[bytesRow,Df]<;>omega
     .have hc:=SQ (σ:=a8) s L;have⟨z,hz,a9⟩:=CG hc i v hi;refine .inr ⟨z,?_,a9⟩;have Q:i<(bytesOf s).data.size:=by
       have:=(Aa.1 hz).1;simpa using this
      rw[CC,bytesRow_at _ _ _ Q];have a5:((bytesOf s).data.toList.map fun b=>Value.int .u8 b.toNat)[i]?=some z:=hz;rw[Bz,BP,DK Q] at a5;exact a5
    .rw[Df] at u;simp[conc,BJ.put_same,Bf,if_true,Df];have:s.length+(cap-s.length)=cap:=oO;rw[this]
   .cases a
  ·
   rename_i e B A;rw[B] at S;rw[A] at U;split at a
   .rename_i _ _ _ M;refine⟨_,h,a,F5.pure fun r w D o J k H=>?_⟩;have:=(hx r h w D k H).conc oS;simp[conc,A0] at this;refine⟨.string (bytesOf []),?_,.inr (by simp[conc,Cy])⟩;simp[execOp,J,<-this,Ay,run_convert_bytes_string w _ _ e _ _ _ (Jb p hs B) (Jb p M rfl) (Jb p hd A)];rfl
   .cases a
  ·
   rename_i e b o' len cap f B A;rw[B] at S;rw[A] at U;split at a
   .rename_i _ _ _ M;have⟨cs,c3,e',z,ro,hg,Y,c1,hl,_,hb⟩:=I4 a;have⟨s,b8,G,L⟩:=Uj p _ _ hg;refine⟨_,h,b8,F5.pure fun r w D o J k H=>?_⟩;have:=(hx r h w D k H).conc oS;simp only[conc,Af] at this;have⟨y,hy,R⟩:=this;subst c1;have⟨a0,hv,b0,b6⟩:=Ji k Y hy hl hb;refine⟨.string (bytesOf s),?_,.inr (by simp[conc,L])⟩;have t:=Hk (P:=P) b0 b6;have O:a0=((s.map Int.ofNat).map (Value.int .u8)):=by
     rw[G] at hv;have:=(Oc s).symm.trans hv;simpa using this.symm
    rw[O] at t;simp only[execOp,J,<-R,Ay,run_convert_bytes_string w _ _ e _ _ _ (Jb p hs B) (Jb p M rfl) (Jb p hd A),run_bytesToString w _ _ _ _ t];simp only[Am,AJ];rw[show s.map Int.ofNat=((bytesOf s).data.toList.map fun b=>(b.toNat:Int)) from(Ui s L).symm,foldl_push_byteCells];have:(⟨ByteArray.empty.data++(bytesOf s).data.toList.toArray⟩:ByteArray)=bytesOf s:=by
     have c0:ByteArray.empty.data=#[]:=rfl;rw[c0];simp
    rw[this]
   .cases a
  ·
   rename_i e b o' len cap f B A;rw[B] at S;rw[A] at U;split at a
   .rename_i _ _ _ M;have⟨Z,h3⟩:=Bs a;have Z:=beq_eq Z;split at h3
    .rename_i cs et z Y;refine⟨_,h,h3,F5.value fun r w D o J k H=>?_⟩;have:=(hx r h w D k H).conc oS;have hz:=this;simp only[conc,Af] at this;have⟨y,hy,R⟩:=this;have⟨arr,fz,a1,a2,a3,a4⟩:=k.obj b _ y Y hy;have Q:y.blk<w.heap.size:=(Ak.1 a1).1;have b4:w.shape? y.blk=some (et,arr.size):=by simp[World.shape?,a1]
     obtain⟨l,b1,b2⟩:∃l:Nat×Nat,(∀j,(w.freeze ⟨y.blk,arr.size,none⟩ 1).heap[j]?=if j=y.blk then some (.cells arr et l) else w.heap[j]?)/\(l.1=l.2∨arr.size<=l.1):=by
      refine⟨if fz.1==fz.2 then(arr.size,arr.size+1) else(min fz.1 arr.size,max fz.2 (arr.size+1)),fun j=>?_,?_⟩
      .unfold World.freeze;rw[if_neg oD];rw[DN];by_cases e:j=y.blk
       .subst e;simp[a1]
       .rw[if_neg (Ne.symm e),if_neg e]
      .rcases a4.1 rfl with a4|a4
       .simp[a4]
       .split
        .simp
        .right;simp;omega
     have hB:=k.own b _ y Y hy rfl rfl;have G:(w.freeze ⟨y.blk,arr.size,none⟩ 1).heap.size=w.heap.size:=by unfold World.freeze;rw[if_neg oD];simp
     refine⟨r,_,w.freeze ⟨y.blk,arr.size,none⟩ 1,BJ.le.refl r,?_,?_,.inr hz⟩
     .have b5:(s==d)=true:=by simpa using Z
      have b9:(freeze {block:=y.blk,off:=arr.size} 1).run P w= .ok () (w.freeze ⟨y.blk,arr.size,none⟩ 1):=rfl;have b3:(shape y.blk).run P w= .ok (some (et,arr.size)) w:=by show Result.ok (w.shape? y.blk) w=_;rw[b4]
      have ue:=fun w=>Cq (P:=P) (C:=C) p M (w:=w)
      simp[execOp,J,<-R,Ay,convert,S,U,Am,b5,ue,markStringish,b3,b9,AJ]
     .have b7:h.m.Put b (.cells cs et z false) h.m:=fun c=>by
       by_cases e:c=b
       .subst e;rw[if_pos rfl,Y]
       .rw[if_neg e]
      refine k.turn Y hy rfl rfl b7 (fun c2=>⟨rfl,rfl,rfl,by rw[G];exact Ai _,fun j hj=>by rw[b1,if_neg oO]⟩) G (fun j hj=>by rw[b1,if_neg hj]) rfl ⟨arr,l,by rw[b1,if_pos rfl],a2,a3,fun _=>b2,a4.2⟩
    .cases h3
   .cases a
  .cases a
 .cases a
end
end
section
theorem GP {a:BJ}:∀{c:List (AV×AV×Nat)} {l:List MapEntry},Ci a c=some l->l.length=c.length
 |[],l,h=>by simp[Ci] at h;subst h;rfl
 |(k,v,n)::c,l,h=>by
  simp[Ci] at h
  cases b:conc a k with
  |none=>rw[b] at h;cases h
  |some y=>
   cases d:conc a v with
   |none=>rw[b,d] at h;cases h
   |some z=>
    cases e:Ci a c with
    |none=>rw[b,d,e] at h;cases h
    |some f=>rw[b,d,e] at h;cases h;simp[GP e]
section
variable{P:Program} {E:Env} {C:Ctx} (i:Em P E C)
include i
theorem arr1 {b:Type} {a:Array b} {x:b} (h:a.toList=[x]):a=#[x]:=by apply Ch;simpa using h
theorem QU {b:Type} {a:Array b} {x y:b} (h:a.toList=[x,y]):a=#[x,y]:=by apply Ch;simpa using h
theorem ZC {c:Call} {tm:Tr AV} {h:AH} {g:AV->AH->Bool} (M:DC E (.call c) tm h g=true):∃v h',g v h'=true/\F5 P C (.call c) tm h v h':=by
 have⟨R,b0,b1⟩:=c
 cases R with
 |value f=>exact absurd (show false=true from M) oD
 |invoke r n=>exact absurd (show false=true from M) oD
 |builtin b=>
 simp only[DC] at M;split at M
 ·
  rename_i x t O H;cases arr1 i O;cases arr1 i H;have⟨xv,u,J⟩:=BH i M;have run:∀(j:BJ) (w:World) (l:Operand->Value) (o:Oper),o.op= .call ⟨.builtin .len,#[x],#[t]⟩->∀z L,(Builtin.len_ #[t] o.type #[l x]).run P w= .ok z L->(execOp l o).run P w= .ok (.value z) L:=fun j w l o q z L p=>by
   simp[execOp,q,resolve,invoke,builtin,p]
  split at u
  .rename_i a Z;have B:=fun w=>Cq (P:=P) (C:=C) i Z (w:=w)
   split at u
   .rename_i s A;rw[A] at B;rw[Dx] at u;refine⟨_,h,u,F5.pure fun j w l o q k p=>?_⟩;have:=(J j h w l k p).conc oS;simp only[conc] at this;split at this<;>simp at this
    exact⟨.int .i64 s.length,run j w l o q _ _ (by simp[Builtin.len_,B,<-this,goInt,Df]),.inr rfl⟩
   .rename_i n e A;rw[A] at B;refine⟨_,h,u,F5.pure fun j w l o q k p=>⟨.int .i64 n,run j w l o q _ _ (by simp[Builtin.len_,B,goInt]),.inr rfl⟩⟩
   .rename_i e A;rw[A] at B;refine⟨_,h,u,F5.pure fun j w l o q k p=>?_⟩;have:=(J j h w l k p).conc oS;simp only[conc,A0] at this;exact⟨.int .i64 0,run j w l o q _ _ (by simp[Builtin.len_,B,<-this,goInt]),.inr rfl⟩
   .rename_i e b o' n c op A;rw[A] at B;refine⟨_,h,u,F5.pure fun j w l o q k p=>?_⟩;have:=(J j h w l k p).conc oS;simp only[conc,Af] at this;have⟨y,Q,D⟩:=this;exact⟨.int .i64 n,run j w l o q _ _ (by simp[Builtin.len_,B,<-D,goInt]),.inr rfl⟩
   .rename_i kt et A;rw[A] at B;refine⟨_,h,u,F5.pure fun j w l o q k p=>?_⟩;have:=(J j h w l k p).conc oS;simp only[conc,A0] at this;exact⟨.int .i64 0,run j w l o q _ _ (by simp[Builtin.len_,B,<-this,goInt]),.inr rfl⟩
   .rename_i kt et b A;rw[A] at B;split at u
    .rename_i es Y ro hm;rw[Dx] at u;refine⟨_,h,u,F5.pure fun j w l o q k p=>?_⟩;have:=(J j h w l k p).conc oS;simp[conc,Af] at this;have⟨y,Q,D⟩:=this;have⟨a3,q1,q2⟩:=k.obj b _ y hm Q;have hl:=GP q2;have a1:(getObj y.blk).run P w= .ok (.map a3 Y) w:=by simp[getObj,Sem.run,q1]
     refine⟨.int .i64 es.length,run j w l o q _ _ ?_,.inr rfl⟩;have a9:a3.size=es.length:=by simpa using hl
     simp[Builtin.len_,B,<-D,a1,goInt,a9]
    .cases u
   .cases u
  .cases u
 ·
  rename_i x t O H;cases arr1 i O;cases arr1 i H;have⟨xv,u,J⟩:=BH i M;have run:∀(j:BJ) (w:World) (l:Operand->Value) (o:Oper),o.op= .call ⟨.builtin .cap,#[x],#[t]⟩->∀z L,(Builtin.cap_ #[t] o.type #[l x]).run P w= .ok z L->(execOp l o).run P w= .ok (.value z) L:=fun j w l o q z L p=>by
   simp[execOp,q,resolve,invoke,builtin,p]
  split at u
  .rename_i a Z;have B:=fun w=>Cq (P:=P) (C:=C) i Z (w:=w)
   split at u
   .rename_i e A;rw[A] at B;refine⟨_,h,u,F5.pure fun j w l o q k p=>?_⟩;have:=(J j h w l k p).conc oS;simp[conc,A0] at this;exact⟨.int .i64 0,run j w l o q _ _ (by simp[Builtin.cap_,B,<-this,goInt]),.inr rfl⟩
   .rename_i e b o' n c A;rw[A] at B;refine⟨_,h,u,F5.pure fun j w l o q k p=>?_⟩;have:=(J j h w l k p).conc oS;simp[conc,Af] at this;have⟨y,Q,D⟩:=this;exact⟨.int .i64 c,run j w l o q _ _ (by simp[Builtin.cap_,B,<-D,goInt]),.inr rfl⟩
   .cases u
  .cases u
 ·
  rename_i x y O;cases QU i O;have⟨xv,u,J⟩:=BH i M;have⟨yv,G,Q⟩:=BH i u;split at G
  .rename_i k' a k2 b;refine⟨_,h,G,F5.pure fun j w l o q k p=>?_⟩;have A:=(J j h w l k p).conc oS;have e2:=(Q j h w l k p).conc oS;simp[conc,A0] at A e2;refine⟨.int k' (if b>a then b else a),?_,.inr ?_⟩
   .simp[execOp,q,resolve,invoke,builtin,Builtin.max_,Builtin.max2,<-A,<-e2]
   .simp only[conc,J1,Bool.cond_decide]
  .cases G
 ·
  rename_i x y O;cases QU i O;have⟨xv,u,J⟩:=BH i M;have⟨yv,G,Q⟩:=BH i u;split at G
  .rename_i k' a k2 b;refine⟨_,h,G,F5.pure fun j w l o q k p=>?_⟩;have A:=(J j h w l k p).conc oS;have e2:=(Q j h w l k p).conc oS;simp only[conc,A0] at A e2;refine⟨.int k' (if b<a then b else a),?_,.inr ?_⟩
   .simp[execOp,q,resolve,invoke,builtin,Builtin.min_,Builtin.min2,<-A,<-e2]
   .simp only[conc,J1,Bool.cond_decide]
  .cases G
 ·
  rename_i s x st xt O H;cases QU i O;cases QU i H;have⟨sv,u,hs⟩:=BH i M;have⟨xv,G,J⟩:=BH i u;have⟨v,h',hg,a2⟩:=QL i G;refine⟨v,h',hg,F5.value fun j w l o q k p=>?_⟩;have⟨a4,z,L,r1,r2,r3,r4⟩:=a2 o.type j w _ _ k (hs j h w l k p) (J j h w l k p);refine⟨a4,z,L,r1,?_,r4,.inr r3⟩;simp[execOp,q,resolve,invoke,builtin,r2]
 ·
  rename_i d s dt _ O H;cases QU i O;cases QU i H;have⟨dv,u,hd⟩:=BH i M;have⟨sv,G,hs⟩:=BH i u;split at G
  .rename_i e _ _ _ Z;have B:=fun w=>Cq (P:=P) (C:=C) i Z (w:=w)
   split at G
   .rename_i ea he;have us:=fun w=>Cs (P:=P) (C:=C) i he (w:=w)
    split at G
    .rename_i b o' len cap op;obtain⟨xs,n,h3,hl,U⟩:=PT (P:=P) G;obtain⟨h4,h5⟩:=Bs h3;have h4:=ble_eq h4
     cases n with
     |zero=>
      refine⟨_,h,h5,F5.pure fun j w l o q k p=>?_⟩;have:=(hd j h w l k p).conc oS;simp only[conc,Af] at this;have⟨y,Q,D⟩:=this;have⟨S,v1,v2,v3⟩:=U j w _ k (hs j h w l k p);have a5:=BT v1;have a6:S=[]:=BY (by rw[a5,hl];simp);subst a6;refine⟨.int .i64 0,?_,.inr rfl⟩;simp[execOp,q,resolve,invoke,builtin,Builtin.copy_,B,us,<-D,v2,v3,storeCells,goInt,Nat.min_def]
     |succ n=>
      have⟨cs,e',z,m,hg,hm,a8,a7,hp⟩:=Lj h5;refine⟨_,_,hg,F5.value fun j w l o q k p=>?_⟩;have:=(hd j h w l k p).conc oS;simp only[conc,Af] at this;have⟨y,Q,D⟩:=this;have⟨S,v1,v2,v3⟩:=U j w _ k (hs j h w l k p);have⟨L,r1,r2⟩:=NN (P:=P) k hm a8 a7 hp Q v1;refine⟨j,.int .i64 (n+1:Nat),L,BJ.le.refl j,?_,r2,.inr rfl⟩;have a0:Nat.min (n+1) len=n+1:=F3 h4;simp[execOp,q,resolve,invoke,builtin,E4,BI,D4,Ay,AJ,Am,<-D];simp[Builtin.copy_,B,us,v2,a0,v3,r1,goInt]
    .cases G
   .cases G
  .cases G
 .cases M
end
end
section
section
variable{P:Program} {E:Env} {C:Ctx} (j:Em P E C)
include j
omit j in
theorem NM {d:BJ} {e:Operand->Value}:∀{c:List AV} {l:List Operand},lD c=true->c.length=l.length->(∀(i:Nat) v o,c[i]?=some v->l[i]?=some o->VR d v (e o))->B2 d c=some (l.map e)
 |[],[],_,_,_=>rfl
 |[],_::_,_,h,_=>by simp at h
 |_::_,[],_,h,_=>by simp at h
 |v::c,o::l,hk,hl,hh=>by
  have⟨g,f⟩:=Eh (show cond (isBad v) false (lD c)=true from hk);have m:=(hh 0 v o oS oS).conc' g;have k:=NM f (by simpa using hl) (fun i u p a b=>hh (i+1) u p (by simpa using a) (by simpa using b));simp[B2,m,k]
theorem run_places (g:Array Field) (h:UX E g.toList=true):∃pl:Array (Nat×Nat),(∀w,(g.mapM fun f=>do pure (f.offset,<-sizeOf f.type):Sem (Array (Nat×Nat))).run P w= .ok pl w)/\
  ∀(i:Nat) b c,g[i]?=some b->E.ty.get b.type=some c->pl[i]?=some (b.offset,c.size):=by
 have k:∀l:List Field,UX E l=true->∃pl:List (Nat×Nat),(∀w,(l.mapM fun f=>do pure (f.offset,<-sizeOf f.type):Sem (List (Nat×Nat))).run P w= .ok pl w)/\
   ∀(i:Nat) b c,l[i]?=some b->E.ty.get b.type=some c->pl[i]?=some (b.offset,c.size):=fun l=>by
  induction l with
  |nil=>exact fun _=>⟨[],fun w=>oS,fun i b c e=>by simp at e⟩
  |cons f l q=>
   intro r;have d:(match E.ty.get f.type with|some _=>UX E l|none=>false)=true:=r;split at d
   .rename_i a s;have⟨pl,m,n⟩:=q d;refine⟨(f.offset,a.size)::pl,fun w=>?_,fun i b c p o=>?_⟩
    .simp only[Ho,Ay,Cs j s,Am,AJ,m]
    .grind
   .cases d
 have⟨pl,m,n⟩:=k g.toList h;refine⟨pl.toArray,fun w=>?_,fun i b c p o=>by simpa using n i b c (by simpa using p) o⟩;rw[Array.mapM_eq_mapM_toList,Sem.run_map,m];rfl
theorem Li {op:Op} {tm:Tr AV} {h:AH} {g:AV->AH->Bool} (A:DC E op tm h g=true):∃v h',g v h'=true/\F5 P C op tm h v h':=by
 cases op with
 |move x=>
  simp[DC] at A;have⟨v,R,G⟩:=BH j A;exact⟨v,h,R,F5.pure fun p w q o B k u=>⟨q x,by simp[execOp,B],G p h w q k u⟩⟩
 |assign x=>
  simp[DC] at A;have⟨v,R,G⟩:=BH j A;exact⟨v,h,R,F5.pure fun p w q o B k u=>⟨q x,by simp[execOp,B],G p h w q k u⟩⟩
 |pick c x y=>
  simp[DC] at A;have⟨cv,U,c7⟩:=BH j A;split at U
  .rename_i b;have b5:∀p w q,BK C p h w->Rc p tm q->q c= .bool b:=fun p w q k u=>by
    have:=(c7 p h w q k u).conc oS;simp[conc,A0] at this;exact this.symm
   cases b with
   |true=>
    have⟨v,R,G⟩:=BH j (show ev E x tm (fun v=>g v h)=true from U);exact⟨v,h,R,F5.pure fun p w q o B k u=>⟨q x,by simp[execOp,B,b5 p w q k u,asBool],G p h w q k u⟩⟩
   |false=>
    have⟨v,R,G⟩:=BH j (show ev E y tm (fun v=>g v h)=true from U);exact⟨v,h,R,F5.pure fun p w q o B k u=>⟨q y,by simp[execOp,B,b5 p w q k u,asBool],G p h w q k u⟩⟩
  .cases U
 |alloc t=>
  simp only[DC] at A;split at A
  .rename_i a O;have⟨hz,A⟩:=Eh A;have⟨b,h',J,hb,G⟩:=PA j A;refine⟨b,h',J,F5.value fun p w q o B k u=>?_⟩;have⟨z,b7,a1⟩:=Ot j O w hz;have⟨S,w',ad,r1,r2,r3,r4⟩:=G p w z k (a1 p);exact⟨S,_,w',r1,by simp[execOp,B,Instr.alloc,b7,r2],r3,.inr r4⟩
  .cases A
 |box t x=>
  simp only[DC] at A;have⟨v,R,a8⟩:=BH j A;have⟨hz,A⟩:=Eh R;have⟨b,h',J,hb,G⟩:=PA j A;refine⟨b,h',J,F5.value fun p w q o B k u=>?_⟩;have⟨S,w',ad,r1,r2,r3,r4⟩:=G p w _ k ((a8 p h w q k u).conc' hz);exact⟨S,_,w',r1,by simp[execOp,B,Instr.box,r2],r3,.inr r4⟩
 |insert t m k x=>
  simp[DC] at A;have⟨mv,D,hm⟩:=BH j A;have⟨kv,M,b0⟩:=BH j D;have⟨xv,H,L⟩:=BH j M;have⟨h',J,G⟩:=Lk j H;refine⟨_,h',J,F5.skip fun p w q o B kk u=>?_⟩;have⟨w',r1,r2⟩:=G p w _ _ _ kk (hm p h w q kk u) (b0 p h w q kk u) (L p h w q kk u);exact⟨w',by simp[execOp,B,r1],r2⟩
 |mapUpdate t m k x=>
  simp[DC] at A;have⟨mv,D,hm⟩:=BH j A;have⟨kv,M,b0⟩:=BH j D;have⟨xv,H,L⟩:=BH j M;have⟨h',J,G⟩:=Lk j H;refine⟨_,h',J,F5.skip fun p w q o B kk u=>?_⟩;have⟨w',r1,r2⟩:=G p w _ _ _ kk (hm p h w q kk u) (b0 p h w q kk u) (L p h w q kk u);exact⟨w',by simp[execOp,B,r1],r2⟩
 |load t x=>
  simp[DC] at A;have⟨v,R,a8⟩:=BH j A;split at R
  .rename_i b o';have⟨v,J,hb,G⟩:=NO j R;refine⟨v,h,J,F5.pure fun p w q o B k u=>?_⟩;have:=(a8 p h w q k u).conc oS;simp[conc,Af] at this;have⟨y,Z,Q⟩:=this;have⟨z,r1,r2⟩:=G p w y k Z;exact⟨z,by simp[execOp,B,Instr.loadAt,<-Q,Instr.sureAddr,r1],.inr r2⟩
  .cases R
 |store t x v=>
  simp[DC] at A;have⟨xv,D,L⟩:=BH j A;have⟨vv,M,R⟩:=BH j D;split at M
  .rename_i b o';have⟨h',J,G⟩:=Se j M;have b8:vv≠ .bad:=fun e=>by
    subst e;unfold FK at M;split at M
    .cases M
    .have⟨_,H⟩:=Bs M;have⟨_,_,_,_,_,_,_,a9,_⟩:=Lj H;have:=a9 .bad (by simp[cellsOf]);simp[Jv] at this
   refine⟨_,h',J,F5.skip fun p w q o B k u=>?_⟩;have:=(L p h w q k u).conc oS;simp[conc,Af] at this;have⟨y,Z,Q⟩:=this;have⟨w',r1,r2⟩:=G p w y _ k Z ((R p h w q k u).conc b8);exact⟨w',by simp[execOp,B,Instr.storeAt,<-Q,Instr.sureAddr,r1],r2⟩
  .cases M
 |nilCheck x=>
  simp[DC] at A;have⟨xv,D,L⟩:=BH j A;split at D
  .rename_i b o';refine⟨_,h,D,F5.pure fun p w q o B k u=>?_⟩;have:=(L p h w q k u).conc oS;have U:=this;simp[conc,Af] at this;have⟨y,Z,Q⟩:=this;exact⟨q x,by simp[execOp,B,<-Q],.inr U⟩
  .cases D
 |binOp op t x y yt=>
  simp[DC] at A;have⟨xv,D,L⟩:=BH j A;have⟨yv,M,Z⟩:=BH j D;have⟨v,J,G⟩:=VW j M;refine⟨v,h,J,F5.pure fun p w q o B k u=>?_⟩;have⟨z,r1,r2⟩:=G p w _ _ (L p h w q k u) (Z p h w q k u);refine⟨z,?_,.inr r2⟩;simp only[execOp,B];rw[Ay,r1];rfl
 |unOp op t x=>
  simp[DC] at A;have⟨xv,D,L⟩:=BH j A;have⟨v,J,G⟩:=Xy (P:=P) D;refine⟨v,h,J,F5.pure fun p w q o B k u=>?_⟩;have⟨z,r1,r2⟩:=G p w _ (L p h w q k u);exact⟨z,by simp[execOp,B,r1],.inr r2⟩
 |lookup t x i ok=>
  simp[DC] at A;have⟨xv,D,L⟩:=BH j A;have⟨iv,M,hi⟩:=BH j D;have⟨v,J,hb,G⟩:=QB j M;refine⟨v,h,J,F5.pure fun p w q o B k u=>?_⟩;have⟨z,r1,r2⟩:=G p w _ _ k (L p h w q k u) (hi p h w q k u);exact⟨z,by simp[execOp,B,r1],.inr r2⟩
 |slice t x lo hi mx=>
  simp[DC] at A;have⟨xv,D,L⟩:=BH j A;have⟨lv,M,hl,c2⟩:=Mr j D;have⟨R,H,hh,c5⟩:=Mr j M;have⟨mv,Y,hm,c1⟩:=Mr j H;have⟨v,h',J,G⟩:=Ta j Y;refine⟨v,h',J,F5.value fun p w q o B k u=>?_⟩;have ov:∀{r:Option AV} {o:Option Operand},(r=none↔o=none)->(∀v x,r=some v->o=some x->VR p v (q x))->OV p r (o.map q):=fun{r o} e f=>by
   refine⟨by rw[e];simp,fun v x e1 e2=>?_⟩;obtain⟨y,Z,rfl⟩:=Af.1 e2;exact f v y e1 Z
  have⟨S,z,r1,r2,r3,r4⟩:=G p w _ _ _ _ k (L p h w q k u) (ov hl (c2 p h w q k u)) (ov hh (c5 p h w q k u)) (ov hm (c1 p h w q k u));exact⟨S,z,w,r1,by simp[execOp,B,r2],r4,.inr r3⟩
 |makeFunc fn first a0=>
  cases fn with
  |func f=>
   simp only[DC] at A;have⟨a,D,c4,ha⟩:=Hi j A;have⟨c,M,c3,U⟩:=Hi j D;have⟨H,Y⟩:=Bs M;have⟨h5,h6⟩:=(BC _ _).1 H;refine⟨_,h,Y,F5.pure fun p w q o B k u=>⟨.func (.func f) (first.map q) (a0.map q),by simp[execOp,B,Instr.makeFunc],.inr ?_⟩⟩;have e1:=NM h5 c4 (ha p h w q k u);have e2:=NM h6 c3 (U p h w q k u);simp only[conc,e1,e2,Dh,Bf];congr 2<;>(apply Ch;simp)
  |_=>exact absurd (show false=true from A) oD
 |makeMap t r=>
  cases r with
  |none=>
   simp[DC] at A;have⟨m,J,hp⟩:=CO A;refine⟨_,_,J,F5.value fun p w q o B k u=>?_⟩;have hn:=k.fresh _ (Ai _);refine⟨_,.map (some w.heap.size),w.alloc (.map #[] 0),k.lp _,?_,k.new hp 0 0 _ fun S _=>⟨#[],F4 _ _,rfl⟩,.inr (by simp[conc,BJ.put_same])⟩;simp[execOp,B,Instr.makeMap]
  |some r=>exact absurd (show false=true from A) oD
 |makeSlice t l c=>exact OT j A
 |build t ps=>
  simp only[DC] at A;split at A
  .rename_i fs size bytes z O;have⟨b6,A⟩:=Bs A;obtain⟨zv,a6,a1⟩:∃zv:Value,(∀w,(zeroValue t).run P w= .ok zv w)/\∀p,conc p (.agg z)=some zv:=by
    have⟨i,q1,q2,q3,q4,q5⟩:=j.ty t _ O;have⟨zv,q6,q7⟩:=q5 rfl;exact⟨zv,fun w=>by simp[zeroValue,typeInfo,q1,q6],q7⟩
   have⟨pl,b3,e3⟩:=run_places j fs b6;have c0:∀(i:Nat) (f:Nat->Nat->Bool),(match nth fs.toList i with|some fd=>(match E.ty.get fd.type with|some fa=>f fd.offset fa.size|none=>false)|none=>false)=true->
     ∃b2 size,f b2 size=true/\(pl[·]?:Nat->Option (Nat×Nat)) i=some (b2,size):=fun i f hf=>by
    rw[FJ,BP] at hf;split at hf
    .grind
    .cases hf
   have⟨e0,J,G⟩:=Hl j c0 A;refine⟨_,h,J,F5.pure fun p w q o B k u=>?_⟩;have:=a1 p;simp[conc,Af] at this;obtain⟨zl,a7,rfl⟩:=this;have⟨l',r1,r2⟩:=G p h w q zl k u a7;refine⟨.agg l'.toArray,?_,.inr (by simp[conc,r2])⟩;have a5:Instr.fill (pl[·]?) zl.toArray (ps.toList.map fun(i,x)=>(i,q x))=some l'.toArray:=r1;simp only[execOp,B,Instr.build,Ay,a6,Cq j O,Am,b3,Value.cells];have hm:(Array.map (fun x:Nat×Operand=>(x.fst,q x.snd)) ps).toList=ps.toList.map fun(i,x)=>(i,q x):=oS
   rw[hm,a5];simp
  .rename_i n e size bytes z O;split at A
   .rename_i ea Q;obtain⟨zv,a6,a1⟩:∃zv:Value,(∀w,(zeroValue t).run P w= .ok zv w)/\∀p,conc p (.agg z)=some zv:=by
     have⟨i,q1,q2,q3,q4,q5⟩:=j.ty t _ O;have⟨zv,q6,q7⟩:=q5 rfl;exact⟨zv,fun w=>by simp[zeroValue,typeInfo,q1,q6],q7⟩
    obtain⟨e0,J,G⟩:=Hl j (fun i f hf=>⟨_,_,by rw[Dx] at hf;exact hf,rfl⟩) A;refine⟨_,h,J,F5.pure fun p w q o B k u=>?_⟩;have:=a1 p;simp[conc,Af] at this;obtain⟨zl,a7,rfl⟩:=this;have⟨l',r1,r2⟩:=G p h w q zl k u a7;refine⟨.agg l'.toArray,?_,.inr (by simp[conc,r2])⟩;have a5:Instr.fill (fun i=>some (i*ea.size,ea.size)) zl.toArray (ps.toList.map fun(i,x)=>(i,q x))=some l'.toArray:=r1;simp[execOp,B,Instr.build,a6,Cq j O,Cs j Q,Value.cells,a5]
   .cases A
  .cases A
 |buildSlice t n ps=>exact Ob j A
 |fieldAddr t x f=>
  simp only[DC] at A;have⟨xv,D,L⟩:=BH j A;split at D
  .rename_i fs _ _ _ b o' O;split at D
   .rename_i fd a3;rw[FJ,BP] at a3;split at D
    .rename_i fa c6;have⟨M,H⟩:=Bs D;have M:=ble_eq M;rw[Dx] at H;refine⟨_,h,H,F5.pure fun p w q o B k u=>?_⟩;have:=(L p h w q k u).conc oS;simp[conc,Af] at this;have⟨y,Z,Q⟩:=this;refine⟨.pointer (some ⟨y.blk,y.shift+(o'+fd.offset),none⟩),?_,.inr (by simp[conc,Z])⟩;have b9:¬fa.size=0:=oO;simp[execOp,B,Instr.fieldAt,Cq j O,a3,<-Q,Instr.sureAddr,fieldPlace,Cs j c6,b9,Hj,Ea]
    .cases D
   .cases D
  .cases D
 |field t x f=>
  simp[DC] at A;have⟨xv,D,L⟩:=BH j A;split at D
  .rename_i fs _ _ _ cs O;split at D
   .rename_i fd a3;rw[FJ,BP] at a3;have⟨v,J,G⟩:=NP j D;refine⟨_,h,J,F5.pure fun p w q o B k u=>?_⟩;have:=(L p h w q k u).conc oS;simp[conc,Af] at this;have⟨l,hl,Q⟩:=this;have⟨z,r1,r2⟩:=G p w l hl;exact⟨z,by simp[execOp,B,Instr.field,Cq j O,a3,<-Q,asAgg,r1],.inr r2⟩
   .cases D
  .cases D
 |indexAddr t x i=>
  simp only[DC] at A;have⟨xv,D,L⟩:=BH j A;have⟨iv,M,hi⟩:=BH j D;obtain⟨kk,n,rfl,H⟩:=Ff M;have a2:∀p w q,BK C p h w->Rc p tm q->q i= .int kk (.ofNat n):=fun p w q k u=>by
   have:=(hi p h w q k u).conc oS;simp only[conc,A0] at this;exact this.symm
  split at H
  .rename_i len e _ _ _ O;split at H
   .rename_i b o' ea Q;have⟨Y,h5⟩:=Bs H;have Y:=Gv Y;rw[Dx] at h5;refine⟨_,h,h5,F5.pure fun p w q o B k u=>?_⟩;have:=(L p h w q k u).conc oS;simp only[conc,Af] at this;have⟨y,Z,a4⟩:=this;refine⟨.pointer (some ⟨y.blk,y.shift+(o'+n*ea.size),none⟩),?_,.inr (by simp[conc,Z])⟩;simp[execOp,B,Instr.indexAt,a2 p w q k u,asIntOf,Cq j O,<-a4,Instr.sureAddr,Y,Cs j Q,Hj,Ea]
   .cases H
  .rename_i e _ _ _ O;split at H
   .rename_i b o' len cap op ea Q;have⟨Y,h5⟩:=Bs H;have Y:=Gv Y;rw[Dx] at h5;refine⟨_,h,h5,F5.pure fun p w q o B k u=>?_⟩;have:=(L p h w q k u).conc oS;simp only[conc,Af] at this;have⟨y,Z,a4⟩:=this;refine⟨.pointer (some ⟨y.blk,y.shift+(o'+n*ea.size),none⟩),?_,.inr (by simp[conc,Z])⟩;simp[execOp,B,Instr.indexAt,a2 p w q k u,asIntOf,Cq j O,<-a4,Y,Cs j Q,Hj,Ea]
   .cases H
  .cases H
 |index t x i=>
  simp only[DC] at A;have⟨xv,D,L⟩:=BH j A;have⟨iv,M,hi⟩:=BH j D;obtain⟨kk,n,rfl,H⟩:=Ff M;have a2:∀p w q,BK C p h w->Rc p tm q->q i= .int kk (.ofNat n):=fun p w q k u=>by
   have:=(hi p h w q k u).conc oS;simp only[conc,A0] at this;exact this.symm
  split at H
  .rename_i len e _ _ _ O;split at H
   .rename_i cs ea Q;have⟨Y,h5⟩:=Bs H;have Y:=Gv Y;rw[Dx] at h5;have⟨v,J,G⟩:=NP j h5;refine⟨_,h,J,F5.pure fun p w q o B k u=>?_⟩;have:=(L p h w q k u).conc oS;simp[conc,Af] at this;have⟨l,hl,a4⟩:=this;have⟨z,r1,r2⟩:=G p w l hl;have r1:(part e l.toArray (n*ea.size)).run P w= .ok z w:=r1;exact⟨z,by simp[execOp,B,Instr.index,a2 p w q k u,asIntOf,Cq j O,<-a4,Y,Cs j Q,r1],.inr r2⟩
   .cases H
  .rename_i _ _ _ O;split at H
   .rename_i s;rw[FJ] at H;split at H
    .rename_i c U;refine⟨_,h,H,F5.pure fun p w q o B k u=>?_⟩;have:=(L p h w q k u).conc oS;simp only[conc] at this;split at this<;>simp at this
     rename_i b1;have b4:n<s.length:=(Aa.1 U).1;have a9:s[n]=c:=by rw[Ab b4] at U;simpa using U
     have c9:=(Gd s).1 b1 c (AQ U);refine⟨.int .u8 (.ofNat c),?_,.inr rfl⟩;have hb:(bytesOf s)[n]?=some (UInt8.ofNat c):=by
      rw[getElem?_pos (bytesOf s) n (by rw[Df];exact b4)];simp[bytesOf,ByteArray.getElem_eq_getElem_data,a9]
     have c8:(UInt8.ofNat c).toNat=c:=by simp[UInt8.toNat_ofNat'];omega
     simp[execOp,B,Instr.index,a2 p w q k u,asIntOf,Cq j O,<-this,hb,c8]
    .cases H
   .cases H
  .cases H
 |convert s d x=>exact SA j A
 |range t x=>
  simp[DC] at A;have⟨xv,D,L⟩:=BH j A;split at D
  .rename_i _ _ _ s O;have⟨m,J,hp⟩:=CO D;refine⟨_,_,J,F5.value fun p w q o B k u=>?_⟩;have:=(L p h w q k u).conc oS;simp only[conc] at this;split at this<;>simp at this
   rename_i b1;have hn:=k.fresh _ (Ai _);refine⟨_,.pointer (some ⟨w.heap.size,0,none⟩),w.alloc (.stringIter (bytesOf s) 0),k.lp _,?_,k.new hp 0 0 _ fun S _=>⟨rfl,b1,F4 _ _⟩,.inr (by simp[conc,BJ.put_same])⟩;simp[execOp,B,Instr.range,Cq j O,<-this]
  .cases D
 |next x b=>exact YH j A
 |extract x i=>
  simp only[DC] at A;have⟨xv,D,L⟩:=BH j A;split at D
  .rename_i vs;rw[FJ] at D;split at D
   .rename_i v R;have⟨hb,M⟩:=Eh D;refine⟨v,h,M,F5.pure fun p w q o B k u=>?_⟩;have:=(L p h w q k u).conc oS;simp[conc,Af] at this;have⟨l,hl,Q⟩:=this;have⟨z,hz,U⟩:=CG hl i v R;exact⟨z,by simp[execOp,B,Instr.extract,<-Q,hz],.inr U⟩
   .cases D
  .cases D
 |call c=>exact ZC j A
 |_=>exact absurd (show false=true from A) oD
end
end
section
def E8 (d:BJ) (c:List AV) (b:List Value):Prop:=c.length=b.length/\∀(i:Nat) v x,c[i]?=some v->b[i]?=some x->VR d v x
theorem E8.mono {σ σ':BJ} (h:σ.le σ') {d:List AV} {c:List Value} (k:E8 σ d c):E8 σ' d c:=⟨k.1,fun i v x a b=>(k.2 i v x a b).mono h⟩
variable{σ:BJ}
theorem E8.of_conc {d:List AV} {c:List Value} (h:B2 σ d=some c):E8 σ d c:=⟨(BT h).symm,fun i v x a b=>by
 have⟨z,e,f⟩:=CG h i v a;rw[b] at e;cases e;exact .inr f⟩
theorem E8.append {a b:List AV} {x y:List Value} (h:E8 σ a x) (k:E8 σ b y):E8 σ (a++b) (x++y):=⟨by simp[h.1,k.1],fun i v z d c=>by
 by_cases e:i<a.length
 .rw[AW e] at d;rw[AW (by rw[<-h.1];exact e)] at c;exact h.2 i v z d c
 .rw[BR oO] at d;rw[BR (by rw[<-h.1];omega),<-h.1] at c;exact k.2 _ v z d c⟩
inductive DR (σ:BJ):ON->Deferred->Prop
 |mark {b:Nat} {y:Loc} (h:σ b=some y):DR σ (.mark b) {target:= .collected y.blk,args:=#[]}
 |call {f:FuncId} {args cap:List AV} {xs cs:List Value} (h1:E8 σ args xs) (h2:B2 σ cap=some cs):DR σ (.call f args cap) {target:= .fn (.func f) cs.toArray,args:=xs.toArray}
def TN (b:BJ):List ON->List Deferred->Prop
 |[],[]=>True
 |d::ds,e::es=>DR b d e/\TN b ds es
 |_,_=>False
theorem TN.mono {σ σ':BJ} (h:σ.le σ'):∀{f:List ON} {c:List Deferred},TN σ f c->TN σ' f c
 |[],[],_=>trivial
 |d::f,e::c,⟨h1,h2⟩=>⟨by
   cases h1 with
   |mark g=>exact .mark (h _ _ g)
   |call a b=>exact .call (a.mono h) (EU h _ _ b),h2.mono h⟩
 |[],_::_,h=>h.elim
 |_::_,[],h=>h.elim
structure FR (σ:BJ) (a:AF) (act:Act):Prop where
 tm:TQ σ a.tm a.n act.tmps
 df:TN σ a.df act.defers
theorem FR.mono {σ σ':BJ} (h:σ.le σ') {a:AF} {act:Act} (k:FR σ a act):FR σ' a act:=⟨k.tm.mono h,k.df.mono h⟩
variable{a:AF} {act:Act}
theorem FR.opr (k:FR σ a act):Rc σ a.tm act.eval:=
 ⟨fun t=>k.tm.2 t,fun _=>rfl,fun _=>rfl,fun _=>rfl⟩
theorem Gg (b:BJ):VR b (.tup []) undef:= .inr (by simp[conc,B2,undef])
theorem KV {b:Option Tmp} {v:AV} {k:AF->Bool} (c:put a b v k=true):∃g,k g=true/\∀σ act z,FR σ a act->VR σ v z->FR σ g (act.put b z):=by
 unfold put at c;split at c
 .exact⟨a,c,fun σ act z h _=>h⟩
 .rename_i d;have⟨f,o⟩:=Bs c;have f:=Gv f;have⟨tm,n,m⟩:=Tr.set_spec _ _ _ _ o;refine⟨_,n,fun σ act z h j=>⟨⟨by show(act.tmps.setIfInBounds d z).size=_;simp[h.tm.1],fun i=>?_⟩,h.df⟩⟩;show VR σ (Dg tm i) ((act.tmps.setIfInBounds d z).getD i undef);have l:=h.tm.1;unfold Dg;rw[m i];by_cases e:i=d
  .subst e;simp[l,f];exact j
  .rw[if_neg e];have:=h.tm.2 i;unfold Dg at this;simpa[Dy,Ne.symm e] using this
def Fs.at (e:Fs):Exit:=
 match e with
 | .normal=> .normal
 | .exit id=> .exit id
 | .goto l=> .goto l
 | .ret=> .ret
def AP (C:Ctx) (b:BJ) (e:Fs) (a:AF) (h:AH):Exit->Act->World->Prop:=fun c act w=>c=e.at/\∃σ',b.le σ'/\BK C σ' h w/\FR σ' a act
variable{σ':BJ} {w:World}
theorem AP.mono {C:Ctx} (d:σ.le σ') {e:Fs} {h:AH} {c:Exit} (k:AP C σ' e a h c act w):AP C σ e a h c act w:=by
 have⟨j,b,i,g,f⟩:=k;exact⟨j,b,d.trans i,g,f⟩
def Cd (b:BJ) (rd:Option Nat):Fence:=
 match rd with
 |none=>Fence.wide
 |some l=>Fence.wide.inRound ((b l).elim 0 Loc.blk)
def KW (b:BJ) (rd:Option Nat):Prop:=∀l,rd=some l->∃y,b l=some y
variable{rd:Option Nat}
theorem KW.mono (c:σ.le σ') (h:KW σ rd):KW σ' rd:=fun l e=>by
 have⟨y,b⟩:=h l e;exact⟨y,c _ _ b⟩
theorem ES (c:σ.le σ') (h:KW σ rd):Cd σ' rd=Cd σ rd:=by
 cases rd with
 |none=>rfl
 |some l=>
  have⟨y,b⟩:=h l rfl;simp[Cd,b,c _ _ b]
theorem J8 (b:BJ) (rd:Option Nat) (f:FuncId):(Cd b rd).fn f:=by cases rd<;>trivial
theorem G0 (b:BJ) (rd:Option Nat):(Cd b rd).depth.isSome=true->1<=0:=by cases rd<;>simp[Cd,Fence.wide]
theorem M9 {n:Nat} {P:Program} {f:FuncId} {b:Array Value} {R:Ending->World->Prop} (h:CallsIn Fence.wide n P f b w R):CallsIn (Cd σ rd) n P f b w R:=by
 cases rd<;>exact h
theorem RD {n:Nat} {P:Program} {l f:Nat} {c:Array Value} {b d:Code} {R:Ending->World->Prop} (h:RoundIn Fence.wide n P l f c b d w R):
  RoundIn (Cd σ rd) n P l f c b d w R:=by
 cases rd<;>exact h
def mB (F:Fence) (P:Program) (t:Tk) (Q:Exit->Act->World->Prop) (a:Act) (w:World):Prop:=
 match t with
 | .code c=>c.wpIn F 0 P Q a w
 | .scope d h=>∀(b:Frame) (k:List Item) (f:List Frame),b.roundOf=F.round->F.fn b.fn->F.room (f.length+1+0)->
  ∃e i g,Q e i g/\ArrivesIn (Machine.fenced P F) P (lone (b.atR a (.code h:: .inScope d::k)) f w) b k f e i g
 | .loop d=>∀(b:Frame) (k:List Item) (f:List Frame),b.roundOf=F.round->F.fn b.fn->F.room (f.length+1+0)->
  ∃e i g,Q e i g/\ArrivesIn (Machine.fenced P F) P (lone (b.atR a (.code d:: .inLoop d::k)) f w) b k f e i g
def RE (P:Program) (C:Ctx) (rd:Option Nat) (t:Tk) (a:AF) (h:AH) (e:Fs) (c:AF) (b:AH):Prop:=
 ∀σ w act,BK C σ h w->FR σ a act->KW σ rd->mB (Cd σ rd) P t (AP C σ e c b) act w
def FZ (P:Program) (C:Ctx) (rec:Rec):Prop:=
 ∀rd t a h k,rec rd t a h k=true->∃e c b,k e c b=true/\RE P C rd t a h e c b
def CP (C:Ctx) (b:BJ) (v:AV) (h:AH):Ending->World->Prop:=fun e w=>∃x σ',e= .returned x/\b.le σ'/\BK C σ' h w/\VR σ' v x
def ET (P:Program) (C:Ctx) (f:FuncId) (c:List AV) (h:AH) (v:AV) (e:AH):Prop:=
 (∀w d,(callFunc f d).run P w= .ok (.enter f d) w)/\∀σ w b,BK C σ h w->E8 σ c b->CallsIn Fence.wide 0 P f b.toArray w (CP C σ v e)
structure Ep (P:Program) (E:Env) (C:Ctx):Prop where
 hook:∀f args h g,E.hook f args h g=some true->∃v h',g v h'=true/\ET P C f args h v h'
 dhook:∀f args,E.dhook f args=true->(∀w xs,(callFunc f xs).run P w= .ok (.enter f xs) w)/\∀σ h w vals,BK C σ h w->E8 σ args vals->
  CallsDIn Fence.wide 0 P f vals.toArray .returning w fun e u w'=>(∃x,e= .returned x)/\u= .returning/\BK C σ h w'
def ie (P:Program) (C:Ctx) (f:AV) (j:List AV) (h:AH) (v:AV) (m:AH):Prop:=
 ∀σ rd w F c,BK C σ h w->VR σ f F->E8 σ j c->∃d,(Deferred.ofValue F c.toArray).run P w= .ok d w/\
  ((∃g k,(invoke d.target d.args).run P w= .ok (.enter g k) w/\CallsIn (Cd σ rd) 0 P g k w (CP C σ v m))∨
   (∃l g e b i,(invoke d.target d.args).run P w= .ok (.round l g e b i) w/\RoundIn (Cd σ rd) 0 P l g e b i w (CP C σ v m)))
theorem Wt {v:AV} {b:Bool} (h:conc σ v=some (.bool b)):v= .bool b:=by
 cases v with
 |bool c=>simp[conc] at h;rw[h]
 |fn f a c=>
  simp[conc] at h
  cases d:B2 σ a with
  |none=>rw[d] at h;cases h
  |some x=>
   cases e:B2 σ c with
   |none=>rw[d,e] at h;cases h
   |some y=>rw[d,e] at h;cases h
 |str s=>simp only[conc] at h;split at h<;>cases h
 |bad=>cases h
 |int k n=>cases h
 |pnil=>cases h
 |snil=>cases h
 |mnil=>cases h
 |fnil=>cases h
 |inil=>cases h
 |_=>simp[conc] at h
section
variable{P:Program} {E:Env} {C:Ctx} (hE:Em P E C)
include hE
def eD (P:Program) (C:Ctx) (rd:Option Nat) (o:Oper) (a:AF) (h:AH) (e:AF) (d:AH):Prop:=
 ∀σ w act K Q,BK C σ h w->FR σ a act->KW σ rd->(∀σ' b c,σ.le σ'->BK C σ' d c->FR σ' e b->K b c)->o.wpIn (Cd σ rd) 0 P act w K Q
theorem ND {k:Array Oper} {o:Oper} {tm:Tr AV} {g:Bool->Bool} (f:Ga k.toList o tm g=true):
  ∃b,g b=true/\∀σ n c,TQ σ tm n c->Region.wanted o (yielded k c)=b:=by
 unfold Ga at f;unfold Region.wanted;split at f
 .grind
 .rename_i j i L;rw[L];simp[FJ,BP] at f;simp only[yielded];split at f
  .rename_i d _ _ _ _ _ A;simp only[A,Dh];have l:∀σ n (c:Array Value),TQ σ tm n c->VR σ (Dg tm d) (c.getD d undef):=fun σ n c h=>h.2 d
   cases z:tm.get d with
   |none=>
    rw[z] at f;refine⟨false,f,fun σ n c h=>?_⟩;have:=l σ n c h;unfold Dg at this;rw[z] at this;have:=this.conc oS;simp only[Option.getD_none,conc,B2,Bf,A0] at this
    cases m:c[d]? with
    |none=>simp
    |some x=>
     have:x= .tuple #[]:=by
      have e:c.getD d undef=x:=by simp[AS,m]
      rw[<-e,<-this]
     subst this;rfl
   |some v=>
    rw[z] at f;have hk2:Oz i v g=true:=f;have H:∀σ n (c:Array Value),TQ σ tm n c->VR σ v (c.getD d undef):=fun σ n c h=>by
     have:=l σ n c h;unfold Dg at this;rw[z] at this;exact this
    clear l z f
    rename Oz i v g=true=>f
    unfold Oz at f;split at f
    .rename_i b;have f:=Gx f;refine⟨_,f,fun σ n c h=>?_⟩;have:=(H σ n c h).conc oS;simp only[conc,A0] at this
     cases m:c[d]? with
     |none=>simp[AS,m,undef] at this
     |some x=>
      have e:c.getD d undef=x:=by simp[AS,m]
      rw[e] at this;subst this;cases b<;>cases i<;>rfl
    .cases f
    .rename_i D y;refine⟨_,f,fun σ n c h=>?_⟩;have J:=(H σ n c h).conc (fun e=>y e)
     cases m:c[d]? with
     |none=>simp
     |some x=>
      have e:c.getD d undef=x:=by simp[AS,m]
      rw[e] at J
      cases x with
      |bool b=>exact absurd (Wt J) (D b)
      |_=>simp
  .rename_i B;refine⟨_,f,fun σ n c h=>?_⟩
   cases A:k[j]? with
   |none=>simp
   |some G=>
    cases m:G.dst with
    |none=>simp[m]
    |some d=>
     exfalso;have⟨p,q,r,s,t,u⟩:=G;subst m;exact B _ _ _ _ _ _ A
end
end
section
theorem NE:∀(a:List AV) (i:Nat) (t:Tr AV) (g:Tr AV->Bool),dP a i t g=true->
  ∃b,g b=true/\∀j,Dg b j=if i<=j/\j<i+a.length then a.getD (j-i) (.tup []) else Dg t j
 |[],i,t,g,h=>⟨t,h,fun j=>by rw[if_neg oS]⟩
 |v::a,i,t,g,h=>by
  have m:=h;have⟨c,l,k⟩:=Tr.set_spec _ _ _ _ m;have⟨b,f,e⟩:=NE a (i+1) c g l;refine⟨b,f,fun j=>?_⟩;rw[e j];by_cases n:i+1<=j/\j<i+1+a.length
  .grind
  .rw[if_neg n];unfold Dg;rw[k j];by_cases o:j=i
   .grind
   .grind
section
variable{P:Program} {E:Env} {C:Ctx} (d:Em P E C)
include d
theorem enters {f:FuncId} {a:Func} {c:Code} (g:E.fn.get f=some a) (i:a.body=some c) (w:World) (e:Array Value):(callFunc f e).run P w= .ok (.enter f e) w:=by
 have⟨j,b⟩:=d.fn f a g;have b:¬a.name= "runtime.NumGoroutine":=by simpa using b
 simp[callFunc,program,Sem.run,j,b,i]
theorem LY {q:Tr AV} {h:AH}:∀{r:List ResultVar} {g:List AV->Bool},Xd E q h r g=true->
  ∃x,g x=true/\∀e w n tmps,BK C e h w->TQ e q n tmps->∃c,B2 e x=some c/\
   ∀f:ResultVar->Sem Value,(∀t,f (.tmp t)=pure (tmps.getD t undef))->(∀a t,f (.cell a t)=do loadVar t (<-asAddr (tmps.getD a undef)))->(r.mapM f:Sem (List Value)).run P w= .ok c w
 |[],g,h=>⟨[],h,fun e w n tmps _ _=>⟨[],rfl,fun f _ _=>oS⟩⟩
 | .tmp t::r,g,hk=>by
  have m:ev E (.tmp t) q (fun v=>cond (isBad v) false (Xd E q h r fun l=>g (v::l)))=true:=hk;have⟨v,A,J⟩:=BH d m;have⟨Q,H⟩:=Eh A;have⟨x,G,D⟩:=LY H;refine⟨_,G,fun e w n tmps k u=>?_⟩;have⟨c,q1,q2⟩:=D e w n tmps k u;have s:=(J e h w (Act.eval {tmps,defers:=[]}) k ⟨fun t=>u.2 t,fun _=>rfl,fun _=>rfl,fun _=>rfl⟩).conc' Q;refine⟨tmps.getD t undef::c,?_,?_⟩
  .have B:conc e v=some (tmps.getD t undef):=s;simp only[B2,B,q1,Dh,Bf]
  .intro f j i;simp only[Ho,j,Ay,AJ,Am,q2 f j i]
 | .cell a t::r,g,hk=>by
  have m:ev E (.tmp a) q (fun p=>match p with
    | .ptr b o=>RI E t b o h fun v=>Xd E q h r fun l=>g (v::l)
    |_=>false)=true:=hk
  have⟨v,A,J⟩:=BH d m
  cases v with
  |ptr b o=>
   have⟨v,H,O,G⟩:=NO d A;have⟨x,D,S⟩:=LY H;refine⟨_,D,fun e w n tmps k u=>?_⟩;have⟨c,q1,q2⟩:=S e w n tmps k u;have s:=(J e h w (Act.eval {tmps,defers:=[]}) k ⟨fun t=>u.2 t,fun _=>rfl,fun _=>rfl,fun _=>rfl⟩).conc oS;have s:conc e (.ptr b o)=some (tmps.getD a undef):=s;simp only[conc,Af] at s;have⟨y,L,M⟩:=s;have⟨z,r1,r2⟩:=G e w y k L;refine⟨z::c,by simp only[B2,r2,q1,Dh,Bf],fun f j i=>?_⟩;have R:(asAddr (tmps.getD a undef)).run P w= .ok ⟨y.blk,y.shift+o,none⟩ w:=by rw[<-M];rfl
   simp only[Ho,i,Ay,R,AJ,Am,r1,q2 f j i]
  |_=>cases A
variable{h:AH}
theorem RG {o:Func} {j:Tr AV} {g:AV->Bool} (r:Xd E j h o.results.toList (fun f=>match f with|[v]=>g v|f=>g (.tup f))=true):
  ∃v,g v=true/\∀c w n a,BK C c h w->TQ c j n a->∃x,conc c v=some x/\(results o a).run P w= .ok x w:=by
 have⟨f,m,s⟩:=LY d r;have run:∀c w n a,BK C c h w->TQ c j n a->∃b:List Value,B2 c f=some b/\(results o a).run P w= .ok (if t:b.toArray.size=1 then b.toArray[0] else .tuple b.toArray) w:=fun c w n a k i=>by
  have⟨b,q1,q2⟩:=s c w n a k i;refine⟨b,q1,?_⟩;unfold results;rw[Ay,Array.mapM_eq_mapM_toList,Sem.run_map,q2 _ (fun _=>rfl) (fun _ _=>rfl)];rfl
 split at m
 .rename_i v;refine⟨v,m,fun c w n a k i=>?_⟩;have⟨b,q1,q2⟩:=run c w n a k i;simp[B2] at q1
  cases q:conc c v with
  |none=>rw[q] at q1;cases q1
  |some x=>grind
 .rename_i l;refine⟨_,m,fun c w n a k i=>?_⟩;have⟨b,q1,q2⟩:=run c w n a k i;have p:=BT q1;have:¬b.toArray.size=1:=fun e=>by
   simp at e;rw[e] at p
   match f,p with
   |[v],_=>exact l v rfl
  rw[dif_neg this] at q2;exact⟨.tuple b.toArray,by simp[conc,q1],q2⟩
theorem JA (v:Ep P E C):∀{t:List ON} {h:AH} {g:AH->Bool},QO E t h g=true->
  ∃q,g q=true/\∀j w c p a R,BK C j h w->TN j t c->(∀u,BK C j q u->LeavesInM Fence.wide 0 P p a R [] .returning u)->LeavesInM Fence.wide 0 P p a R c .returning w
 |[],h,g,hk=>⟨h,hk,fun j w c p a R k o s=>by
  cases c with
  |nil=>exact s w k
  |cons e c=>exact o.elim⟩
 | .mark b::t,h,g,hk=>by
  have i:(match h.m.get b with
    |some (.dfr false)=>h.m.set b (.dfr true) fun m=>QO E t ⟨m,h.nx⟩ g
    |_=>false)=true:=hk
  split at i
  .rename_i L;have⟨m,B,U⟩:=Tr.set_spec _ _ _ _ i;have⟨q,A,z⟩:=JA v B;refine⟨q,A,fun j w c p a R k o s=>?_⟩
   cases c with
   |nil=>exact o.elim
   |cons e c=>
    have⟨n,l⟩:=o
    cases n with
    |mark H=>
     rename_i y;have J:w.heap[y.blk]?=some (.deferred (some [])):=k.obj b _ y L H;have r:=(Ak.1 J).1;refine⟨oS,.inl ⟨y.blk,{w with heap:=w.heap.setIfInBounds y.blk (.deferred none)},rfl,?_,z j _ c p a R (Hg k L H rfl rfl U _ r rfl (by show _=_;simp[r])) l s⟩⟩;simp[Instr.takeDeferred,getObj,setObj,Sem.run,J]
  .cases i
 | .call f args captured::t,h,g,hk=>by
  have i:=hk;have⟨Y,B⟩:=Bs i;have⟨q,A,z⟩:=JA v B;have⟨d1,d2⟩:=v.dhook _ _ Y;refine⟨q,A,fun j w c p a R k o s=>?_⟩
  cases c with
  |nil=>exact o.elim
  |cons e c=>
   have⟨n,l⟩:=o
   cases n with
   |call S Q=>
    rename_i G D;refine⟨oS,.inr ⟨by simp[Fence.wide],.func f,D.toArray,f,(G++D).toArray,rfl,?_,fun _ _=>trivial,?_⟩⟩
    .simp only[invoke];rw[Fb];exact d1 _ _
    .refine(d2 j h w (G++D) k (S.append (E8.of_conc Q))).mono fun e Z u O=>?_
     obtain⟨⟨x,rfl⟩,rfl,M⟩:=O;exact z j u c p a R M l s
theorem IJ (hH:Ep P E C) {rec:Rec} (u:FZ P C rec) {f:FuncId} {j:List AV} {g:AV->AH->Bool} (n:O4 E rec f j h g=true):
  ∃v s,g v s=true/\ET P C f j h v s:=by
 unfold O4 at n;split at n
 .rename_i r hr;subst n;exact hH.hook _ _ _ _ hr
 .split at n
  .cases n
  .rename_i q hf;split at n
   .cases n
   .rename_i c hb;have⟨h1,m⟩:=Bs n;have h1:=ble_eq h1;have⟨tm,h3,h4⟩:=NE _ _ _ _ m;have⟨e,H,s,B,h6⟩:=u _ _ _ _ _ h3;have z:∃v m,g v m=true/\(e= .normal∨e= .ret)/\∀b w act,BK C b s w->FR b H act->
      ∀R,(∀e o,CP C b v m e o->R e o)->LeavesInM Fence.wide 0 P q act.tmps R act.defers .returning w:=by
     have t:∀(n:QO E H.df s (fun h=>Xd E H.tm h q.results.toList fun M=>match M with|[v]=>g v h|M=>g (.tup M) h)=true),∃v m,g v m=true/\∀b w act,BK C b s w->FR b H act->
       ∀R,(∀e o,CP C b v m e o->R e o)->LeavesInM Fence.wide 0 P q act.tmps R act.defers .returning w:=fun n=>by
      have⟨m,q1,q2⟩:=JA d hH n;have⟨v,q3,q4⟩:=RG d q1;refine⟨v,m,q3,fun b w act k p R hR=>q2 b w act.defers q act.tmps _ k p.df fun o G=>?_⟩;have⟨x,r1,r2⟩:=q4 b o _ _ G p.tm;exact⟨x,r2,hR _ _ ⟨x,b,rfl,BJ.le.refl b,G,.inr r1⟩⟩
     unfold kD at B;split at B
     .have⟨v,m,Z,Y⟩:=t B;exact⟨v,m,Z,.inl rfl,Y⟩
     .have⟨v,m,Z,Y⟩:=t B;exact⟨v,m,Z,.inr rfl,Y⟩
     .cases B
    have⟨v,m,b1,b2,b3⟩:=z;refine⟨v,m,b1,enters d hf hb,fun b w a k S=>?_⟩;have Q:=(d.fn f q hf).1;refine callsIn_of_wp_marks Q hb trivial ?_;have p:FR b ⟨tm,q.ntmps,[]⟩ {tmps:=a.toArray++Array.replicate (q.ntmps-a.toArray.size) undef,defers:=[]}:=by
     refine⟨⟨by simp;have:=S.1;omega,fun i=>?_⟩,trivial⟩;rw[h4 i];have hl:=S.1;by_cases hi:i<j.length
     .rw[if_pos oO];have e1:j[i]?=some j[i]:=Ab hi;have e2:a[i]?=some (a[i]'oO):=Ab oO;have:=S.2 i _ _ e1 e2;have U:(a.toArray++Array.replicate (q.ntmps-a.toArray.size) undef).getD i undef=a[i]'oO:=by
       rw[AS,Kq oT];simp;rw[e2];rfl
      rw[U];simpa[Kr,e1] using this
     .rw[if_neg oO];have U:(a.toArray++Array.replicate (q.ntmps-a.toArray.size) undef).getD i undef=undef:=by
       rw[AS,Array.getElem?_append_right oT];simp[Array.getElem?_replicate];split<;>rfl
      rw[U];exact Gg b
    have hw:=h6 b w _ k p (fun l e=>(by cases e));refine wpIn_mono hw fun e' D o hq=>?_
    obtain⟨rfl,L,O,G,y⟩:=hq;have A:=b3 L o D G y (CP C b v m) fun e w2 hc=>by
     have⟨x,J,c1,c2,c3⟩:=hc;exact⟨x,J,c1,O.trans c2,c3⟩
    rcases b2 with rfl|rfl
    .exact A
    .exact A
end
end
section
theorem M3 {n:Nat}:∀(ps:List Nat) (k:List AV) (t:Tr AV) (g:Tr AV->Bool),Z4 n ps k t g=true->
  ∃m,g m=true/\k.length=ps.length/\∀j (d:Array Value) (c:List Value),TQ j t n d->E8 j k c->TQ j m n ((ps.zip c).foldl (fun(d:Array Value) (x:Nat×Value)=>d.setIfInBounds x.1 x.2) d)
 |[],[],t,g,h=>⟨t,h,rfl,fun j d c l _=>by simpa using l⟩
 |[],_::_,t,g,h=>absurd (show false=true from h) oD
 |p::ps,[],t,g,h=>absurd (show false=true from h) oD
 |p::ps,v::k,t,g,h=>by
  have A:=h;have⟨o,z⟩:=Bs A;have o:=Gv o;have⟨m,y,u⟩:=Tr.set_spec _ _ _ _ z;have⟨t2,s,r,q⟩:=M3 ps k m g y;refine⟨t2,s,by simp[r],fun j d c l f=>?_⟩
  match c,f with
  |[],f=>exact absurd f.1 oS
  |x::c,f=>
   refine q j _ c ⟨by simp[l.1],fun i=>?_⟩ ⟨by simpa using f.1,fun i v x a b=>f.2 (i+1) v x (by simpa using a) (by simpa using b)⟩;unfold Dg;rw[u i];by_cases e:i=p
   .subst e;have:=f.2 0 v x oS oS;simp[l.1,o];exact this
   .rw[if_neg e];have:=l.2 i;unfold Dg at this;simpa[Dy,Ne.symm e] using this
variable{h:AH}
theorem BK.same {C:Ctx} {d:BJ} {w:World} (k:BK C d h w) {b:Nat} {a:AO} (f:h.m.get b=some a):h.m.Put b a h.m:=fun c=>by
 by_cases e:c=b
 .subst e;rw[if_pos rfl,f]
 .rw[if_neg e]
section
variable{P:Program} {E:Env} {C:Ctx} (b:Em P E C)
include b
omit b in
theorem Ru {e:Fs}:EI e=none↔e= .normal:=by cases e<;>simp[EI]
variable{rec:Rec}
theorem Rv (J:FZ P C rec) {l:Nat} {S:List AV} {g:AV->AH->Bool} (hk:U2 rec l S h g=true):
  ∃v h',g v h'=true/\∀B w i y,BK C B h w->B l=some y->E8 B S i->∃fn tmps assign body,
   (Instr.yield y.blk i.toArray).run P w= .ok (.round y.blk fn tmps assign body) w/\RoundIn Fence.wide 0 P y.blk fn tmps assign body w (CP C B v h'):=by
 unfold U2 at hk;split at hk
 .rename_i tm n ps assign body d hl;have⟨b6,h1,O,h2⟩:=M3 _ _ _ _ hk;have⟨e,a1,h3,h4,c3⟩:=J _ _ _ _ _ h1;split at h4
  .split at h4
   .rename_i c9 n2 ps2 p s d2 a7;have⟨m,h5,hp⟩:=Tr.set_spec _ _ _ _ h4;have⟨r,a2,h6,h7,c2⟩:=J _ _ _ _ _ h5;split at h7
    .rename_i b5 n3 u f o d3 a6;have b0:∃st pend h8 H v,g v h8=true/\h8=⟨H,h6.nx⟩/\h6.m.Put l (.loop st pend b5 n3 u f o d3) H/\pend=EI r/\st=(if(EI r).isNone then .ready else .done)/\v= .bool (EI r).isNone:=by
      split at h7
      .have⟨H,h8,z⟩:=Tr.set_spec _ _ _ _ h7;exact⟨_,_,_,H,_,h8,rfl,z,rfl,rfl,rfl⟩
      .rename_i c4;have⟨H,h8,z⟩:=Tr.set_spec _ _ _ _ h7;have:(EI r).isNone=false:=by
        cases hj:EI r with
        |none=>exact absurd (Ru.1 hj) (fun e=>c4 e)
        |some c=>rfl
       exact⟨_,_,_,H,_,h8,rfl,z,rfl,by rw[this];rfl,by rw[this]⟩
     obtain⟨st,pend,h8,H,v,hg,rfl,z,rfl,rfl,rfl⟩:=b0;refine⟨_,_,hg,fun B w i y k hy ha=>?_⟩;have⟨fn,tmps,D,y',o1,o2,o3,o4⟩:=k.obj l _ y hl hy;have a8:(getObj y.blk).run P w= .ok (.loop {state:= .ready,pending:=none,fn,tmps,params:=ps,assign,body,defers:=D}) w:=by simp[getObj,Sem.run,o1]
     have c1:i.toArray.size=ps.size:=by have:=ha.1;simp;simp at O;omega
     refine⟨fn,(ps.zip i.toArray).foldl (fun tmps (t,a)=>tmps.setIfInBounds t a) tmps,assign,body,by simp[Instr.yield,Instr.getLoop,a8,c1,ha.1.symm▸O],roundIn_of_wpIn trivial ?_⟩;have c0:TQ B b6 n ((ps.zip i.toArray).foldl (fun tmps (t,a)=>tmps.setIfInBounds t a) tmps):=by
      have:=h2 B tmps i o2 ha;rw[<-Array.foldl_toList,Array.toList_zip];exact this
     have hw:=c3 B w {tmps:=_,defers:=[]} k ⟨c0,trivial⟩ (fun l' e=>by cases e;exact⟨y,hy⟩);have c6:Cd B (some l)=Fence.wide.inRound y.blk:=by simp[Cd,hy]
     rw[c6] at hw;refine wpIn_mono hw fun e' b2 w1 hq=>?_
     obtain⟨rfl,a3,R,k1,a9⟩:=hq;have x:=R _ _ hy;have⟨G,q,D',b4,Y,b9,b8,b7⟩:=k1.obj l _ y a7 x;have M:=(Ak.1 Y).1;have a0:(getObj y.blk).run P w1= .ok (.loop {state:= .ready,pending:=none,fn:=G,tmps:=q,params:=ps2,assign:=p,body:=s,defers:=D'}) w1:=by simp[getObj,Sem.run,Y]
     have k2:=Hg k1 a7 x rfl rfl hp (.loop {state:= .busy,pending:=none,fn:=G,tmps:=q,params:=ps2,assign:=p,body:=s,defers:=D'}) M rfl
      ⟨G,q,D',b4,by simp[M],b9,b8,b7⟩
     refine⟨{w1 with heap:=w1.heap.setIfInBounds y.blk (.loop {state:= .busy,pending:=none,fn:=G,tmps:=q,params:=ps2,assign:=p,body:=s,defers:=D'})},?_,?_⟩
     .simp[Instr.beginRound,Instr.getLoop,a0,setObj,Sem.run,Y]
     .have a5:=c2 a3 _ b2 k2 a9 (fun l' e=>by cases e;exact⟨y,x⟩);have c5:Cd a3 (some l)=Fence.wide.inRound y.blk:=by simp[Cd,x]
      rw[c5] at a5;refine wpIn_mono a5 fun e' c8 U hq=>?_
      obtain⟨rfl,b3,Q,k3,c7⟩:=hq;have a4:=Q _ _ x;have⟨A,j,D2,y2,q1,q2,q3,q4⟩:=k3.obj l _ y a6 a4;have L:=(Ak.1 q1).1;have Z:(getObj y.blk).run P U= .ok (.loop {state:= .busy,pending:=none,fn:=A,tmps:=j,params:=u,assign:=f,body:=o,defers:=D2}) U:=by simp[getObj,Sem.run,q1]
      have k4:=Hg k3 a6 a4 rfl rfl z (.loop {state:=if(EI r).isNone then .ready else .done,pending:=EI r,fn:=A,tmps:=j,params:=u,assign:=f,body:=o,defers:=D2}) L rfl
       ⟨A,j,D2,y2,by simp[L],q2,q3,q4⟩
      have b1:(Instr.endRound y.blk (EI r)).run P U= .ok (.bool (EI r).isNone) {U with heap:=U.heap.setIfInBounds y.blk (.loop {state:=if(EI r).isNone then .ready else .done,pending:=EI r,fn:=A,tmps:=j,params:=u,assign:=f,body:=o,defers:=D2})}:=by
       simp[Instr.endRound,Instr.getLoop,Z,setObj,Sem.run,q1]
      have hR:CP C B (.bool (EI r).isNone) ⟨H,h6.nx⟩ (.returned (.bool (EI r).isNone)) {U with heap:=U.heap.setIfInBounds y.blk (.loop {state:=if(EI r).isNone then .ready else .done,pending:=EI r,fn:=A,tmps:=j,params:=u,assign:=f,body:=o,defers:=D2})}:=
       ⟨_,b3,rfl,R.trans Q,k4,.inr rfl⟩
      cases r<;>exact⟨_,_,b1,hR⟩
    .cases h7
   .cases h4
  .cases h4
 .cases hk
theorem M4 (A:Ep P E C) (e:FZ P C rec) {f:AV} {i:List AV} {g:AV->AH->Bool} (o:U3 E rec f i h g=true):
  ∃v m,g v m=true/\ie P C f i h v m:=by
 unfold U3 at o;split at o
 .rename_i f first a
  have⟨v,m,q,t,B⟩:=IJ b A e o;refine⟨v,m,q,fun n rd w F c k s r=>?_⟩;have:=s.conc oS;simp[conc] at this
  cases d:B2 n first with
  |none=>rw[d] at this;cases this
  |some fi=>
   cases j:B2 n a with
   |none=>rw[d,j] at this;cases this
   |some ca=>
    rw[d,j] at this;simp[Dh,Bf,A0] at this;subst this;refine⟨_,rfl,.inl ⟨f,(fi++c++ca).toArray,?_,M9 (B n w _ k (((E8.of_conc d).append r).append (E8.of_conc j)))⟩⟩;simp only[invoke];rw[Fb,Fb];exact t _ _
 .rename_i l;have⟨v,m,q,t⟩:=Rv b e o;refine⟨v,m,q,fun n rd w F c k s r=>?_⟩;have:=s.conc oS;simp[conc,Af] at this;obtain⟨y,z,rfl⟩:=this;have⟨D,u,p,x,r1,r2⟩:=t n w c y k z r;refine⟨_,rfl,.inr ⟨_,_,_,_,_,?_,RD r2⟩⟩;simp[invoke];simpa using r1
 .cases o
omit b in
theorem Ge {a:BJ} {rd:Option Nat} {o:Oper} {w:World} {act:Act}:∀f,o.about P w act.eval=some f->(Cd a rd).fn f:=fun f _=>J8 a rd f
theorem TJ (hH:Ep P E C) (a5:FZ P C rec) {rd:Option Nat} {o:Oper} {a:AF} {k:AF->AH->Bool} (Z:JN E rec rd o a h k=true):
  ∃U h',k U h'=true/\eD P C rd o a h U h':=by
 have⟨J,op,G,M,t,guard⟩:=o;unfold JN at Z;split at Z
 ·
  rename_i f args L a0;subst a0;have⟨fv,h1,hf⟩:=BH b Z;have⟨vs,h2,hl,hv⟩:=Hi b h1;have⟨v,h',h3,a9⟩:=M4 b hH a5 h2;have⟨U,h4,p⟩:=KV h3;refine⟨U,h',h4,fun m w act K Q O j a6 hK=>⟨Ge,?_⟩⟩;have ha:E8 m vs (args.toList.map act.eval):=⟨by simp[hl],fun i v x e1 H=>by
   rw[Bz] at H
   cases Y:args.toList[i]? with
   |none=>rw[Y] at H;cases H
   |some o=>rw[Y] at H;cases H;exact hv m h w act.eval O j.opr i v o e1 Y⟩
  have⟨d,hd,a1⟩:=a9 m rd w (act.eval f) (args.toList.map act.eval) O (hf m h w act.eval O j.opr) ha;rw[Oper.semAt_eq _ _ _ (fun c e=>by cases e)];have D:(args.map act.eval)=(args.toList.map act.eval).toArray:=by apply Ch;simp
  have s:∀r w',(invoke d.target d.args).run P w= .ok r w'->(execOp act.eval ⟨J,.call ⟨.value f,args,L⟩,G,M,t,guard⟩).run P w= .ok r w':=fun r w' hr=>by
   simp[execOp,resolve,D,Ay,hd,Am,hr]
  have next:∀e y,CP C m v h' e y->(match e with
    | .returned u=>K (act.put J u) y
    | .panicked a4=>Q (.panic a4) act y
    | .outgrown=>LetsOut Q):=fun e y hc=>by
   obtain⟨x,A,rfl,B,k',hx⟩:=hc;exact hK A _ _ B k' (p A act x (j.mono B) hx)
  rcases a1 with⟨g,xs,hi,a2⟩|⟨l,g,b2,b0,b3,hi,R⟩
  .rw[s _ _ hi];exact⟨G0 m rd,a2.mono fun e y hc=>by have:=next e y hc;cases e<;>exact this⟩
  .rw[s _ _ hi];exact⟨G0 m rd,R.mono fun e y hc=>by have:=next e y hc;cases e<;>exact this⟩
 ·
  rename_i f args L a0;subst a0
  cases rd with
  |some l=>exact absurd Z oS
  |none=>
   have⟨fv,h1,hf⟩:=BH b Z;have⟨vs,h2,hl,hv⟩:=Hi b h1;split at h2
   .rename_i f' first q
    have⟨U,h4,p⟩:=KV h2;refine⟨U,h,h4,fun m w act K Q O j a6 hK=>⟨Ge,?_⟩⟩;have ha:E8 m vs (args.toList.map act.eval):=⟨by simp[hl],fun i v x e1 H=>by
     rw[Bz] at H
     cases Y:args.toList[i]? with
     |none=>rw[Y] at H;cases H
     |some o=>rw[Y] at H;cases H;exact hv m h w act.eval O j.opr i v o e1 Y⟩
    have D:(args.map act.eval)=(args.toList.map act.eval).toArray:=by apply Ch;simp
    have:=(hf m h w act.eval O j.opr).conc oS;simp[conc] at this
    cases S:B2 m first with
    |none=>rw[S] at this;cases this
    |some fi=>
     cases a3:B2 m q with
     |none=>rw[S,a3] at this;cases this
     |some ca=>
      rw[S,a3] at this;simp[Dh,Bf,A0] at this;have s:(Oper.semAt (Cd m none).round act.eval ⟨J,.defer ⟨.value f,args,L⟩,G,M,t,guard⟩).run P w=
        .ok (.defer {target:= .fn (.func f') ca.toArray,args:=(fi++args.toList.map act.eval).toArray}) w:=by
       show(execOp act.eval ⟨J,.defer ⟨.value f,args,L⟩,G,M,t,guard⟩).run P w=_;simp only[execOp,resolve,D,<-this,Deferred.ofValue,Ay,AJ,Am];rw[Fb]
      rw[s];have a8:FR m ⟨a.tm,a.n,.call f' (first++vs) q::a.df⟩ {act with defers:={target:= .fn (.func f') ca.toArray,args:=(fi++args.toList.map act.eval).toArray}::act.defers}:=
       ⟨j.tm,.call ((E8.of_conc S).append ha) a3,j.df⟩
      exact hK m _ _ (BJ.le.refl m) O (p m _ undef a8 (Gg m))
   .cases h2
 ·
  rename_i b5 b4;have⟨v,h',h1,b1⟩:=Li b Z;have⟨U,h4,p⟩:=KV h1;refine⟨U,h',h4,fun m w act K Q O j a6 hK=>⟨Ge,?_⟩⟩;have⟨A,n,z,w',B,hr,k',hn,hz⟩:=b1 m w act.eval ⟨J,op,G,M,t,guard⟩ rfl O j.opr;have a7:∀c,op≠ .defer c:=fun c e=>by
   subst e;exact absurd (show false=true from Z) oD
  rw[Oper.semAt_eq _ _ _ a7,hr];rcases hn with rfl|⟨rfl,rfl⟩
  .exact hK A _ _ B k' (p A act z (j.mono B) hz)
  .exact hK A _ _ B k' (p A act undef (j.mono B) hz)
end
end
section
section scopes
variable{b:Frame} {a:Act} {k:List Item} {d:List Frame} {w:World} {P:Program}
theorem SC {c:Code}:step P (lone (b.atR a (.code (.scope c)::k)) d w)= .next (lone (b.atR a (.code c:: .inScope c::k)) d w):=
 step_lone_go (by simp[stepG,stepG.exec,Frame.atR])
theorem OW {c:Code}:step P (lone (b.atR a (.inScope c::k)) d w)= .next (lone (b.atR a k) d w):=
 step_lone_go (by simp[stepG,stepG.exec,Frame.atR])
end scopes
section
variable{P:Program} {E:Env} {C:Ctx} (g:Em P E C)
include g
theorem Mm (M:Ep P E C) {rec:Rec} (r:FZ P C rec) {rd:Option Nat} {c:Array Oper}:∀(l:List Oper) (i:Nat),c.toList.drop i=l->∀{a:AF} {h:AH} {k:AF->AH->Bool},Tn E rec rd c.toList l a h k=true->
  ∃u t,k u t=true/\∀e w act Q,BK C e h w->FR e a act->KW e rd->(∀q m G,e.le q->BK C q t G->FR q u m->Q .normal m G)->
   wpOpsIn (Cd e rd) 0 P c Q (List.range' i l.length) act w
 |[],i,hd,a,h,k,hk=>⟨a,h,hk,fun e w act Q v j p B=>B e act w (BJ.le.refl e) v j⟩
 |o::l,i,hd,a,h,k,hk=>by
  have L:Ga c.toList o a.tm (fun w=>cond w (JN E rec rd o a h fun a h=>Tn E rec rd c.toList l a h k) (put a o.dst (.tup []) fun a=>Tn E rec rd c.toList l a h k))=true:=hk;have⟨bw,Y,S⟩:=ND g L;have U:c[i]?=some o:=by
   have:(c.toList.drop i)[0]?=some o:=by rw[hd];rfl
   rw[Dl] at this;simpa using this
  have A:c.toList.drop (i+1)=l:=by
   rw[<-List.drop_drop,hd];rfl
  cases bw with
  |true=>
   have⟨a1,h2,R,ho⟩:=TJ g M r (show JN E rec rd o a h (fun a h=>Tn E rec rd c.toList l a h k)=true from Y);have⟨u,t,O,J⟩:=Mm M r l (i+1) A R;refine⟨u,t,O,fun e w act Q v j p B=>?_⟩;simp[BU,List.range'_succ,wpOpsIn,U,S e a.n act.tmps j.tm,if_true];refine ho e w act _ Q v j p fun q m G s k' z=>?_
   rw[<-ES s p];exact J q G m Q k' z (p.mono s) fun H D Z y=>B H D Z (s.trans y)
  |false=>
   have⟨a1,R,x⟩:=KV (show put a o.dst (.tup []) (fun a=>Tn E rec rd c.toList l a h k)=true from Y);have⟨u,t,O,J⟩:=Mm M r l (i+1) A R;refine⟨u,t,O,fun e w act Q v j p B=>?_⟩;simp[BU,List.range'_succ,wpOpsIn,U,S e a.n act.tmps j.tm,Cm,if_false];exact⟨fun f _=>J8 e rd f,J e w _ Q v (x e act undef j (Gg e)) p B⟩
variable{rec:Rec} {rd:Option Nat} {h:AH}
theorem SD (u:Ep P E C) (e:FZ P C rec) {id:Nat} {c:Array Oper} {a:AF} {k:AF->AH->Bool} (t:Tn E rec rd c.toList c.toList a h k=true):
  ∃j i,k j i=true/\RE P C rd (.code (.region id c false)) a h .normal j i:=by
 have⟨j,i,x,v⟩:=Mm g u e c.toList 0 rfl t;refine⟨j,i,x,fun p w act r o m=>wpIn_region ?_⟩;have:=v p w act (AP C p .normal j i) r o m fun l q y n s f=>⟨rfl,l,n,s,f⟩
 rw[List.range_eq_range'];simpa using this
theorem MM (G:FZ P C rec) {f:Code} {k:Fs->AF->AH->Bool} {e:Fs} {a:AF} (y:Mu rec rd f k e a h=true):
  ∃M O J,k M O J=true/\∀(i:BJ) (act:Act) (w:World),BK C i h w->FR i a act->KW i rd->∀(p:BJ),p.le i->∀(m:Machine) (b:Frame) (r:List Item) (d:List Frame),b.roundOf=(Cd i rd).round->(Cd i rd).fn b.fn->
   ArrivesIn (Machine.fenced P (Cd i rd)) P m b (.inScope f::r) d e.at act w->
   ∃L s H,AP C p M O J L s H/\ArrivesIn (Machine.fenced P (Cd i rd)) P m b r d L s H:=by
 cases e with
 |normal=>
  refine⟨.normal,a,h,y,fun i act w x o v p j m b r d u t c=>⟨.normal,act,w,⟨rfl,i,j,x,o⟩,StepsIn.trans c (.one (fenced_calm (n:=0) t ?_ rfl) OW)⟩⟩;cases rd<;>exact fun _ h=>by simp[Cd,Fence.wide] at h
 |exit id=>
  refine⟨.exit id,a,h,y,fun i act w x o v p j m b r d u t c=>⟨.exit id,act,w,⟨rfl,i,j,x,o⟩,?_⟩⟩;have D:exitTo id (.inScope f::r)=exitTo id r:=by simp[exitTo]
  exact⟨fun Q q=>c.1 Q (by rw[D];exact q),fun A q=>c.2 A (by rw[D];exact q)⟩
 |ret=>
  exact⟨.ret,a,h,y,fun i act w x o v p j m b r d u t c=>⟨.ret,act,w,⟨rfl,i,j,x,o⟩,c⟩⟩
 |goto l=>
  unfold Mu at y;simp at y;split at y
  .rename_i B R;have⟨M,O,J,Y,U⟩:=G _ _ _ _ _ y;refine⟨M,O,J,Y,fun i act w x o v p j m b r d u t c=>?_⟩;have z:(Cd i rd).room (d.length+1+0):=by cases rd<;>exact fun _ h=>by simp[Cd,Fence.wide] at h
   have⟨L,s,H,q1,q2⟩:=U i w act x o v b r d u t z;have S:gotoIn l (.inScope f::r)=some (.code B:: .inScope f::r):=by simp[gotoIn,R]
   exact⟨L,s,H,q1.mono j,.of_steps (c.1 _ S) q2⟩
  .rename_i R;refine⟨.goto l,a,h,y,fun i act w x o v p j m b r d u t c=>⟨.goto l,act,w,⟨rfl,i,j,x,o⟩,?_⟩⟩;have D:gotoIn l (.inScope f::r)=gotoIn l r:=by simp[gotoIn,R]
   exact⟨fun Q q=>c.1 Q (by rw[D];exact q),fun A q=>c.2 A (by rw[D];exact q)⟩
theorem SE (hH:Ep P E C) (a4:FZ P C rec) {f:Operand} {ps:Array Tmp} {assign body:Code} {a:AF} {k:Fs->AF->AH->Bool} (hk:QP E rec rd f ps assign body a h k=true):
  ∃e S R,k e S R=true/\RE P C rd (.code (.rangeFunc f ps assign body)) a h e S R:=by
 have a7:∃(d:Nat) (mark:List ON) (h1:AH),(IL h1 (.loop .ready none a.tm a.n ps assign body d) fun l h=>ev E f a.tm fun f=>match f with
   | .fn f first j=>O4 E rec f (first++[AV.yield l]++j) h fun _ h=>
    match h.m.get l with
    |some (.loop U pending tm n ps assign body d)=>
     match U with
     | .busy=>false
     |_=>h.m.set l (.loop .exhausted pending tm n ps assign body d) fun m=>V9 rec rd pending ⟨a.tm,a.n,mark++a.df⟩ ⟨m,h.nx⟩ k
    |_=>false
   |_=>false)=true/\∀o w act,BK C o h w->FR o a act->KW o rd->∀fn,∃(B:BJ) (u:World) (D:Nat) (ds:List Deferred) (y:Loc),o.le B/\BK C B h1 u/\B d=some y/\y.blk=D/\TN B (mark++a.df) (ds++act.defers)/\
    True/\(Instr.enterLoop fn act.tmps ps assign body (Cd o rd).round).run P w= .ok (u.heap.size,ds) (u.alloc (.loop {state:= .ready,pending:=none,fn,tmps:=act.tmps,params:=ps,assign,body,defers:=D})):=by
  unfold QP at hk
  cases rd with
  |none=>
   simp only at hk;have⟨m,h1,hp⟩:=CO hk;refine⟨_,[.mark h.nx],_,h1,fun o w act J p r fn=>?_⟩;refine⟨o.put h.nx ⟨w.heap.size,0,0⟩,w.alloc (.deferred (some [])),w.heap.size,[{target:= .collected w.heap.size,args:=#[]}],⟨w.heap.size,0,0⟩,J.lp _,
    J.new hp 0 0 _ (fun c4 _=>F4 _ _),BJ.put_same _ _ _,rfl,⟨.mark (BJ.put_same _ _ _),p.df.mono (J.lp _)⟩,trivial,?_⟩
   simp[Instr.enterLoop,Cd,Fence.wide]
  |some l0=>
   simp only at hk;split at hk
   .rename_i U pend tm n c6 as0 e4 d hl;refine⟨d,[],h,hk,fun o w act J p r fn=>?_⟩;have⟨y0,b7⟩:=r l0 rfl;have⟨e3,a6,D,y,o1,o2,o3,o4⟩:=J.obj l0 _ y0 hl b7;have c0:(getObj y0.blk).run P w= .ok (.loop {state:=U,pending:=pend,fn:=e3,tmps:=a6,params:=c6,assign:=as0,body:=e4,defers:=D}) w:=by simp[getObj,Sem.run,o1]
    refine⟨o,w,D,[],y,BJ.le.refl o,J,o3,o4,p.df,trivial,?_⟩;simp[Instr.enterLoop,Cd,b7,Instr.getLoop,c0]
   .cases hk
 have⟨d,mark,h1,hk1,a1⟩:=a7;have⟨m,hk2,hp⟩:=CO hk1;have⟨fv,a8,hf⟩:=BH g hk2;split at a8
 .rename_i f' first j
  have⟨v,h3,H,c2,b1⟩:=IJ g hH a4 a8;split at H
  .rename_i U pending c5 n3 Y i t d3 b9;have c3:∃Q,h3.m.Put h1.nx (.loop .exhausted pending c5 n3 Y i t d3) Q/\U≠ .busy/\V9 rec rd pending ⟨a.tm,a.n,mark++a.df⟩ ⟨Q,h3.nx⟩ k=true:=by
    cases U with
    |busy=>cases H
    |ready=>have⟨Q,q1,q2⟩:=Tr.set_spec _ _ _ _ H;exact⟨Q,q2,oS,q1⟩
    |done=>have⟨Q,q1,q2⟩:=Tr.set_spec _ _ _ _ H;exact⟨Q,q2,oS,q1⟩
    |exhausted=>have⟨Q,q1,q2⟩:=Tr.set_spec _ _ _ _ H;exact⟨Q,q2,oS,q1⟩
   have⟨Q,c7,b8,Z⟩:=c3;have a9:∃e S R,k e S R=true/\∀o w act,BK C o ⟨Q,h3.nx⟩ w->FR o ⟨a.tm,a.n,mark++a.df⟩ act->KW o rd->∀L,L.le o->
     (pending=none->AP C L e S R .normal act w)/\(∀c,pending=some c->c.wpIn (Cd o rd) 0 P (AP C L e S R) act w):=by
    unfold V9 at Z;split at Z
    .exact⟨_,_,_,Z,fun o w act J p r L G=>⟨fun _=>⟨rfl,o,G,J,p⟩,fun c e=>(by cases e)⟩⟩
    .rename_i c _ _;have⟨e,S,R,q1,q2⟩:=a4 _ _ _ _ _ Z;exact⟨e,S,R,q1,fun o w act J p r L G=>⟨(fun e=>by cases e),fun c' e=>by cases e;exact wpIn_mono (q2 o w act J p r) fun e' e5 w' hq=>hq.mono G⟩⟩
   have⟨e,S,R,c9,a9⟩:=a9;refine⟨e,S,R,c9,fun o w act J p r=>wpIn_rangeFunc fun fn _=>?_⟩;have⟨B,u,D,ds,y,O,k1,e2,e1,e0,_,a3⟩:=a1 o w act J p r fn;have k2:=k1.new hp 0 0 (.loop {state:= .ready,pending:=none,fn,tmps:=act.tmps,params:=ps,assign,body,defers:=D}) fun c4 G=>⟨fn,act.tmps,D,y,F4 _ _,(p.tm.mono (O.trans G)),G _ _ e2,e1⟩
   have z:=k1.lp ⟨u.heap.size,0,0⟩;generalize(u.alloc (.loop {state:= .ready,pending:=none,fn,tmps:=act.tmps,params:=ps,assign,body,defers:=D}))=w2 at k2 a3;generalize b4:B.put h1.nx ⟨u.heap.size,0,0⟩=A at k2 z;have b6:A h1.nx=some ⟨u.heap.size,0,0⟩:=by rw[<-b4];exact BJ.put_same _ _ _
   have hF:=(hf A _ _ act.eval k2 ((p.mono (O.trans z)).opr)).conc oS;simp[conc] at hF
   cases a0:B2 A first with
   |none=>rw[a0] at hF;cases hF
   |some fi=>
    cases b2:B2 A j with
    |none=>rw[a0,b2] at hF;cases hF
    |some ca=>
     rw[a0,b2] at hF;simp[Dh,Bf,A0] at hF;have hy:B2 A [AV.yield h1.nx]=some [.func (.yield u.heap.size) #[] #[]]:=by simp[B2,conc,b6]
     refine⟨u.heap.size,ds,w2,{target:= .fn (.func f') ca.toArray,args:=(fi++[Value.func (.yield u.heap.size) #[] #[]]).toArray},w2,f',(fi++[Value.func (.yield u.heap.size) #[] #[]]++ca).toArray,w2,a3,?_,fun f _=>J8 o rd f,?_,G0 o rd,?_⟩
     .simp only[resolve,rangeCall,<-hF,Deferred.ofValue,AJ];have:(fi++[Value.func (.yield u.heap.size) #[] #[]]).toArray=fi.toArray++Array.map act.eval #[Operand.const (Value.func (Fn.yield u.heap.size) #[] #[])]:=by
       apply Ch;simp[Act.eval]
      rw[this]
     .simp[invoke];exact c2 _ _
     .refine(M9 (b1 A _ _ k2 (((E8.of_conc a0).append (E8.of_conc hy)).append (E8.of_conc b2)))).mono fun e' w3 hq=>?_
      obtain⟨x,b3,rfl,M,k3,hx⟩:=hq;have b5:=M _ _ b6;have⟨a2,q,D3,y3,q1,q2,q3,q4⟩:=k3.obj _ _ _ b9 b5;have a5:=(Ak.1 q1).1;have b0:(getObj u.heap.size).run P w3= .ok (.loop {state:=U,pending:=pending,fn:=a2,tmps:=q,params:=Y,assign:=i,body:=t,defers:=D3}) w3:=by simp[getObj,Sem.run,q1]
      have k4:=Hg k3 b9 b5 rfl rfl c7 (.loop {state:= .exhausted,pending:=pending,fn:=a2,tmps:=q,params:=Y,assign:=i,body:=t,defers:=D3}) a5 rfl
       ⟨a2,q,D3,y3,by simp[a5],q2,q3,q4⟩
      have s:=(O.trans z).trans M;refine⟨pending,{w3 with heap:=w3.heap.setIfInBounds u.heap.size (.loop {state:= .exhausted,pending:=pending,fn:=a2,tmps:=q,params:=Y,assign:=i,body:=t,defers:=D3})},?_,?_⟩
      .have c8:(U== .busy)=false:=by cases U<;>first|rfl|exact absurd rfl b8
       simp[Instr.endLoop,Instr.getLoop,b0,c8,b8,setObj,Sem.run,q1]
      .have c1:FR b3 ⟨a.tm,a.n,mark++a.df⟩ {act with defers:=ds++act.defers}:=⟨p.tm.mono s,e0.mono (z.trans M)⟩;have:=a9 b3 _ {act with defers:=ds++act.defers} k4 c1 (r.mono s) o s;rw[ES s r] at this
       cases pending with
       |none=>exact this.1 rfl
       |some c=>exact this.2 c rfl
  .cases H
 .cases a8
abbrev Vx:=Rec->Option Nat->List Oper->AF->AH->(AF->AH->Bool)->Bool
def QK (P:Program) (C:Ctx) (drawn:Vx):Prop:=
 ∀rec,FZ P C rec->∀rd id (c:Array Oper) a h k,drawn rec rd c.toList a h k=true->∃f e,k f e=true/\RE P C rd (.code (.region id c true)) a h .normal f e
theorem YW (hH:Ep P E C) {drawn:Vx} (hD:QK P C drawn) (q:FZ P C rec):FZ P C (dQ E drawn rec):=by
 intro rd t a h k U
 cases t with
 |scope a2 a6=>
  have⟨e,a1,O,J,D⟩:=q _ _ _ _ _ (show rec rd (.code a6) a h (fun e a h=>Mu rec rd a2 k e a h)=true from U);have⟨e',R,Q,M,a0⟩:=MM g q J;refine⟨e',R,Q,M,fun o w act p j m b S d B z L=>?_⟩;obtain⟨Y,n,G,⟨rfl,Z,r,k1,H⟩,A⟩:=D o w act p j m b (.inScope a2::S) d B z L;have hf:=ES r m;have:=a0 Z n G k1 H (m.mono r) o r;rw[hf] at this;exact this _ b S d B z A
 |loop b=>
  have⟨e,a1,O,J,D⟩:=q _ _ _ _ _ (show rec rd (.code b) a h (fun e a h=>match e with
   | .normal=>rec rd (.loop b) a h k
   |e=>k e a h)=true from U)
  cases e with
  |normal=>
   have⟨e',R,Q,M,a0⟩:=q _ _ _ _ _ (show rec rd (.loop b) a1 O k=true from J);refine⟨e',R,Q,M,fun o w act p j m bb S d B z L=>?_⟩;obtain⟨Y,n,G,⟨rfl,Z,r,k1,H⟩,A⟩:=D o w act p j m bb (.inLoop b::S) d B z L;have:=a0 Z G n k1 H (m.mono r);rw[ES r m] at this;have⟨e2,a3,w2,q1,q2⟩:=this bb S d B z L;exact⟨e2,a3,w2,q1.mono r,.of_steps (StepsIn.trans A (.one (fenced_calm z L rfl) stepR_inLoop)) q2⟩
  |exit id=>
   refine⟨_,_,_,J,fun o w act p j m bb S d B z L=>?_⟩;obtain⟨Y,n,G,⟨rfl,u⟩,A⟩:=D o w act p j m bb (.inLoop b::S) d B z L;exact⟨_,n,G,⟨rfl,u⟩,.pass rfl (fun _ _=> .inl (by simp[Fs.at])) A⟩
  |goto l=>
   refine⟨_,_,_,J,fun o w act p j m bb S d B z L=>?_⟩;obtain⟨Y,n,G,⟨rfl,u⟩,A⟩:=D o w act p j m bb (.inLoop b::S) d B z L;exact⟨_,n,G,⟨rfl,u⟩,.pass rfl (fun _ _=> .inl (by simp[Fs.at])) A⟩
  |ret=>
   refine⟨_,_,_,J,fun o w act p j m bb S d B z L=>?_⟩;obtain⟨Y,n,G,⟨rfl,u⟩,A⟩:=D o w act p j m bb (.inLoop b::S) d B z L;exact⟨_,n,G,⟨rfl,u⟩,.pass rfl (fun _ _=> .inl (by simp[Fs.at])) A⟩
 |code c=>
  cases c with
  |skip=>exact⟨_,_,_,(show k .normal a h=true from U),fun o w act p j m=>wpIn_skip ⟨rfl,o,BJ.le.refl o,p,j⟩⟩
  |label l=>exact⟨_,_,_,(show k .normal a h=true from U),fun o w act p j m=>wpIn_label ⟨rfl,o,BJ.le.refl o,p,j⟩⟩
  |exit id=>exact⟨_,_,_,(show k (.exit id) a h=true from U),fun o w act p j m=>wpIn_exit ⟨rfl,o,BJ.le.refl o,p,j⟩⟩
  |goto l=>exact⟨_,_,_,(show k (.goto l) a h=true from U),fun o w act p j m=>wpIn_goto ⟨rfl,o,BJ.le.refl o,p,j⟩⟩
  |ret=>exact⟨_,_,_,(show k .ret a h=true from U),fun o w act p j m=>wpIn_ret ⟨rfl,o,BJ.le.refl o,p,j⟩⟩
  |refuse s=>exact absurd (show false=true from U) oD
  |region id a4 draw=>
   cases draw with
   |false=>
    obtain⟨R,Q,O,J⟩:=SD g hH q (show Tn E rec rd a4.toList a4.toList a h (fun a h=>k .normal a h)=true from U);exact⟨.normal,R,Q,O,J⟩
   |true=>
    have⟨R,Q,O,J⟩:=hD rec q rd id a4 a h _ (show drawn rec rd a4.toList a h (fun a h=>k .normal a h)=true from U);exact⟨.normal,R,Q,O,J⟩
  |seq x y=>
   have⟨e,a1,O,J,D⟩:=q _ _ _ _ _ (show rec rd (.code x) a h (fun e a h=>match e with
    | .normal=>rec rd (.code y) a h k
    |e=>k e a h)=true from U)
   cases e with
   |normal=>
    have⟨e',R,Q,M,a0⟩:=q _ _ _ _ _ (show rec rd (.code y) a1 O k=true from J);refine⟨e',R,Q,M,fun o w act p j m=>wpIn_seq (wpIn_mono (D o w act p j m) fun Y n G u=>?_)⟩;obtain⟨rfl,Z,r,k1,H⟩:=u;have:=a0 Z G n k1 H (m.mono r);rw[ES r m] at this;exact wpIn_mono this fun e2 a3 w2 u=>u.mono r
   |exit id=>exact⟨_,_,_,J,fun o w act p j m=>wpIn_seq (wpIn_mono (D o w act p j m) fun Y n G u=>by obtain⟨rfl,u⟩:=u;exact⟨rfl,u⟩)⟩
   |goto l=>exact⟨_,_,_,J,fun o w act p j m=>wpIn_seq (wpIn_mono (D o w act p j m) fun Y n G u=>by obtain⟨rfl,u⟩:=u;exact⟨rfl,u⟩)⟩
   |ret=>exact⟨_,_,_,J,fun o w act p j m=>wpIn_seq (wpIn_mono (D o w act p j m) fun Y n G u=>by obtain⟨rfl,u⟩:=u;exact⟨rfl,u⟩)⟩
  |cond c x y=>
   have⟨v,O,hv⟩:=BH g (show ev E c a.tm (fun c=>match c with
    | .bool b=>cond b (rec rd (.code x) a h k) (rec rd (.code y) a h k)
    |_=>false)=true from U)
   split at O
   .rename_i b;have hb:∀o w act,BK C o h w->FR o a act->act.eval c= .bool b:=fun o w act p j=>by
     have:=(hv o h w act.eval p j.opr).conc oS;simp[conc,A0] at this;exact this.symm
    cases b with
    |true=>
     have⟨e',R,Q,M,D⟩:=q _ _ _ _ _ (show rec rd (.code x) a h k=true from O);exact⟨e',R,Q,M,fun o w act p j m=>wpIn_cond_true (hb o w act p j) (D o w act p j m)⟩
    |false=>
     have⟨e',R,Q,M,D⟩:=q _ _ _ _ _ (show rec rd (.code y) a h k=true from O);exact⟨e',R,Q,M,fun o w act p j m=>wpIn_cond_false (hb o w act p j) (D o w act p j m)⟩
   .cases O
  |block id b=>
   have⟨e,a1,O,J,D⟩:=q _ _ _ _ _ (show rec rd (.code b) a h (fun e a h=>match e with
    | .exit i=>cond (Nat.beq i id) (k .normal a h) (k (.exit i) a h)
    |e=>k e a h)=true from U)
   cases e with
   |normal=>exact⟨_,_,_,J,fun o w act p j m=>wpIn_block (wpIn_mono (D o w act p j m) fun Y n G u=>by obtain⟨rfl,u⟩:=u;exact⟨rfl,u⟩)⟩
   |exit i=>
    rcases Ex (show cond (Nat.beq i id) (k .normal a1 O) (k (.exit i) a1 O)=true from J) with⟨hi,M⟩|⟨hi,M⟩
    .have hi:=beq_eq hi;refine⟨_,_,_,M,fun o w act p j m=>wpIn_block (wpIn_mono (D o w act p j m) fun Y n G u=>?_)⟩;obtain⟨rfl,u⟩:=u;simp[Fs.at,Exit.inBlock,hi,if_true];exact⟨rfl,u⟩
    .have hi:i≠id:=fun e=>by subst e;simp at hi
     refine⟨_,_,_,M,fun o w act p j m=>wpIn_block (wpIn_mono (D o w act p j m) fun Y n G u=>?_)⟩;obtain⟨rfl,u⟩:=u;simp[Fs.at,Exit.inBlock,hi,if_false];exact⟨rfl,u⟩
   |goto l=>exact⟨_,_,_,J,fun o w act p j m=>wpIn_block (wpIn_mono (D o w act p j m) fun Y n G u=>by obtain⟨rfl,u⟩:=u;exact⟨rfl,u⟩)⟩
   |ret=>exact⟨_,_,_,J,fun o w act p j m=>wpIn_block (wpIn_mono (D o w act p j m) fun Y n G u=>by obtain⟨rfl,u⟩:=u;exact⟨rfl,u⟩)⟩
  |loop b=>
   have⟨e',R,Q,M,D⟩:=q _ _ _ _ _ (show rec rd (.loop b) a h k=true from U);refine⟨e',R,Q,M,fun o w act p j m bb S d B z L=>?_⟩;have⟨Y,n,G,q1,q2⟩:=D o w act p j m bb S d B z L;exact⟨Y,n,G,q1,.of_steps (.one (fenced_calm z L rfl) stepR_loop) q2⟩
  |rangeFunc f ps a5 a2=>exact SE g hH q (show QP E rec rd f ps a5 a2 a h k=true from U)
  |scope b=>
   have⟨e,a1,O,J,D⟩:=q _ _ _ _ _ (show rec rd (.code b) a h (fun e a h=>Mu rec rd b k e a h)=true from U);have⟨e',R,Q,M,a0⟩:=MM g q J;refine⟨e',R,Q,M,fun o w act p j m bb S d B z L=>?_⟩;obtain⟨Y,n,G,⟨rfl,Z,r,k1,H⟩,A⟩:=D o w act p j m bb (.inScope b::S) d B z L;have hf:=ES r m;have:=a0 Z n G k1 H (m.mono r) o r;rw[hf] at this;have⟨e2,a3,w2,q1,q2⟩:=this _ bb S d B z A;exact⟨e2,a3,w2,q1,.of_steps (.one (fenced_calm z L rfl) SC) q2⟩
theorem Mn (c:Ep P E C) {drawn:Vx} (e:QK P C drawn):∀n,FZ P C (run E drawn n)
 |0=>fun rd t a h k f=>absurd (show false=true from f) oD
 |n+1=>YW g c e (Mn c e n)
end
end
def Tr.full (f:Nat->AV):Nat->Tr AV
 |0=> .leaf
 |d+1=> .node (some (f 0)) (Tr.full (fun k=>f (4*k+1)) d) (Tr.full (fun k=>f (4*k+2)) d) (Tr.full (fun k=>f (4*k+3)) d) (Tr.full (fun k=>f (4*k+4)) d)
theorem Tr.full_get:∀(d:Nat) (f:Nat->AV) (k:Nat),k<d->(Tr.full f d).get k=some (f k)
 |0,f,k,h=>oO
 |d+1,f,0,h=>rfl
 |d+1,f,k+1,h=>by
  show(Tr.node _ _ _ _ _:Tr AV).get (k+1)=_;rw[Tr.get_succ,E9 _ _ _ _ _ (D7 _ oD)];have a:k/4<d:=oO;have b:k%4<4:=D7 _ oD;rw[Tr.full_get d _ _ a,Tr.full_get d _ _ a,Tr.full_get d _ _ a,Tr.full_get d _ _ a];split
  .congr 2;omega
  .grind
theorem Tr.full_any:∀(d:Nat) (f:Nat->AV) (k:Nat),(Tr.full f d).get k=none∨(Tr.full f d).get k=some (f k)
 |0,f,k=> .inl (Tr.get_leaf k)
 |d+1,f,0=> .inr rfl
 |d+1,f,k+1=>by
  show(Tr.node _ _ _ _ _:Tr AV).get (k+1)=none∨(Tr.node _ _ _ _ _:Tr AV).get (k+1)=_;rw[Tr.get_succ,E9 _ _ _ _ _ (D7 _ oD)];split
  .have:=Tr.full_any d (fun k=>f (4*k+1)) (k/4);have e:4*(k/4)+1=k+1:=oO;simpa[e] using this
  .split
   .have:=Tr.full_any d (fun k=>f (4*k+2)) (k/4);have e:4*(k/4)+2=k+1:=oO;simpa[e] using this
   .split
    .have:=Tr.full_any d (fun k=>f (4*k+3)) (k/4);have e:4*(k/4)+3=k+1:=oO;simpa[e] using this
    .have:=Tr.full_any d (fun k=>f (4*k+4)) (k/4);have e:4*(k/4)+4=k+1:=oO;simpa[e] using this
def Agree (a:List Operand) (k e:Tr AV):Prop:=∀t,Operand.tmp t∈a->Dg k t=Dg e t
theorem Agree.sub {b a:List Operand} {k e:Tr AV} (h:Agree b k e) (d:∀x∈a,x∈b):Agree a k e:=fun t c=>h t (d _ c)
section
variable{E:Env} {k e:Tr AV}
theorem LX (t:Nat) (k:Tr AV) (g:AV->Bool):ev E (.tmp t) k g=g (Dg k t):=by
 simp[ev,Dg];cases k.get t<;>rfl
theorem BO {o:Operand} (h:Agree [o] k e):ev E o k=ev E o e:=by
 funext g
 cases o with
 |tmp t=>rw[LX,LX,h t oS]
 |_=>rfl
theorem Ip:∀{l:List Operand},Agree l k e->aF E l k=aF E l e
 |[],_=>rfl
 |o::l,h=>by
  funext g;show ev E o k (fun v=>aF E l k fun l=>g (v::l))=ev E o e (fun v=>aF E l e fun l=>g (v::l));rw[BO (h.sub oS),Ip (h.sub (by intro x a;simp[a]))]
theorem Ht {a:Nat->(Nat->Nat->Bool)->Bool}:∀{ps:List (Nat×Operand)},Agree (ps.map (·.2)) k e->Ir E a k ps=Ir E a e ps
 |[],_=>rfl
 |p::ps,h=>by
  funext c g;show ev E p.2 k (fun v=>a p.1 fun b size=>cond (Nat.beq (cellsOf v).length size) (DL b (cellsOf v) c fun c=>Ir E a k ps c g) false)=
   ev E p.2 e (fun v=>a p.1 fun b size=>cond (Nat.beq (cellsOf v).length size) (DL b (cellsOf v) c fun c=>Ir E a e ps c g) false)
  rw[BO (h.sub oS),Ht (h.sub (by grind))]
theorem K9 {o:Option Operand} (h:Agree o.toList k e):OX o (fun o f=>ev E o k f)=OX o (fun o f=>ev E o e f):=by
 funext g
 cases o with
 |none=>rfl
 |some o=>simp[OX];rw[BO (h.sub oS)]
theorem Py {B:Op} {h:AH} {g:AV->AH->Bool} (j:Agree B.operands.toList k e):DC E B k h g=DC E B e h g:=by
 cases B with
 |move x=>simp only[DC,BO (o:=x) (j.sub (by simp[Op.operands]))]
 |assign x=>simp only[DC,BO (o:=x) (j.sub (by simp[Op.operands]))]
 |pick c x y=>simp only[DC,BO (o:=x) (j.sub (by simp[Op.operands])),BO (o:=y) (j.sub (by simp[Op.operands])),BO (o:=c) (j.sub (by simp[Op.operands]))]
 |alloc t=>rfl
 |box t x=>simp only[DC,BO (o:=x) (j.sub (by simp[Op.operands]))]
 |build t ps=>
  have D:Agree (ps.toList.map (·.2)) k e:=j.sub (by simp[Op.operands]);simp[DC,Ht D]
 |buildSlice t n ps=>
  have D:Agree (ps.toList.map (·.2)) k e:=j.sub (by simp[Op.operands]);simp[DC,Ht D]
 |load t x=>simp only[DC,BO (o:=x) (j.sub (by simp[Op.operands]))]
 |store t x y=>simp only[DC,BO (o:=x) (j.sub (by simp[Op.operands])),BO (o:=y) (j.sub (by simp[Op.operands]))]
 |nilCheck x=>simp only[DC,BO (o:=x) (j.sub (by simp[Op.operands]))]
 |binOp B t x y _=>simp only[DC,BO (o:=x) (j.sub (by simp[Op.operands])),BO (o:=y) (j.sub (by simp[Op.operands]))]
 |unOp B t x=>simp only[DC,BO (o:=x) (j.sub (by simp[Op.operands]))]
 |convert s d x=>simp only[DC,BO (o:=x) (j.sub (by simp[Op.operands]))]
 |makeFunc f a c=>
  have m:Agree a.toList k e:=j.sub (by intro x C;simp[Op.operands];exact .inl (by simpa using C));have A:Agree c.toList k e:=j.sub (by intro x C;simp[Op.operands];exact .inr (by simpa using C));cases f<;>first|rfl|simp only[DC,Ip m,Ip A]
 |makeSlice t x y=>simp only[DC,BO (o:=x) (j.sub (by simp[Op.operands])),BO (o:=y) (j.sub (by simp[Op.operands]))]
 |slice t x lo J H=>
  have m:Agree lo.toList k e:=j.sub (by intro z q;simp[Op.operands] at q⊢;simp[q]);have A:Agree J.toList k e:=j.sub (by intro z q;simp[Op.operands] at q⊢;simp[q]);have L:Agree H.toList k e:=j.sub (by intro z q;simp[Op.operands] at q⊢;simp[q]);simp[DC,BO (o:=x) (j.sub (by simp[Op.operands])),K9 m,K9 A,K9 L]
 |fieldAddr t x f=>simp only[DC,BO (o:=x) (j.sub (by simp[Op.operands]))]
 |field t x f=>simp[DC,BO (o:=x) (j.sub (by simp[Op.operands]))]
 |indexAddr t x y=>simp[DC,BO (o:=x) (j.sub (by simp[Op.operands])),BO (o:=y) (j.sub (by simp[Op.operands]))]
 |index t x y=>simp[DC,BO (o:=x) (j.sub (by simp[Op.operands])),BO (o:=y) (j.sub (by simp[Op.operands]))]
 |lookup t x y _=>simp[DC,BO (o:=x) (j.sub (by simp[Op.operands])),BO (o:=y) (j.sub (by simp[Op.operands]))]
 |mapUpdate t x y z=>simp[DC,BO (o:=x) (j.sub (by simp[Op.operands])),BO (o:=y) (j.sub (by simp[Op.operands])),BO (o:=z) (j.sub (by simp[Op.operands]))]
 |insert t x y z=>simp[DC,BO (o:=x) (j.sub (by simp[Op.operands])),BO (o:=y) (j.sub (by simp[Op.operands])),BO (o:=z) (j.sub (by simp[Op.operands]))]
 |range t x=>simp[DC,BO (o:=x) (j.sub (by simp[Op.operands]))]
 |next x b=>cases b<;>first|rfl|simp[DC,BO (o:=x) (j.sub (by simp[Op.operands]))]
 |extract x i=>simp[DC,BO (o:=x) (j.sub (by simp[Op.operands]))]
 |makeMap t r=>cases r<;>rfl
 |call c=>
  have⟨p,u,G⟩:=c
  cases p with
  |value f=>rfl
  |invoke r n=>rfl
  |builtin b=>
   have v:Agree u.toList k e:=j.sub (by intro x C;simp[Op.operands,Call.operands];simpa using C);have l:∀x∈u.toList,ev E x k=ev E x e:=fun x C=>BO (v.sub (by grind))
   simp[DC];split
   .rename_i x t m A;rw[l x (by rw[m];simp)]
   .rename_i x t m A;rw[l x (by rw[m];simp)]
   .rename_i x y m;rw[l x (by rw[m];simp),l y (by rw[m];simp)]
   .rename_i x y m;rw[l x (by rw[m];simp),l y (by rw[m];simp)]
   .rename_i x y _ _ m A;rw[l x (by rw[m];simp),l y (by rw[m];simp)]
   .rename_i x y _ _ m A;rw[l x (by rw[m];simp),l y (by rw[m];simp)]
   .rfl
 |_=>rfl
theorem RF {a:Array Oper} {o:Oper} {g:Bool->Bool} (l:∀t∈o.looksAt a,Dg k t=Dg e t):Ga a.toList o k g=Ga a.toList o e g:=by
 unfold Ga;split
 .rfl
 .rename_i j b i;simp[FJ,BP];split
  .rename_i d _ _ _ _ _ h;have f:Dg k d=Dg e d:=l d (by
    unfold Oper.looksAt;rw[i];simp[h])
   unfold Dg at f;have c:∀o:Option AV,Yh (g false) (fun v=>Oz b v g) o=Oz b (o.getD (.tup [])) g:=fun o=>by cases o<;>rfl
   rw[c,c,f]
  .rfl
end
theorem narrow (b:List Nat) (k:Tr AV) (n:Nat):∃e,(∀t∈b,Dg k t=Dg e t)/\
  ∀g (a:Array Value),a.size=n->(∀t∈b,VR g (Dg k t) (a.getD t undef))->TQ g e n a:=by
 classical
 obtain⟨d,l⟩:∃d:Nat,∀t∈b,t<d:=by
  induction b with
  |nil=>exact⟨0,fun t h=>by simp at h⟩
  |cons t b r=>
   have⟨d,l⟩:=r;refine⟨max d (t+1),fun s c=>?_⟩;rcases Az.1 c with rfl|c
   .omega
   .have:=l s c;omega
 obtain⟨F,p⟩:∃F:Nat->AV,∀t,F t=if t∈b then Dg k t else .bad:=⟨_,fun _=>rfl⟩;have get:∀t o,(Tr.full F (d+n)).get t=o->Dg (Tr.full F (d+n)) t=o.getD (.tup []):=fun t o h=>by
  unfold Dg;rw[h]
 refine⟨Tr.full F (d+n),fun t q=>?_,fun g a c u=>⟨c,fun i=>?_⟩⟩
 .have:=l t q;rw[get t _ (Tr.full_get (d+n) F t oO),p,if_pos q];rfl
 .by_cases j:i∈b
  .have:=l i j;rw[get i _ (Tr.full_get (d+n) F i oO),p,if_pos j];exact u i j
  .rcases Tr.full_any (d+n) F i with f|f
   .have v:¬i<d+n:=fun m=>by
     rw[Tr.full_get _ _ _ m] at f;cases f
    have:a.getD i undef=undef:=by
     rw[AS,CW oO];rfl
    rw[get i _ f,this];exact Gg g
   .rw[get i _ f,p,if_neg j];exact .inl rfl
end Go.Refl
