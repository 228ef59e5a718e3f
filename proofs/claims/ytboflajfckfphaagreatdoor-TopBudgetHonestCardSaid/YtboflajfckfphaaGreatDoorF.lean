/- A part of TopBudgetHonest. -/
import Derived.Test.YtboflajfckfphaaGreatDoorE
set_option linter.all false
namespace Go.Proofs.YtboflajfckfphaaGreatDoor
open Go.RowKit Bud Go Go.Proofs.Tryz
set_option maxRecDepth 1000000
theorem mV {B:Nat} {p:Px} {u Y:St} {S:Sl} {w:World} {e c0 n g K f M:Nat} {o:Option Addr} {d:Int} {j:List Nat} {ro:Option Nat} {Q:EO} [BZ Q]
 (h:Rep B p u S w) (he:S .E=vS e 1 c0) (C:u.W[K]?=some j) (A:S (.row K)= .slice o n g) (r:j.length=n) (hK:K=EC d) (hn:n<=maxLen) (O:u.W.length=M) (a7:M<=maxLen)
 (b:OY f u d n 0 0=some (Y,ro))
 (a4:ro=none->∀(k:Nat) (G:St) (s:List Nat) (l:Sl) (y:World),Rep B p G l y->G.W[K]?=some s->G.W.length=M->k<=n->Y={G with W:=G.W.set K (s.take k)}->(∀x,¬GB x->l x=S x)->l (.row K)= .slice o n g->Step S l w y->HN f103 (fun a w=>Q .normal a w) [qv 0 e,(3,I d),(5,.slice o k g)] y)
 (a3:∀c,ro=some c->∀(l:Sl) (y:World),Rep B p Y l y->(∀x,¬GB x->l x=S x)->Step S l w y->HN f103 (fun a w=>Q .ret a w) [(2,E6 S c)] y):
 HW f103 (.block 2 (.loop jc)) Q [qv 0 e,(3,I d),(4,.slice o n g),(5,.slice o 0 g),(46,.slice o n g),(47,N n),(48,N 0)] w:=by
 refine Bd ?_;refine Ct (fun m L R=>∃k i u v j,L=[qv 0 e,(3,I d),(4,.slice o n g),(5,.slice o k g),(46,.slice o n g),(47,N n),(48,N i)]/\i<=n/\k<=i/\Rep B p u v R/\(∀x,¬GB x->v x=S x)/\v (.row K)= .slice o n g/\Step S v w R/\u.W[K]?=some j/\j.length=n/\u.W.length=M/\OY m u d n i k=some (Y,ro)) (n:=f)
  ⟨0,0,u,S,j,rfl,oO,oO,h,fun _ _=>rfl,A,Step.refl _ _,C,r,O,b⟩ ?_
 rintro m L R ⟨k,i,u,v,j,rfl,hi,a0,h,D,A,U,C,r,O,b⟩
 cases m with
 |zero=>cases b
 |succ m=>
 unfold OY at b;rw[<-hK,C] at b;simp only at b;refine Ad ?_;by_cases J:n<=i
 .rw[if_pos J] at b;have q1:¬(i:Int)<(n:Int):=oO;refine Be [(0,.F)] [0,3,4,5,46,47,48,49] [(49,bF)] (Bo (Er q1))<|Ae (Ad ?_);have b:=Ah b;injection b with Z e2;refine B1 rfl (BQ (Bc nX (B6 nX (Ck (BV (a4 e2.symm k u j v R h C O oO (by rw[<-Z]) D A U))))))
 .rw[if_neg J] at b;have q1:(i:Int)<(n:Int):=oO;refine Be [(0,.T)] [0,3,4,5,46,47,48,49] [(49,bT)] (Bo (EE q1))<|Ae (Ad<|Bg rfl (AZ (Ae (Ad ?_))))
  cases hc:j[i]? with
  |none=>rw[hc] at b;cases b
  |some c=>
  rw[hc] at b;simp only at b
  cases z:KL u d c with
  |none=>rw[z] at b;cases b
  |some vr=>
  have⟨s1,code⟩:=vr;rw[z] at b;have⟨q,a6,hg,_⟩:=h.rowA C oO;rw[A] at hg;obtain⟨rfl,rfl⟩:o=some (ad q 0)/\g=a6:=by injection hg with x1 x2 x3;exact⟨x1,x3⟩
  have a1:v .E=vS e 1 c0:=by rw[D _ (by unfold GB isRow;simp)];exact he
  have a2:E6 v c=E6 S c:=by unfold E6;rw[D _ (by unfold GB isRow;simp)]
  have a5:K<u.W.length:=(Aa.1 C).1;have q2:i<maxLen:=oO;refine Eu (L':=[qv 0 e,(3,I d),(4,vS q n g),(5,vS q k g),(46,vS q n g),(47,N n),(48,N i)])<|mU h a1 C A hc a0 oO hK hn oO z (fun P l w2 r1 r2 r3 H r5=>?_) (fun P l w2 r1 r2 r3 H r5 r6=>?_) fun P l w2 r1 r2 r3 H=>?_
  .subst P;refine Ae<|Be [(0,.e (N (i+1)))] [0,3,4,5,46,47,48] [qv 0 e,(3,I d),(4,vS q n g),(5,vS q (k+1) g),(46,vS q n g),(47,N n),(48,N (i+1))] (Bo (vJ (Ec q2 rfl))) ?_;simp only at b;rw[r2] at b;exact BF (DV m) ⟨k+1,i+1,_,l,_,rfl,oO,oO,r1,fun x t=>(r3 x t).trans (D x t),H.trans A,U.trans r5,AD a5,by simpa using r,by simpa using O,b⟩
  .subst P;refine Ae<|Be [(0,.e (N (i+1)))] [0,3,4,5,46,47,48] [qv 0 e,(3,I d),(4,vS q n g),(5,vS q k g),(46,vS q n g),(47,N n),(48,N (i+1))] (Bo (vJ (Ec q2 rfl)))<|BF (DV m) ⟨k,i+1,_,l,_,rfl,oO,oO,r1,fun x t=>(H x t).trans (D x t),r5.trans A,U.trans r6,r2,r,r3.trans O,b⟩
  .subst P;simp only at b;have b:=Ah b;injection b with Z e2;rw[r2] at Z;rw[Z] at r1;refine Bc nR (B6 nR (BL ?_));rw[a2];exact a3 c e2.symm l w2 r1 (fun x t=>(r3 x t).trans (D x t)) (U.trans H)
theorem run_any {B:Nat} {p:Px} {s s':St} {S:Sl} {w:World} {e c0:Nat} {r:Option Nat} (h:Rep B p s S w) (he:S .E= vS e 1 c0) (f:Nat) (hr:QQ f s=some (s',r)):
  Cg 103 #[vP e 0] w (Ml B p S w GB s' (IS S r)):=by
 refine CN fg<|Ad<|B8 [] [0] []<|Ae (Ad (Bd<|Ct (fun m L g=>∃t D,L=[qv 0 e]/\Rep B p t D g/\(∀x,¬GB x->D x=S x)/\Step S D w g/\QQ m t=some (s',r)) (n:=f) ⟨s,S,rfl,h,fun _ _=>rfl,Step.refl _ _,hr⟩ ?_));rintro m L g ⟨t,S1,rfl,h,hS,st,i⟩
 cases m with
 |zero=>cases i
 |succ m=>
 unfold QQ at i;have j:S1 .E=vS e 1 c0:=by rw[hS _ (by unfold GB isRow;simp)];exact he
 have⟨A5,c5,a4,e5,le,b9,c1⟩:=h.trailE j;have⟨_,e7,_,_,_,fe,_⟩:=h.engF j;refine Ad (Ad ?_);have C1:Aj [(ad e 7,N t.d),(ad e 5,sq A5 t.L c5)] g.drew:= .cons e7 (.cons e5 .nil);by_cases a0:t.L.length<=t.d
 .rw[if_pos a0] at i;have q1:¬(t.d:Int)<(t.L.length:Int):=oO;refine Dr [] (Gi [(3,.c 0),(7,.c 1),(9,.F)] 0 10) [] [0,18] [(18,bF)] (Bo (Er q1)) C1<|AK<|Ae (B1 rfl (BQ (Bc nX (B6 nX (Ck (Ae (Ad<|B8 [] [2] [(2,.pointer none)]<|Ae (Br (Bu rfl rfl ?_)))))))));have i:=Ah i;injection i with e1 Y;subst e1 Y;exact⟨rfl,S1,hS,h.drew,st.drew⟩
 .rw[if_neg a0] at i;have q1:(t.d:Int)<(t.L.length:Int):=oO;refine Dr [] (Gi [(3,.c 0),(7,.c 1),(9,.T)] 0 10) [] [0,18] [(18,bT)] (Bo (EE q1)) C1<|AK<|Ae (Bg rfl (AZ (Ae (Bd (Tv (Ad ?_))))));split at i
  .cases i
  rename_i b Z;obtain⟨K,hK⟩:∃K,K=EC b:=⟨_,rfl⟩;rw[<-hK] at i;split at i
  .cases i
  rename_i a l
  cases u:OY (a.length+1) {t with d:=t.d+1} b a.length 0 0 with
  |none=>rw[u] at i;cases i
  |some b0=>
  have⟨s1,ro⟩:=b0;rw[u] at i;have⟨g5,b6,a3,_,_,_,rT,_,_,l5⟩:=h.trailA j oO;rw[a3] at a4;obtain⟨rfl,rfl⟩:A5=some (ad g5 0)/\c5=b6:=by injection a4 with z x2 x3;exact⟨z.symm,x3.symm⟩
  have ol:=rT _ _ Z;have b3:K<t.W.length:=(Aa.1 l).1;have q2:t.d<maxLen:=oO;have⟨h2,a8⟩:=h.drew.drew.putHead j (t.d+1);have C2:Aj [(ad e 5,vQ g5 t.L c5),(ad e 7,N t.d),(ad g5 t.d,I b)] g.drew.drew:= .cons e5 (.cons e7 (.cons ol .nil));refine Dr [] (Gi [(3,.c 0),(7,.c 1),(9,.c 2)] 0 11) [] [0,3] [(3,I b)] (Bo (oO:oX t.d t.L.length)) C2<|AK<|Ae (Ad ?_);have C3:Aj [(ad e 7,N t.d)] g.drew.drew:= .cons e7 .nil;refine AY [Cu 0 7 [(3,.c 0),(4,.e (N (t.d+1)))],.one 7]<|E3 [0,3,33,35] [(33,N (t.d+1)),(35,vP e 7)] (Bo (vJ (Ec q2 rfl))) C3<|Cz (N (t.d+1)) e7 (fe 7)<|BG [0,3] ?_;have H:=st.drew.drew.trans a8;generalize(g.drew.drew.setCell (ad e 7) (N (t.d+1)))=w3 at h2 H⊢;have⟨y,R,hW,e1,a6,c2,rW,fW,b8,lw⟩:=h2.watchA j (by show 0<t.W.length;omega);have a6:t.W.length<=R:=a6;have A:=rW K b3;have⟨v,o,C⟩:=h2.rowE (k:=K) (row:=a) l;rw[C] at A;have AT:∀W,Cg 198 #[I b] W fun en g=>en= .returned (N K)/\W=g:=fun W=>hK▸QH b (by rw[<-hK];omega) W
  have b1:a.length<=maxLen:=by
   rcases D6 a.length with h0|h0
   .rw[h0];exact Ha _
   .have⟨_,_,_,z,x2,_⟩:=h2.rowA (k:=K) (row:=a) l h0;omega
  refine Ae (Ad ?_);have C4:Aj [(ad e 1,vQ y t.W R),(ad y K,sq v a o)] w3.drew:= .cons e1 (.cons A .nil);refine Dr (O:=[(∀g,CR (some (Aj [(ad e 1,vQ y t.W R),(ad y K,sq v a o)])) w3.drew g->Cg 198 #[I b] g fun en G=>en=Ending.returned (N K)/\g=G),0<=(K:Int)/\(K:Int)<(t.W.length:Int)]) [] (Gi [(3,.c 0),(5,.q (N K)),(7,.c 1)] 0 9) [] [0,3,4] [(4,sq v a o)] ⟨(fun g _=>AT g),oO,trivial⟩ C4<|AK<|Ae (Ad<|Be (O:=[0<=(0:Int)/\(0:Int)<=(o:Int)]) [] [0,3,4,5] [(5,.slice v 0 o)] ⟨oO,trivial⟩<|Ae (Ad (Tu (Ae (Ad (Ad<|B8 [] [0,3,4,5,46,47,48] [(46,sq v a o),(47,N a.length),(48,I 0)] ?_))))));have P:OY (a.length+1) {t with d:=t.d+1} b a.length 0 0=some (s1,ro):=u;have M:({t with d:=t.d+1}:St).W[K]?=some a:=l;have hM:({t with d:=t.d+1}:St).W.length=t.W.length:=rfl;refine Ae (Eu (L':=[qv 0 e,(3,I b),(4,sq v a o),(5,.slice v 0 o),(46,sq v a o),(47,N a.length),(48,N 0)])<|mV h2.drew j M C rfl hK b1 hM oO P (fun Q k u2 b7 D w4 r1 r2 r3 r4 r5 r6 r7 r8=>?_) fun c Q D w4 r1 r2 r3=>?_)
  .subst Q;have b2:D .E=vS e 1 c0:=by rw[r6 _ (by unfold GB isRow;simp)];exact j
   have a1:D .W=vQ y t.W R:=by rw[r6 _ (by unfold GB isRow;simp)];exact hW
   have⟨b4,a5,a2,Y,_,_,a9,b5,_,_⟩:=r1.watchA b2 oO;rw[a1,r3] at a2;obtain⟨rfl,rfl⟩:y=b4/\R=a5:=by injection a2 with z x2 x3;injection z with z;injection z with z;exact⟨z,x3⟩
   rw[r3] at Y;have J:=a9 K oO;have⟨h5,a7⟩:=r1.drew.cutRow a1 r2 r7 r4;rw[<-r5] at h5;refine Ae ?_;have C5:Aj [(ad e 1,vQ y t.W R)] w4.drew:= .cons Y .nil;refine Dr (O:=[(∀g,CR (some (Aj [(ad e 1,vQ y t.W R)])) w4.drew g->Cg 198 #[I b] g fun en G=>en=Ending.returned (N K)/\g=G),0<=(K:Int)/\(K:Int)<(t.W.length:Int)]) [8] (Gi [(3,.c 0),(5,.q (N K))] 0 8) [.one 8] [0,3,5,222,223] [qv 0 e,(3,I b),(5,.slice v k o),(222,.slice v k o),(223,vP y K)] ⟨(fun g _=>AT g),oO,trivial⟩ C5<|Cz (.slice v k o) J (b5 K)<|BG [0]<|Tw nr (BN (BF (DV m) ⟨s1,_,rfl,h5,fun x U=>?_,(H.drew.trans r8).drew.trans a7,i⟩));rw[CE _ _ (fun hh=>U (.inl ⟨K,hh⟩)),r6 x U];exact hS x U
  .subst Q;have i:=Ah i;injection i with Y e3;subst Y e3;refine Bc nR (Tw lB (BL (B6 nR (BL (Bc nR (Bu rfl rfl<|⟨?_,D,fun x U=>(r2 x U).trans (hS x U),r1,H.drew.trans r3⟩))))));show Ending.returned (E6 S1 c)= .returned (E6 S c);unfold E6;rw[hS _ (by unfold GB isRow;simp)]




variable{Y:Nat->Prop}
def SJ (Y:Nat->Prop) (B:Nat) (s:St) (b:World) (e f c a:Nat) (W:World):Prop:=
 ∃p S T C d ps,Loc B p s noS S b W T C []/\S .E=vS e 1 d/\Pf Y b T C p.proof ps/\ps.length<=c+a/\T 6=vS f 1 1/\C 6=(37,4,1,[I 0,An,An,N a])/\T 4=An/\C 4=F1
def SF (Y:Nat->Prop) (B:Nat) (s:St) (f:World) (e j h:Nat) (d:List Int) (k:Int) (a:Nat) (W:World):Prop:=
 ∃p S T C i ps g b,∃c:List Int,Loc B p s noS S f W T C []/\S .E=vS e 1 i/\Pf Y f T C p.proof ps/\ps.length<=h+a/\T 6=vS j 1 1/\C 6=(37,4,1,[I k,g,b,N a])/\g.oneCell'=true/\b.oneCell'=true/\T 4=b/\C 4=(3,1,c.length,c.map I)/\(c.Sublist d)





def nN:Sh:= .seq (.reg 10) (.seq (.reg 11) (.seq (.reg 12) (.seq (.reg 13) (.seq (.reg 14) (.seq (.reg 15) (.exit 1))))))
theorem aN {B:Nat} {s H:St} {S:Sl} {m w:World} {p:Px} {T:Nat->Value} {C:Nat->Cn} {e t k M b turn c r:Nat} {left bu:Int} {ps:List (Int×List Int)} {VA:Value} {x:SS} {Q:EO} [BZ Q]
 (h:Loc B p s noS S m w T C []) (hB:B<=m.heap.size) (Z:S .E=vS e 1 t) (P:Pf Y m T C p.proof ps) (a8:ps.length<=M+b) (t6:T 6=vS k 1 1) (c6:C 6=(37,4,1,[I 0,An,An,N b])) (t4:T 4=An) (c4:C 4=F1) (hn0:M<=1000000000) (a7:b<=1000000) (U:-(lim:Int)<=left) (R:left<=(lim:Int))
 (hP:E6 S c=vP r 0) (d:ED x s c=some (.go ⟨H,x.turn,x.left- 1,x.z+1⟩))
 (hQ:∀w1,SJ Y B H m e k M (b+1) w1->HN f45 (fun a w=>Q (.exit 1) a w) [qv 0 e,(1,VA),(2,I bu),qv 6 k,(7,N turn),(8,I (left- 1)),(9,I 2000)] w1):
 HW f45 nN Q [qv 0 e,(1,VA),(2,I bu),qv 6 k,(7,N turn),(8,I left),(9,I 2000),qv 10 r] w:=by
 unfold ED at d;split at d
 .cases d
 rename_i s2 l O hL;split at d
 .cases d
 rename_i s3 a3;split at d
 .cases d
 rename_i s4 a2;split at d
 .cases d
 rename_i G a1;obtain rfl:G=H:=by
  have:=Ah d;injection this with this;injection this
 refine Ad ?_;have o6:=h.cell 6 t6 (j:=3) (u:=N b) (by rw[c6];rfl);have q1:b<maxLen:=by unfold maxLen;omega
 have C0:Aj [(ad k 3,N b)] w:= .cons o6 .nil;refine AY [Cu 0 4 [(1,.c 0),(2,.e (N (b+1)))],.one 4]<|E3 [0,1,2,6,7,8,9,10,50,51] [qv 0 e,(1,VA),(2,I bu),qv 6 k,(7,N turn),(8,I left),(9,I 2000),qv 10 r,(50,N (b+1)),(51,vP k 3)] (Bo (vJ (Ec q1 rfl))) C0<|Cz (N (b+1)) o6 (h.free 6 t6 3)<|BG [0,1,2,6,7,8,9,10] ?_;have h1:=h.put 6 t6 3 (N (b+1));rw[c6] at h1;have a5:CI C 6 (37,4,1,[I 0,An,An,N (b+1)]) 6=(37,4,1,[I 0,An,An,N (b+1)]):=AB _ _ _;have a6:CI C 6 (37,4,1,[I 0,An,An,N (b+1)]) 4=F1:=(Au _ _ oD).trans c4;have o:Pf Y m T (CI C 6 (37,4,1,[I 0,An,An,N (b+1)])) p.proof ps:=P.same fun i hi=>⟨rfl,Au _ _ oO⟩
 refine Ae (Ad ?_);have q2:IntKind.i64.wrap (left-(1:Int))=left- 1:=Bb _ (by unfold lim at U R;omega);refine Be [(1,.e (I (left- 1)))] [0,1,2,6,7,8,9,10] [(8,I (left- 1))] (Bo (vJ q2))<|Ae (Ad ?_);have lc:=Wv h1.rep Z hL;rw[hP] at lc;refine AY [AM 0 2,.one 2,AM 3 5]<|AN [0,1,2,6,7,8,9,55,56] [qv 55 e,qv 56 r]<|BW 57 (lc.mono ?_);rintro en w2 ⟨A2,c2,rfl,r2,D,J,L⟩;refine⟨_,rfl,.inl oK,?_⟩;have h2:=h1.gain r2 D 1 J L;refine AN [0,1,2,6,7,8,9,11,12] [(11,sq A2 l c2),(12,N O)]<|AK<|Ae (Ad ?_);have bc:=NY h2.rep Z O a3;refine AY [AM 0 2,.one 2]<|AN [0,1,2,6,7,8,9,11,60,61] [qv 60 e,(61,N O)]<|BW 62 (bc.mono ?_);rintro en w3 ⟨rfl,S3,a0,r3,y⟩;refine⟨_,rfl,.inl oK,?_⟩;have h3:=h2.E r3 y;have q:S3 .E=vS e 1 t:=(a0 .E oS).trans Z;refine BG [0,1,2,6,7,8,9,11]<|Ae (Ad ?_);have kc:=keep_any h3 hB q (kl:=1) (A:=A2) (c:=c2) (AB _ _ _) (AB _ _ _) (o.same (fun i hi=>⟨Au _ _ oO,Au _ _ oO⟩)) oD (by unfold lim;omega) a2;refine AY [AM 0 2,.one 2]<|AN [0,1,2,6,7,8,9,63,64] [qv 63 e,(64,sq A2 l c2)]<|BW 65 (kc.mono ?_);rintro en w4 ⟨rfl,p4,S4,T4,C4,h4,g,n,f⟩;refine⟨_,rfl,.inl oK,?_⟩;have g:S4 .E=vS e 1 t:=g.trans q;have t64:T4 6=vS k 1 1:=(f 6 oD oD oO).1.trans t6;have a4:C4 6=(37,4,1,[I 0,An,An,N (b+1)]):=(f 6 oD oD oO).2.trans a5;refine BG [0,1,2,6,7,8,9]<|Ae (Ad ?_);have fc:=Wp h4.rep g a1;refine AY [AM 0 1,.one 1]<|AN [0,1,2,6,7,8,9,66] [qv 66 e]<|BW 67 (fc.mono ?_);rintro en w5 ⟨rfl,r5,v⟩;refine⟨_,rfl,.inl oK,?_⟩;have h5:=h4.E r5 v;refine BG [0,1,2,6,7,8,9] ?_;exact Ae (BQ (BV (hQ w5 ⟨p4,S4,T4,C4,t,_,h5,g,n,oT,t64,a4,(f 4 oD oD oO).1.trans t4,(f 4 oD oD oO).2.trans a6⟩)))
def nT:Sh:= .seq (.reg 17) (.seq (.reg 18) (.seq (.reg 19) (.seq (.seq (.reg 20) (.cond (.tmp 90) (.seq (.reg 21) (.reg 22)) .skip)) (.exit 1))))
theorem Ua:∀(l:List Int) {s t:St},I8 l s=some t->t.n=s.n
 |[],_,_,h=>by unfold I8 at h;rw[Ah h]
 |x::r,s,t,h=>by
  unfold I8 at h;simp only at h;split at h
  case isFalse=>cases h
  split at h
  .cases h
  split at h
  .split at h
   .cases h
   .split at h
    .rename_i a;have c:=Ua r h;have b:=(Yf _ a).n;exact c.trans b
    .cases h
  .have:=Ua r h;exact this
theorem fG {s t:St} {a:Nat} (h:GD s a=some t):t.n=s.n:=by
 unfold GD at h;split at h
 .rw[Ah h]
 split at h
 .split at h
  .obtain⟨u,b,rfl⟩:=Af.1 h;have:=Ua _ b;exact this
  .cases h
 .cases h
theorem bV {B:Nat} {s j:St} {S:Sl} {l w:World} {p:Px} {T:Nat->Value} {C:Nat->Cn} {e t g v b turn:Nat} {left bu:Int} {ps:List (Int×List Int)} {VA:Value} {Q:EO} [BZ Q]
 (h:Loc B p s noS S l w T C []) (y:S .E=vS e 1 t) (o:Pf Y l T C p.proof ps) (q:ps.length<=v+b) (t6:T 6=vS g 1 1) (L:C 6=(37,4,1,[I 0,An,An,N b]))
 (t4:T 4=An) (M:C 4=F1) (U:s.n<=10) (R:turn<1000000) (d:GD s 0=some j)
 (H:∀k,SJ Y B j l e g v b k->HN f45 (fun a w=>Q (.exit 1) a w) [qv 0 e,(1,VA),(2,I bu),qv 6 g,(7,N (turn+1)),(8,I (32*((FH 64 (turn+1):Nat):Int))),(9,I 2000)] k):
 HW f45 nT Q [qv 0 e,(1,VA),(2,I bu),qv 6 g,(7,N turn),(8,I left),(9,I 2000)] w:=by
 refine Ad ?_;have q1:turn<maxLen:=by unfold maxLen;omega
 refine Be [(1,.e (N (turn+1)))] [0,1,2,6,7,9] [qv 0 e,(1,VA),(2,I bu),qv 6 g,(7,N (turn+1)),(9,I 2000)] (Bo (vJ (Ec q1 rfl)))<|Ae (Ad ?_);have D:=Zp (w:=w) (i:=turn+1) oO oO;refine AY [AM 0 1,.one 1,Cu 2 2 [(2,.e (I (32*((FH 64 (turn+1):Nat):Int))))]]<|AN [0,1,2,6,7,9,72] [(72,N (turn+1))]<|BW 73 (D.mono ?_);rintro J k ⟨rfl,rfl,x⟩;refine⟨_,rfl,.inl oK,?_⟩;have q2:IntKind.i64.wrap ((32:Int)*((FH 64 (turn+1):Nat):Int))=32*((FH 64 (turn+1):Nat):Int):=Bb _ oO;refine G4 [0,1,2,6,7,8,9] [(8,I (32*((FH 64 (turn+1):Nat):Int)))] (Bo (vJ q2))<|AK<|Ae (Ad ?_);have O:=NY h.rep y 0 d;refine AY [AM 0 1,.one 1]<|AN [0,1,2,6,7,8,9,75] [qv 75 e]<|BW 76 (O.mono ?_);rintro J u ⟨rfl,A,r,r3,m⟩;refine⟨_,rfl,.inl oK,?_⟩;have z:=h.E r3 m;have f:A .E=vS e 1 t:=(r .E oS).trans y;have⟨en0,_⟩:=z.rep.engF f;have G:=fG d;have q3:¬(10:Int)<(j.n:Int):=oO;refine BG [0,1,2,6,7,8,9]<|Ae (Ad (Ad ?_));have P:Aj [(ad e 0,N j.n)] u:= .cons en0 .nil;refine BA [(3,.c 0),(4,.F)] [0,1,2,6,7,8,9,90] [(90,bF)] (Bo (Er q3)) P<|Ae (B1 rfl (AZ (Ae (BQ (BV (H u ⟨p,A,T,C,t,ps,z,f,o,q,t6,L,t4,M⟩))))))
theorem XI {B:Nat} {s:St} {S0 S:Sl} {U w:World} {p:Px} {T:Nat->Value} {C:Nat->Cn} {e M b6 turn:Nat} {left bu:Int} {VA:Value} {Q:EO} [BZ Q]
 (h:Loc B p s S0 S U w T C []) (i:S .E=vS e 1 M) (k:s.D.length<lim)
 (hQ:∀S1 R,Loc B p {s with D:=s.D++[s.L.length]} S0 S1 U R T C []->S1 .E=vS e 1 M->HN f45 (fun a w=>Q .normal a w) [qv 0 e,(1,VA),(2,I bu),qv 6 b6,(7,N turn),(8,I left),(9,I 2000),(13,I 0)] R):
 HW f45 (.reg 29) Q [qv 0 e,(1,VA),(2,I bu),qv 6 b6,(7,N turn),(8,I left),(9,I 2000),(13,I 0)] w:=by
 have⟨o,d,G,Z,_,l6,m6⟩:=h.rep.startsE i;have⟨A5,c5,a1,e5,_,l5,m5⟩:=h.rep.trailE i;have⟨_,_,_,_,_,fe,_⟩:=h.rep.engF i;have⟨a0,hi,x⟩:=Af.1 Ek;injection x with x f;injection f with f v;have l:=h.drew;have b:=l.rep.part .D;unfold Ba at b;simp only[cont] at b;have⟨n,m,q,Y,y,g,A⟩:=GH (P:=prog) w.drew B 25 25 3 u25 hi x f v rfl b 3 (u:=N s.L.length) rfl (by unfold lim at k;unfold maxLen;omega) (by unfold lim at k;omega) l.rep.base;have⟨h5,t⟩:=l.rep.pushStarts i s.L.length (.slice n (s.D.length+1) m) q y g A;have h6:=l.E h5 t;rw[G] at Y;have j:some e≠(S .D).ownBlock:=fun hh=>h.rep.apart .E .D e oS (by rw[i];rfl) hh.symm
 have J:q.cell? (ad e 6)=some (sq o s.D d):=g.cell Z j;have H:q.frozen? (ad e 6)=false:=(CT (g.block e (h.rep.lo (r:= .E) (by rw[i];rfl)).2 j)).trans (fe 6);have z:Dq S .D (.slice n (s.D.length+1) m) .E=vS e 1 M:=(CE _ _ oS).trans i;have C0:Aj [(ad e 6,sq o s.D d),(ad e 5,sq A5 s.L c5)] w.drew:= .cons Z (.cons e5 .nil);refine Qm [11,14] (Gi [(4,.c 0),(8,.c 1)] 1 9) [.ps [(0,.p)],.one 10,.one 11,.ps [(12,.p),(13,.p)],.one 14] [0,1,2,6,7,8,9,13,131,136] [qv 0 e,(1,VA),(2,I bu),qv 6 b6,(7,N turn),(8,I left),(9,I 2000),(13,I 0),(131,sq o s.D d),(136,N s.L.length)] C0<|Fh (O:=[]) [0,1,2,6,7,8,9,13,127,131,136] [qv 127 e] trivial<|Fa 137 25 3 (N s.L.length) (.int .i64 0) oK oK oK oK oK oK (.inr rfl) rfl (.inr (fun hS=>Aj.alloc hS _))<|DY 138 25 25 (sq o s.D d) (vS w.drew.heap.size 1 1) oK oK oK oK Y (.inl oK)<|Fh (O:=[]) [0,1,2,6,7,8,9,13,138,140] [(138,.slice n (s.D.length+1) m),(140,vP e 6)] trivial<|Cz (.slice n (s.D.length+1) m) J H<|BG [0,1,2,6,7,8,9,13]<|BV (hQ _ _ h6 z)
theorem XJ {B:Nat} {s:St} {S0 S:Sl} {Y w:World} {p:Px} {T:Nat->Value} {C:Nat->Cn} {e R b6 turn:Nat} {left bu x:Int} {VA:Value} {Q:EO} [BZ Q]
 (h:Loc B p s S0 S Y w T C []) (i:S .E=vS e 1 R) (k:s.D.length<lim)
 (hQ:∀S1 U,Loc B p {s with D:=s.D++[s.L.length]} S0 S1 Y U T C []->S1 .E=vS e 1 R->HN f45 (fun a w=>Q .normal a w) [qv 0 e,(1,VA),(2,I bu),qv 6 b6,(7,N turn),(8,I left),(9,I 2000),(13,I x)] U):
 HW f45 (.reg 49) Q [qv 0 e,(1,VA),(2,I bu),qv 6 b6,(7,N turn),(8,I left),(9,I 2000),(13,I x)] w:=by
 have⟨o,d,H,e6,_,l6,m6⟩:=h.rep.startsE i;have⟨A5,c5,a1,e5,_,l5,m5⟩:=h.rep.trailE i;have⟨_,_,_,_,_,fe,_⟩:=h.rep.engF i;have⟨a0,hi,y⟩:=Af.1 Ek;injection y with y f;injection f with f v;have l:=h.drew;have b:=l.rep.part .D;unfold Ba at b;simp only[cont] at b;have⟨n,m,q,Z,z,g,G⟩:=GH (P:=prog) w.drew B 25 25 3 u25 hi y f v rfl b 3 (u:=N s.L.length) rfl (by unfold lim at k;unfold maxLen;omega) (by unfold lim at k;omega) l.rep.base;have⟨h5,t⟩:=l.rep.pushStarts i s.L.length (.slice n (s.D.length+1) m) q z g G;have h6:=l.E h5 t;rw[H] at Z;have j:some e≠(S .D).ownBlock:=fun hh=>h.rep.apart .E .D e oS (by rw[i];rfl) hh.symm
 have M:q.cell? (ad e 6)=some (sq o s.D d):=g.cell e6 j;have J:q.frozen? (ad e 6)=false:=(CT (g.block e (h.rep.lo (r:= .E) (by rw[i];rfl)).2 j)).trans (fe 6);have A:Dq S .D (.slice n (s.D.length+1) m) .E=vS e 1 R:=(CE _ _ oS).trans i;have C0:Aj [(ad e 6,sq o s.D d),(ad e 5,sq A5 s.L c5)] w.drew:= .cons e6 (.cons e5 .nil);refine Qm [11,14] (Gi [(4,.c 0),(8,.c 1)] 1 9) [.ps [(0,.p)],.one 10,.one 11,.ps [(12,.p),(13,.p)],.one 14] [0,1,2,6,7,8,9,13,217,222] [qv 0 e,(1,VA),(2,I bu),qv 6 b6,(7,N turn),(8,I left),(9,I 2000),(13,I x),(217,sq o s.D d),(222,N s.L.length)] C0<|Fh (O:=[]) [0,1,2,6,7,8,9,13,213,217,222] [qv 213 e] trivial<|Fa 223 25 3 (N s.L.length) (.int .i64 0) oK oK oK oK oK oK (.inr rfl) rfl (.inr (fun hS=>Aj.alloc hS _))<|DY 224 25 25 (sq o s.D d) (vS w.drew.heap.size 1 1) oK oK oK oK Z (.inl oK)<|Fh (O:=[]) [0,1,2,6,7,8,9,13,224,226] [(224,.slice n (s.D.length+1) m),(226,vP e 6)] trivial<|Cz (.slice n (s.D.length+1) m) M J<|BG [0,1,2,6,7,8,9,13]<|BV (hQ _ _ h6 A)
section
variable{B e g c f b:Nat} {s:St} {S:Sl} {d w:World} {p:Px} {T:Nat->Value} {C:Nat->Cn} {ps:List (Int×List Int)} {asm:List Int} {Q:EO}
theorem mL [BZ Q]
 (h:Loc B p s noS S d w T C []) (x:S .E=vS e 1 g) (m:Pf Y d T C p.proof ps) (n:ps.length<=f+b) (t6:T 6=vS c 1 1) {k:Int} {j i:Value} {cs:List Int} (l:C 6=(37,4,1,[I k,j,i,N b])) (r:j.oneCell'=true) (t:i.oneCell'=true) (t4:T 4=i) (A:C 4=(3,1,cs.length,cs.map I)) (o:cs.Sublist asm)
 (y:∀q,SF Y B s d e c f asm k b q->HN f45 (fun a w=>Q .ret a w) [qv 6 c] q):
 HW f45 (.seq (.reg 6) .ret) Q [qv 6 c] w:=by
 refine Ad ?_;have v:=h.range 6 t6 0 [I k,j,i,N b] (by rw[l];rfl);have z:=h.there 6 t6 0 4 (by rw[l];exact Ai 4);have u:=Loc.putN 6 t6 [I k,j,i,N b] 0 h;rw[l,show EQ (37,4,1,[I k,j,i,N b]).2.2.2 0 [I k,j,i,N b]=[I k,j,i,N b] from rfl,<-l,EZ] at u;refine AY [.one 0,.one 1]<|MX (cs:=[I k,j,i,N b]) 41 37 v (.inr id)<|De 37 [I k,j,i,N b] (by simp only[BS,r,t];rfl) z<|BG [6]<|Ae (Br (y _ ⟨p,S,T,C,g,ps,j,i,cs,u,x,m,n,t6,l,r,t,t4,A,o⟩))
theorem mM [BZ Q]
 (h:Loc B p s noS S d w T C []) (x:S .E=vS e 1 g) (m:Pf Y d T C p.proof ps) (n:ps.length<=f+b) (t6:T 6=vS c 1 1) {k:Int} {j i:Value} {cs:List Int} (l:C 6=(37,4,1,[I k,j,i,N b])) (r:j.oneCell'=true) (t:i.oneCell'=true) (t4:T 4=i) (A:C 4=(3,1,cs.length,cs.map I)) (o:cs.Sublist asm)
 (y:∀q,SF Y B s d e c f asm k b q->HN f45 (fun a w=>Q .ret a w) [qv 6 c] q):
 HW f45 (.seq (.reg 9) .ret) Q [qv 6 c] w:=by
 refine Ad ?_;have v:=h.range 6 t6 0 [I k,j,i,N b] (by rw[l];rfl);have z:=h.there 6 t6 0 4 (by rw[l];exact Ai 4);have u:=Loc.putN 6 t6 [I k,j,i,N b] 0 h;rw[l,show EQ (37,4,1,[I k,j,i,N b]).2.2.2 0 [I k,j,i,N b]=[I k,j,i,N b] from rfl,<-l,EZ] at u;refine AY [.one 0,.one 1]<|MX (cs:=[I k,j,i,N b]) 47 37 v (.inr id)<|De 37 [I k,j,i,N b] (by simp only[BS,r,t];rfl) z<|BG [6]<|Ae (Br (y _ ⟨p,S,T,C,g,ps,j,i,cs,u,x,m,n,t6,l,r,t,t4,A,o⟩))
theorem jE [BZ Q]
 (h:Loc B p s noS S d w T C []) (x:S .E=vS e 1 g) (m:Pf Y d T C p.proof ps) (n:ps.length<=f+b) (t6:T 6=vS c 1 1) {k:Int} {j i:Value} {cs:List Int} (l:C 6=(37,4,1,[I k,j,i,N b])) (r:j.oneCell'=true) (t:i.oneCell'=true) (t4:T 4=i) (A:C 4=(3,1,cs.length,cs.map I)) (o:cs.Sublist asm)
 (y:∀q,SF Y B s d e c f asm k b q->HN f45 (fun a w=>Q .ret a w) [qv 6 c] q):
 HW f45 (.seq (.reg 34) .ret) Q [qv 6 c] w:=by
 refine Ad ?_;have v:=h.range 6 t6 0 [I k,j,i,N b] (by rw[l];rfl);have z:=h.there 6 t6 0 4 (by rw[l];exact Ai 4);have u:=Loc.putN 6 t6 [I k,j,i,N b] 0 h;rw[l,show EQ (37,4,1,[I k,j,i,N b]).2.2.2 0 [I k,j,i,N b]=[I k,j,i,N b] from rfl,<-l,EZ] at u;refine AY [.one 0,.one 1]<|MX (cs:=[I k,j,i,N b]) 152 37 v (.inr id)<|De 37 [I k,j,i,N b] (by simp only[BS,r,t];rfl) z<|BG [6]<|Ae (Br (y _ ⟨p,S,T,C,g,ps,j,i,cs,u,x,m,n,t6,l,r,t,t4,A,o⟩))
theorem jF [BZ Q]
 (h:Loc B p s noS S d w T C []) (x:S .E=vS e 1 g) (m:Pf Y d T C p.proof ps) (n:ps.length<=f+b) (t6:T 6=vS c 1 1) {k:Int} {j i:Value} {cs:List Int} (l:C 6=(37,4,1,[I k,j,i,N b])) (r:j.oneCell'=true) (t:i.oneCell'=true) (t4:T 4=i) (A:C 4=(3,1,cs.length,cs.map I)) (o:cs.Sublist asm)
 (y:∀q,SF Y B s d e c f asm k b q->HN f45 (fun a w=>Q .ret a w) [qv 6 c] q):
 HW f45 (.seq (.reg 48) .ret) Q [qv 6 c] w:=by
 refine Ad ?_;have v:=h.range 6 t6 0 [I k,j,i,N b] (by rw[l];rfl);have z:=h.there 6 t6 0 4 (by rw[l];exact Ai 4);have u:=Loc.putN 6 t6 [I k,j,i,N b] 0 h;rw[l,show EQ (37,4,1,[I k,j,i,N b]).2.2.2 0 [I k,j,i,N b]=[I k,j,i,N b] from rfl,<-l,EZ] at u;refine AY [.one 0,.one 1]<|MX (cs:=[I k,j,i,N b]) 212 37 v (.inr id)<|De 37 [I k,j,i,N b] (by simp only[BS,r,t];rfl) z<|BG [6]<|Ae (Br (y _ ⟨p,S,T,C,g,ps,j,i,cs,u,x,m,n,t6,l,r,t,t4,A,o⟩))
theorem eu [BZ Q]
 (h:Loc B p s noS S d w T C []) (r:S .E=vS e 1 g) (k:Pf Y d T C p.proof ps) (l:ps.length<=f+b) (t6:T 6=vS c 1 1) (q:C 6=(37,4,1,[I 0,An,An,N b])) (t4:T 4=An) (v:C 4=F1)
 (t:∀m,SF Y B s d e c f asm 2 b m->HN f45 (fun a w=>Q .ret a w) [qv 6 c] m):
 HW f45 (.seq (.reg 5) (.seq (.reg 6) .ret)) Q [qv 6 c] w:=by
 refine Ad ?_;have n:=h.cell 6 t6 (j:=0) (u:=I 0) (by rw[q];rfl);have x:Aj [(ad c 0,I 0)] w:= .cons n .nil;refine AY [AM 0 1,.one 1]<|DO [6,40] [qv 6 c,qv 40 c] x<|Cz (I 2) n (h.free 6 t6 0)<|BG [6] ?_;have o:=h.put 6 t6 0 (I 2);rw[q] at o;exact Ae (mL (asm:=asm) (cs:=[]) o r (k.same fun i y=>⟨rfl,Au _ _ oO⟩) l t6 (AB _ _ _) rfl rfl t4 ((Au _ _ oD).trans v) (List.nil_sublist _) t)
theorem mN [BZ Q]
 (h:Loc B p s noS S d w T C []) (r:S .E=vS e 1 g) (k:Pf Y d T C p.proof ps) (l:ps.length<=f+b) (t6:T 6=vS c 1 1) (q:C 6=(37,4,1,[I 0,An,An,N b])) (t4:T 4=An) (v:C 4=F1)
 (t:∀m,SF Y B s d e c f asm 3 b m->HN f45 (fun a w=>Q .ret a w) [qv 6 c] m):
 HW f45 (.seq (.reg 8) (.seq (.reg 9) .ret)) Q [qv 6 c] w:=by
 refine Ad ?_;have n:=h.cell 6 t6 (j:=0) (u:=I 0) (by rw[q];rfl);have x:Aj [(ad c 0,I 0)] w:= .cons n .nil;refine AY [AM 0 1,.one 1]<|DO [6,46] [qv 6 c,qv 46 c] x<|Cz (I 3) n (h.free 6 t6 0)<|BG [6] ?_;have o:=h.put 6 t6 0 (I 3);rw[q] at o;exact Ae (mM (asm:=asm) (cs:=[]) o r (k.same fun i y=>⟨rfl,Au _ _ oO⟩) l t6 (AB _ _ _) rfl rfl t4 ((Au _ _ oD).trans v) (List.nil_sublist _) t)
end
def cF:Sh:= .seq (.reg 0) (.seq (.reg 1) .ret)
theorem WZ:f112.body=some (cF.code f112):=oK
variable{w:World}
theorem U1 {x:Int} {b n:Nat} {V:Value} {a:List Int} (g:w.cell? (ad b 0)=some V) (i:Dj w V 1 n (a.map I)) (j:n<=maxLen):
 Cg 112 #[I x,vP b 0] w fun h d=>h= .returned (.bool (!decide (x∈a)))/\w=d:=by
 refine CN WZ<|Ad<|B8 [] [0,1,3] [(3,bF)]<|Ae (Ad ?_);have k:Aj [(ad b 0,V)] w:= .cons g .nil;refine BA (O:=[(∀d,CR none w d->Cg 51 #[V,I x] d fun h f=>h=Ending.returned (.bool (decide (x∈a)))/\d=f)]) [(0,.c 0),(2,.q (.bool (decide (x∈a))))] [0,1,3] [(3,.bool (!(decide (x∈a))))] ⟨(fun d e=>e▸V6 i j x),trivial⟩ k<|Ae (Br (Bu rfl (v:= .bool (!(decide (x∈a)))) rfl ⟨rfl,rfl⟩))
def gN:Sh:= .seq (.reg 0) (.seq (.reg 1) .ret)
theorem Zz:f50.body=some (gN.code f50):=oK
theorem Xa {x:Int} {b n:Nat} {V:Value} {a:List Int} (g:w.cell? (ad b 0)=some V) (i:Dj w V 1 n (a.map I)) (j:n<=maxLen):
 Cg 50 #[I x,vP b 0] w fun h d=>h= .returned (.bool (!decide (x∈a)))/\w=d:=by
 refine CN Zz<|Ad<|B8 [] [0,1,3] [(3,bF)]<|Ae (Ad ?_);have k:Aj [(ad b 0,V)] w:= .cons g .nil;refine BA (O:=[(∀d,CR none w d->Cg 51 #[V,I x] d fun h f=>h=Ending.returned (.bool (decide (x∈a)))/\d=f)]) [(0,.c 0),(2,.q (.bool (decide (x∈a))))] [0,1,3] [(3,.bool (!(decide (x∈a))))] ⟨(fun d e=>e▸V6 i j x),trivial⟩ k<|Ae (Br (Bu rfl (v:= .bool (!(decide (x∈a)))) rfl ⟨rfl,rfl⟩))
theorem Z0 {B:Nat} {s:St} {S:Sl} {M:World} {p:Px} {T:Nat->Value} {C:Nat->Cn} {e c0 m n0 d:Nat} {ps:List (Int×List Int)} {l:List Int} {Q:EO} [BZ Q]
 (h:Loc B p s noS S M w T C []) (he:S .E=vS e 1 c0) (b0:Pf Y M T C p.proof ps) (b1:ps.length<=n0+d) (t6:T 6=vS m 1 1) {x:Int} {VA:Value} (a9:Dj M VA 1 l.length (l.map I)) (b8:l.length<=lim) (hx:x∈l) (J:Kw s x=true) (c6:C 6=(37,4,1,[I 0,An,An,N d]))
 (hQ:∀O,SF Y B s M e m n0 l 2 d O->HN f45 (fun a w=>Q .ret a w) [qv 6 m] O):
 HW f45 (.seq (.reg 31) (.seq (.reg 32) (.seq (.reg 33) (.seq (.reg 34) .ret)))) Q [qv 0 e,(1,VA),qv 6 m,(14,I x)] w:=by
 refine Ad ?_;have cc:=Y4 h.rep he J;refine AY [AM 0 2,.one 2,.one 3,.one 4]<|AN [0,1,6,14,143,144] [qv 0 e,(1,VA),qv 6 m,(14,I x),qv 143 e,(144,I x)]<|BW 145 (cc.mono ?_);rintro en O ⟨f,y,cl,rfl,r1,a1,a4,a5,_,c7⟩;refine⟨_,rfl,.inl oK,?_⟩;have h1:=(h.gain r1 a1 2 a4 a5).new 3 25 An;refine FX 15 25 (An) oK oK oK oK (.inl oK) ?_;have o3:=h1.cell 3 (AB _ _ _) (j:=0) (u:=An) (by rw[AB];rfl);have f3:=h1.free 3 (AB _ _ _) 0;have H:=h1.put 3 (AB _ _ _) 0 (.slice y f.length cl);rw[AB,GG] at H;simp only[B3] at H;refine Cz (.slice y f.length cl) o3 f3<|BG [0,1,6,14,15] ?_;generalize b7:O.heap.size=v at H⊢;generalize((O.alloc (.cells #[An] 25)).setCell (ad v 0) (.slice y f.length cl))=w2 at H⊢;clear h1 o3 f3 b7;obtain⟨T2,o⟩:∃X,X=CI (CI T 2 (.slice y f.length cl)) 3 (vS v 1 1):=⟨_,rfl⟩;obtain⟨C2,t⟩:∃X,X=CI (CI C 2 (3,1,f.length,f.map I)) 3 (25,1,1,[.slice y f.length cl]):=⟨_,rfl⟩;rw[<-o,<-t] at H;have t62:T2 6=vS m 1 1:=by rw[o];exact t6
 have a0:C2 6=(37,4,1,[I 0,An,An,N d]):=by rw[t];exact c6
 have t22:T2 2= .slice y f.length cl:=by rw[o];rfl
 have c3:C2 2=(3,1,f.length,f.map I):=by rw[t];rfl
 have t32:T2 3=vS v 1 1:=by rw[o];rfl
 have c2:C2 3=(25,1,1,[.slice y f.length cl]):=by rw[t];rfl
 have R:Pf Y M T2 C2 p.proof ps:=b0.same fun i hi=>by
  rw[o,t,Au _ _ oO,Au _ _ oO,Au _ _ oO,Au _ _ oO];exact⟨rfl,rfl⟩
 refine Ae (Ad ?_);have o6:=H.cell 6 t62 (j:=0) (u:=I 0) (by rw[a0];rfl);have c5:Aj [(ad m 0,I 0)] w2:= .cons o6 .nil;refine AY [AM 0 1,.one 1]<|DO [0,1,6,14,15,146] [qv 15 v,qv 146 m] c5<|Cz (I 2) o6 (H.free 6 t62 0)<|BG [0,1,6,14,15] ?_;have A:=H.put 6 t62 0 (I 2);rw[a0] at A;simp only[B3] at A;obtain⟨C3,q⟩:∃X,X=CI C2 6 (37,4,1,[I 2,An,An,N d]):=⟨_,rfl⟩;rw[<-q] at A;have Z:C3 6=(37,4,1,[I 2,An,An,N d]):=by rw[q];rfl
 have L:C3 2=(3,1,f.length,f.map I):=by rw[q];exact c3
 have c1:C3 3=(25,1,1,[.slice y f.length cl]):=by rw[q];exact c2
 have P:Pf Y M T2 C3 p.proof ps:=R.same fun i hi=>by rw[q,Au _ _ oO];exact⟨rfl,rfl⟩
 refine Ae (Ad ?_);have kc:=KR (a9.below A.bel) b8;refine AY [AM 0 1,.one 1,AM 2 1,.one 3,AM 4 1,.one 5]<|AN [0,1,6,14,15,147] [(147,VA)]<|BW 148 (kc.mono ?_);rintro en w4 ⟨V4,rfl,z,b4⟩;refine⟨_,rfl,.inl oK,?_⟩;have G:=A.gain (A.rep.still b4).1 (A.rep.still b4).2 4 z (fun b U r hr=>by
  have:=(Ax z b U).1;have:=(A.rep.lo hr).2;omega)
 obtain⟨D,c4,rfl⟩:∃g c,V4=vS g l.length c:=by
  have⟨g,c,hv,_⟩:=G.formSome 4 (by rw[AB];exact List.length_pos_of_mem hx);exact⟨g,c,hv⟩
 refine AN [0,1,6,14,15,148,149] [(148,vS D l.length c4),(149,.func (.func 112) #[] #[vP v 0])] ?_;have n3:v≠D:=fun e=>G.apart 3 4 v oD (by rw[Au _ _ oD,t32];rfl) (by rw[AB,e];rfl)
 have n2:(Value.slice y f.length cl).ownBlock≠some D:=fun e=>G.apart 2 4 D oD (by rw[Au _ _ oD,t22];exact e) (by rw[AB];rfl)
 have a7:=G.cell 3 (g:=v) (n:=1) (c:=1) (by rw[Au _ _ oD];exact t32) (j:=0) (u:= .slice y f.length cl) (by rw[Au _ _ oD,c1];rfl);have a8:v<w4.heap.size:=(G.lo (k:=3) (by rw[Au _ _ oD,t32];rfl)).2;have a2:Dj w4 (.slice y f.length cl) 1 f.length (f.map I):=by
  have:=G.part 2;rw[Au _ _ oD,Au _ _ oD,t22,L] at this;exact this.rd
 have b2:f.length<=maxLen:=by
  rcases D6 f.length with e|e
  .rw[e];decide
  .have⟨_,c9,_,_,g1,g2⟩:=G.formSome 2 (by rw[Au _ _ oD,L];exact e);rw[Au _ _ oD,L] at g1;exact Bj g1 g2
 have dc:=Ov (w:=w4) z (fun x=>!decide (x∈f)) 112 #[vP v 0] (enters_of func112 oK rfl) (fun W hW x=>U1 ((hW.2 v 0 a8 n3).trans a7) (a2.oth hW n2) b2);refine BW 150 (dc.mono ?_);generalize b5:(l.filter fun x=>!!decide (x∈f))=cs;rintro en w5 ⟨rfl,a3,b9⟩;refine⟨_,rfl,.inl oK,?_⟩;have h5:=G.turn 4 (a3.mono fun b U=>⟨Bj A.st.size (by rw[show b=D from(Ah U).symm];exact(Ax z D rfl).1),rfl⟩) (by rw[AB];exact b9) (fun b U=> .inl (by rw[AB];exact U));rw[GG,GG] at h5;have a6:=h5.cell 6 (g:=m) (n:=1) (c:=1) (by rw[Au _ _ oD];exact t62) (j:=2) (u:=An) (by rw[Au _ _ oD,Z];rfl);have f65:=h5.free 6 (g:=m) (n:=1) (c:=1) (by rw[Au _ _ oD];exact t62) 2;refine AN [0,1,6,14,15,150,151] [(150,vS D cs.length c4),(151,vP m 2)]<|Cz (vS D cs.length c4) a6 f65<|BG [0,1,6,14,15] ?_;have h6:=h5.put 6 (g:=m) (n:=1) (c:=1) (by rw[Au _ _ oD];exact t62) 2 (vS D cs.length c4);rw[Au (k:=4) (i:=6) _ _ oD,Z] at h6;simp only[B9,B3] at h6;refine BV (Ae (jE (asm:=l) (cs:=cs) h6 he ((P.same fun i hi=>?_)) b1 ((Au _ _ oD).trans t62) (AB _ _ _) rfl rfl (AB _ _ _) ((Au _ _ oD).trans (AB _ _ _)) ?_ hQ))
 .rw[Au _ _ oO,Au _ _ oO,Au _ _ oO];exact⟨rfl,rfl⟩
 .rw[<-b5];exact List.filter_sublist
section
def mkV (L:Sts) (d:Op):Option (Nat×Value×Value):=
 match d with
 | .makeSlice t l c=>match ev L l,ev L c with
  |some u,some v=>some (t,u,v)
  |_,_=>none
 |_=>none
variable{t:Nat}
theorem Hy {P:Program} {x:Nat} {D:List Deferred} {L:Sts} {a:Act} (h:Has x D L a) {o:Oper} {u v g:Value} {w e:World} (c:mkV L o.op=some (t,u,v)) (m:(Instr.makeSlice t u v).run P w= .ok g e):(execOp a.eval o).run P w= .ok (.value g) e:=by
 have⟨s,y,i,j,d,guard⟩:=o;unfold mkV at c;simp only at c;split at c
 case h_2=>cases c
 split at c
 case h_2=>cases c
 rename_i l k;injection c with c;injection c with q c;injection c with p n;subst q p n;simp only[execOp,h.val l,h.val k,Ay,m,Am,AJ]
section
variable{z:Option Nat} {D:List Deferred} {f:Func} {r:Nat} {Q:EO} {S:Option (World->Prop)} {a:List Nat} {b:List Stp} {L L':Sts} {w:World}
theorem VP {i:Nat} (d t:Nat) (n:Nat) {c:World} (j:DD (Bt f r) L (B5 (Bt f r) i)=some true) (m:(B5 (Bt f r) i).dst=some d) (e:Nat.blt d f.ntmps=true) (l:mkV L (B5 (Bt f r) i).op=some (t,N n,N n))
  (k:(Instr.makeSlice t (N n) (N n)).run prog w= .ok (vS w.heap.size n n) c) (o:a.contains i=true∨(CR S w w->CR S w c)) (h:Es z D f r Q S a b ((d,vS w.heap.size n n)::L) c):Es z D f r Q S a (.one i::b) L w:=
 EB j fun _ g=>D8 (Hy g l k) ⟨o,by rw[m];exact h _ (g.put (Bn e) _)⟩
end
theorem FM (w:World) {e g:Nat} {z:Value} (o:prog.underlying t=some (.slice e)) (q:(prog.info? e).map (fun i=>(i.zero,i.size,i.bytes))=some (some z,1,g)) (m:z.cells=#[z]) {n:Nat} (h:n<=lim) (j:g<=128):
  ∃c,(Instr.makeSlice t (N n) (N n)).run prog w= .ok (vS w.heap.size n n) c/\Ba w.heap.size c (vS w.heap.size n n) (e,1,n,List.replicate n z)/\Bl w c:=by
 have⟨d,v,l⟩:=Af.1 q;injection l with l k;injection k with k u;have s:d.bytes*n<=281474976710656:=by
  rw[u];unfold lim at h;exact Bj (Nat.mul_le_mul j h) oD
 have⟨c,p,r1,r2⟩:=run_make_full w w.heap.size t e d z 1 o v l k .i64 .i64 n s (by unfold lim at h;unfold maxLen;omega) (Ai _);refine⟨c,p,?_,⟨r2.os,r2.tape,r2.output,r2.size,fun b j=>r2.block b j (fun e=>by cases e)⟩⟩;have x:(madeCells z.cells (n*1)).toList=List.replicate n z:=by
  rw[m];unfold madeCells;apply List.ext_getElem
  .simp
  .grind
 rw[x] at r1;exact r1
def Yl (L:Sts) (c:Op):Option (Nat×Value×Value):=
 match c with
 | .buildSlice t 2 ps=>match ps.toList with
  |[(0,x),(1,y)]=>match ev L x,ev L y with
   |some u,some v=>some (t,u,v)
   |_,_=>none
  |_=>none
 |_=>none
theorem set2 {A:Array Value} {u v:Value} (h:A.size=2):(A.setIfInBounds 0 u).setIfInBounds 1 v=#[u,v]:=by
 apply Fw;intro i;rw[Dy,Dy]
 match i with
 |0=>simp[h]
 |1=>simp[h]
 |i+2=>simp[h]
theorem bB {M:Nat} {D:List Deferred} {L:Sts} {a:Act} (h:Has M D L a) {o:Oper} {x y:Int} {w:World} (c:Yl L o.op=some (t,I x,I y)) (u:prog.underlying t=some (.slice 3)):
  (execOp a.eval o).run prog w= .ok (.value (vS w.heap.size 2 2)) (w.alloc (.cells #[I x,I y] 3)):=by
 have⟨J,O,k,n,j,guard⟩:=o;have⟨i,B,e⟩:=Af.1 Ek;injection e with e d;injection d with v p;unfold Yl at c;simp only at c;split at c
 case h_2=>cases c
 rename_i t1 ps;split at c
 case h_2=>cases c
 rename_i m l g;split at c
 case h_2=>cases c
 rename_i s q;injection c with c;injection c with H c;injection c with G C;subst H G C;have A:ps=#[(0,m),(1,l)]:=by
  apply Ch;simpa using g
 subst A;simp only[execOp,E4,BI,D4,h.val s,h.val q];simp[Instr.buildSlice,run_underlying u,sizeOf,typeInfo,B,v,zeroValue,e,Instr.fill,newRow,go_sem,set2]
theorem Ra {z:Option Nat} {D:List Deferred} {f:Func} {r:Nat} {Q:EO} {S:Option (World->Prop)} {a:List Nat} {b:List Stp} {L:Sts} {w:World} {i:Nat} (d t:Nat) (x y:Int) (g:DD (Bt f r) L (B5 (Bt f r) i)=some true) (l:(B5 (Bt f r) i).dst=some d) (c:Nat.blt d f.ntmps=true)
  (k:Yl L (B5 (Bt f r) i).op=some (t,I x,I y)) (j:prog.underlying t=some (.slice 3)) (m:a.contains i=true∨(CR S w w->CR S w (w.alloc (.cells #[I x,I y] 3)))) (h:Es z D f r Q S a b ((d,vS w.heap.size 2 2)::L) (w.alloc (.cells #[I x,I y] 3))):Es z D f r Q S a (.one i::b) L w:=
 EB g fun _ e=>D8 (bB e k j) ⟨m,by rw[l];exact h _ (e.put (Bn c) _)⟩
end
section
abbrev Dn:=Nat->Option Value
def P2 (c:Dn) (m:Nat) (v:Value):Dn:=fun i=>if i=m then some v else c i
theorem FL (c:Dn) (m:Nat) (v:Value):P2 c m v m=some v:=if_pos rfl
theorem Fk (c:Dn) {m i:Nat} (v:Value) (h:i≠m):P2 c m v i=c i:=if_neg h
def MZ (e:Array Bool) (c:Dn):Array Bool:=e.mapIdx fun i b=>b||(c i).isSome
theorem KY (e:Array Bool) (c:Dn) (i:Nat):(MZ e c)[i]?=(e[i]?).map fun b=>b||(c i).isSome:=by unfold MZ;rw[Im]
theorem au (k:Array Bool) (c:Dn) (i:Nat) (v:Value):MZ k (P2 c i v)=(MZ k c).setIfInBounds i true:=by
 apply Fw;intro j;rw[Dy,KY,KY];by_cases e:i=j
 .subst e;rw[if_pos rfl,FL];have l:(MZ k c).size=k.size:=by simp[MZ]
  by_cases m:i<k.size
  .grind
  .grind
 .rw[if_neg e,Fk _ _ (fun h=>e h.symm)]
theorem NG {l:Array Bool} {i:Nat} (h:l.getD i true=false):l.getD i false=false/\i<l.size:=by
 rw[AS] at h⊢
 cases e:l[i]? with
 |none=>rw[e] at h;cases h
 |some b=>grind
def RO (g:Region.Mode) (b:Array Oper) (h:Array Bool):List Nat->List (Nat×Option Nat)->Bool
 |_,[]=>true
 |pre,m::r=>((B5 b m.1).after.toList.all fun e=>!Region.binds g e||h.getD e.on false||pre.contains e.on)&&RO g b h (m.1::pre) r
def av (g:Region.Mode) (b:Array Oper) (h:Array Bool) (M:List (Nat×Option Nat)):Bool:=
 (M.all fun m=>(b[m.1]?).isSome&&!(h.getD m.1 true)&&(B5 b m.1).guard.isNone&&(B5 b m.1).dst==m.2)&&
 ((List.range b.size).all fun j=>h.getD j true||(M.any fun m=>Nat.beq m.1 j)||(M.all fun m=>(B5 b j).after.toList.any fun e=>Region.binds g e&&Nat.beq e.on m.1)||
  ((B5 b j).after.toList.any fun e=>Region.binds g e&&!(h.getD e.on false)&&!(M.any fun m=>Nat.beq m.1 e.on)))&&RO g b h [] M
def KB (c:Dn):List (Nat×Option Nat)->Nat
 |[]=>0
 |m::r=>(if(c m.1).isSome then 0 else 1)+KB c r
theorem cnt_le (c:Dn) (i:Nat) (v:Value):∀M,KB (P2 c i v) M<=KB c M
 |[]=>Ai _
 |m::r=>by
  have:=cnt_le c i v r;unfold KB;by_cases e:m.1=i
  .rw[e,FL];simp;omega
  .rw[Fk _ _ e];omega
theorem cnt_lt (c:Dn) {i:Nat} (v:Value) (h:c i=none):∀M,(∃m∈M,m.1=i)->KB (P2 c i v) M<KB c M
 |[],⟨_,hm,_⟩=>by cases hm
 |m::r,⟨x,hx,he⟩=>by
  unfold KB;by_cases e:m.1=i
  .have:=cnt_le c i v r;rw[e,FL,h];simp;omega
  .rw[Fk _ _ e];have:=cnt_lt c v h r ⟨x,(Az.1 hx).resolve_left (fun j=>e (by rw[<-j];exact he)),he⟩;omega
theorem NH {c:Dn}:∀{M:List (Nat×Option Nat)},KB c M=0->∀m∈M,(c m.1).isSome=true
 |[],_,_,e=>by cases e
 |x::r,h,m,e=>by
  unfold KB at h;rcases Az.1 e with rfl|e
  .grind
  .exact NH oO m e
theorem KZ {c:Dn}:∀{M:List (Nat×Option Nat)},0<KB c M->∃j m k,M=j++m::k/\c m.1=none/\∀x∈j,(c x.1).isSome=true
 |[],h=>by cases h
 |x::r,h=>by
  cases o:c x.1 with
  |none=>exact⟨[],x,r,rfl,o,fun y l=>by cases l⟩
  |some v=>
   have t:0<KB c r:=by unfold KB at h;rw[o] at h;simpa using h
   have⟨j,m,k,e,q,p⟩:=KZ t;refine⟨x::j,m,k,by rw[e];rfl,q,fun y l=>?_⟩;rcases Az.1 l with rfl|l
   .rw[o];rfl
   .exact p y l
theorem Vd {g:Region.Mode} {b:Array Oper} {p:Array Bool} {m:Nat×Option Nat} {o:List (Nat×Option Nat)}:∀(k:List (Nat×Option Nat)) (j:List Nat),RO g b p j (k++m::o)=true->∀e∈(B5 b m.1).after,Region.binds g e=true->p.getD e.on false=true∨e.on∈j∨∃x∈k,x.1=e.on
 |[],j,h,e,he,hb=>by
  simp only[Jx,RO,AE] at h;have:=Bi.1 h.1 e (by simpa using he);rw[hb] at this;simp only[Bool.not_true,Bool.false_or,Cv,List.contains_eq_mem,decide_eq_true_eq] at this;rcases this with l|l
  .exact .inl l
  .exact .inr (.inl l)
 |x::k,j,h,e,he,hb=>by
  simp only[DA,RO,AE] at h;rcases Vd k (x.1::j) h.2 e he hb with l|l|⟨y,q,l⟩
  .exact .inl l
  .grind
  .grind
section
variable{P:Program} {b:Array Oper} {Q:EO} {g:Region.Mode} {S:World->Prop} {n:List Nat} {r:Option Nat}
theorem DM.more:∀{f:Nat} {l:Array Bool} {a:Act} {w:World},DM r P g b Q S n f l a w->DM r P g b Q S n (f+1) l a w
 |0,_,_,_,h=>⟨fun _=>h.2,fun i e=>by rw[h.1] at e;cases e⟩
 |f+1,_,_,_,h=>⟨h.1,fun i e=>wpOpIn_mono (fun _ _ k=>⟨k.1,DM.more k.2⟩) (h.2 i e)⟩
theorem DM.mores {f:Nat} {l:Array Bool} {a:Act} {w:World} (h:DM r P g b Q S n f l a w):∀k,DM r P g b Q S n (k+f) l a w
 |0=>by rw[CC];exact h
 |k+1=>by rw[GR];exact DM.more (DM.mores h k)
def IM (M:List (Nat×Option Nat)) (N:Nat) (D:List Deferred) (L:Sts) (c:Dn) (a:Act):Prop:=Has N D L a/\∀m∈M,∀d v,m.2=some d->c m.1=some v->a.tmps[d]?=some v
def KC (N:Nat) (L:Sts):List (Nat×Option Nat)->Bool
 |[]=>true
 |m::r=>(match m.2 with
  |none=>true
  |some d=>Nat.blt d N&&(lk L d).isNone&&r.all fun x=>match x.2 with
   |none=>true
   |some e=>!Nat.beq d e)&&KC N L r
theorem RP {N:Nat} {L:Sts}:∀{M:List (Nat×Option Nat)},KC N L M=true->(∀m∈M,∀d,m.2=some d->d<N/\lk L d=none)/\∀m∈M,∀x∈M,∀d,m.2=some d->x.2=some d->m=x
 |[],_=>⟨fun _ h=>(by cases h),fun _ h=>(by cases h)⟩
 |y::r,h=>by
  unfold KC at h;simp only[AE] at h;have⟨q,p⟩:=RP h.2;have t:∀d,y.2=some d->d<N/\lk L d=none/\∀x∈r,x.2≠some d:=fun d l=>by
   have j:=h.1;rw[l] at j;simp only[AE] at j;refine⟨Bn j.1.1,by simpa using j.1.2,fun x k e=>?_⟩;have:=Bi.1 j.2 x k;rw[e] at this;simp at this
  refine⟨fun m o d l=>?_,fun m o x k d j u=>?_⟩
  .grind
  .grind
theorem IM.put {M:List (Nat×Option Nat)} {N:Nat} {D:List Deferred} {L:Sts} {c:Dn} {a:Act} (B:KC N L M=true) (p:∀m∈M,∀x∈M,m.1=x.1->m=x) (h:IM M N D L c a) {m:Nat×Option Nat} (q:m∈M) (v:Value):IM M N D L (P2 c m.1 v) (a.put m.2 v):=by
 have⟨R,O⟩:=RP B
 cases y:m.2 with
 |none=>
  refine⟨h.1,fun x l d u k j=>?_⟩;by_cases e:x.1=m.1
  .grind
  .rw[Fk _ _ e] at j;exact h.2 x l d u k j
 |some d0=>
  have⟨C,G⟩:=R m q d0 y;refine⟨⟨by simp[Act.put,h.1.1],h.1.2.1,fun t u o=>?_⟩,fun x l d u k j=>?_⟩
  .have e:d0≠t:=fun e=>by rw[<-e,G] at o;cases o
   simp only[Act.put];rw[DJ e];exact h.1.2.2 t u o
  .by_cases e:x.1=m.1
   .have H:=p x l m q e;subst H;rw[FL] at j;rw[y] at k;injection k with k;injection j with j;subst k j;simp[Act.put,h.1.1,C]
   .rw[Fk _ _ e] at j;have A:d0≠d:=fun A=>e (by rw[O x l m q d k (A▸y)])
    simp only[Act.put];rw[DJ A];exact h.2 x l d u k j
variable{M:List (Nat×Option Nat)} {N:Nat}
theorem DM.bag {f':Nat} {D:List Deferred} {L:Sts} {l:Array Bool} (hb:av g b l M=true) (hc:KC N L M=true) (a7:∀m∈M,∀x∈M,m.1=x.1->m=x) (J:Dn->World->Prop)
  (U:∀m∈M,∀c a W,c m.1=none->(∀x∈M,((B5 b m.1).after.toList.any fun e=>Region.binds g e&&Nat.beq e.on x.1)=true->(c x.1).isSome=true)->J c W->IM M N D L c a->Oper.wpIn (FR r) 0 P (B5 b m.1) a W (fun a' W'=>∃v,a'=a.put m.2 v/\(n.contains m.1=true∨(S W->S W'))/\J (P2 c m.1 v) W') Q)
  (O:∀c a W,(∀m∈M,(c m.1).isSome=true)->(∀i,(c i).isSome=true->∃m∈M,m.1=i)->J c W->IM M N D L c a->DM r P g b Q S n f' (MZ l c) a W):
  ∀(k:Nat) {c:Dn} {a:Act} {w:World},KB c M<=k->(∀i,(c i).isSome=true->∃m∈M,m.1=i)->J c w->IM M N D L c a->DM r P g b Q S n (k+f') (MZ l c) a w:=by
 intro k
 induction k with
 |zero=>
  intro c a w hk hO hJ hs;rw[CC];exact O c a w (NH (Nat.le_zero.1 hk)) hO hJ hs
 |succ k ih=>
  intro c a w hk hO hJ hs;rcases D6 (KB c M) with h0|h0
  .exact DM.mores (O c a w (NH h0) hO hJ hs) _
  unfold av at hb;simp only[AE] at hb;have⟨⟨b2,b1⟩,a5⟩:=hb;have there:∀m∈M,∃o,b[m.1]?=some o/\B5 b m.1=o/\l.getD m.1 true=false/\o.guard=none/\o.dst=m.2:=fun m t=>by
   have:=Bi.1 b2 m t;simp only[AE,CL,beq_iff_eq,Option.isNone_iff_eq_none] at this;have⟨⟨⟨j,q⟩,Z⟩,h4⟩:=this;have⟨o,A⟩:=Bq.1 j;have e:B5 b m.1=o:=by unfold B5;rw[A];rfl
   exact⟨o,A,e,q,e▸Z,e▸h4⟩
  have⟨a6,m0,b3,hM,hn0,a1⟩:=KZ h0;have gt:∀i d,(MZ l c).getD i d=if i<l.size then(l.getD i d||(c i).isSome) else d:=fun i d=>by
   rw[AS,KY,AS];by_cases hi:i<l.size
   .grind
   .grind
  rw[GR];refine⟨fun hr=>?_,fun i hi=>?_⟩
  .exfalso;have a8:m0∈M:=by rw[hM];simp
   have⟨o,A,Y,hl,_,_⟩:=there m0 a8;have:m0.1∈Region.ready g b (MZ l c):=by
    refine mem_ready.2 ⟨?_,o,A,fun e a9 b0=>?_⟩
    .rw[gt];have p:m0.1<l.size:=IA fun h=>by
      rw[AS,CW h] at hl;simp at hl
     rw[if_pos p,hl,hn0];rfl
    .rw[gt];rw[hM] at a5;rcases Vd a6 [] a5 e (by rw[Y];exact a9) b0 with j|j|⟨x,hx,j⟩
     .have p:e.on<l.size:=IA fun h=>by
       rw[AS,CW h] at j;simp at j
      rw[if_pos p,j];rfl
     .cases j
     .have⟨_,_,_,B,_,_⟩:=there x (by rw[hM];simp[hx]);have p:e.on<l.size:=IA fun h=>by
       rw[<-j] at h;rw[AS,CW h] at B;simp at B
      rw[if_pos p,<-j,a1 x hx];simp
   rw[hr] at this;cases this
  .have⟨G,o,A,u⟩:=mem_ready.1 hi;rw[gt] at G;have p:i<l.size:=by
    by_cases h:i<l.size
    .exact h
    .rw[if_neg h] at G;cases G
   rw[if_pos p] at G;simp only[Bool.or_eq_false_iff] at G;have a4:c i=none:=by
    cases hd:c i with
    |none=>rfl
    |some v=>rw[hd] at G;simp at G
   have a2:B5 b i=o:=by unfold B5;rw[A];rfl
   have a3:∃m∈M,m.1=i:=by
    have j:=Bi.1 b1 i (by simp;exact(Ak.1 A).1);rw[G.1,a2] at j;simp only[Bool.false_or,Cv] at j;rcases j with(j|j)|j
    .have⟨m,t,e⟩:=Fg.1 j;exact⟨m,t,Bh e⟩
    .exfalso;have:=Bi.1 j m0 (by rw[hM];simp);have⟨e,Y,q⟩:=Fg.1 this;simp only[AE] at q;have Z:=u e (by simpa using Y) q.1;have e4:=Bh q.2;rw[gt,e4] at Z;have⟨_,_,_,hl,_,_⟩:=there m0 (by rw[hM];simp);have⟨g1,g2⟩:=NG hl;rw[if_pos g2,g1,hn0] at Z;cases Z
    .exfalso;have⟨e,Y,q⟩:=Fg.1 j;simp only[AE,CL] at q;have⟨⟨q,Z⟩,h4⟩:=q;have C:=u e (by simpa using Y) q;rw[gt] at C;by_cases H:e.on<l.size
     .rw[if_pos H] at C;have⟨m,t,e6⟩:=hO e.on (((Cv _ _).mp C).resolve_left fun h6=>Bool.noConfusion (Z.symm.trans h6));have:(M.any fun m=>Nat.beq m.1 e.on)=true:=Fg.2 ⟨m,t,by rw[e6];exact Fx _⟩;rw[this] at h4;cases h4
     .rw[if_neg H] at C;cases C
   obtain⟨m,t,rfl⟩:=a3;have⟨o2,y,e2,_,hg,hd⟩:=there m t;rw[A] at y;injection y with y;subst y;have hw:Region.wanted o (yielded b a.tmps)=true:=by simp[Region.wanted,hg]
   simp only[wpOpIn,A,hw,if_true];have a0:=U m t c a w a4 (fun x hx R=>by
    rw[a2] at R;have⟨e,Y,q⟩:=Fg.1 R;simp only[AE] at q;have C:=u e (by simpa using Y) q.1;rw[gt,Bh q.2] at C;have⟨_,_,_,B,_,_⟩:=there x hx;have⟨g1,g2⟩:=NG B;rw[if_pos g2,g1,Bool.false_or] at C;exact C) hJ hs
   rw[e2] at a0;refine Oper.wpIn_mono (fun a' s ⟨v,ea,hS,hJ'⟩=>⟨hS,?_⟩) a0;subst ea;rw[<-au l c m.1 v];refine ih (by have:=cnt_lt c v a4 M ⟨m,t,rfl⟩;omega) (fun i hi=>?_) hJ' (hs.put hc a7 t v);by_cases e:i=m.1
   .exact⟨m,t,e.symm⟩
   .rw[Fk _ _ e] at hi;exact hO i hi
def JB (g:Region.Mode) (b:Array Oper) (n:List Nat) (k:Array Bool->Bool):List (Nat×Kp)->Array Bool->Bool
 |[],listed=>k listed
 |(i,.p)::r,listed=>(b[i]?).isSome&&Region.free g b listed i&&(Region.ready g b listed).contains i&&JB g b n k r (listed.setIfInBounds i true)
 |(i,.q)::r,listed=>(b[i]?).isSome&&Region.free g b listed i&&(Region.ready g b listed).contains i&&Oq g b n i&&V3 g b listed&&JB g b n k r (listed.setIfInBounds i true)
 |(i,.one)::r,listed=>(b[i]?).isSome&&(Region.ready g b listed==[i])&&JB g b n k r (listed.setIfInBounds i true)
theorem DM.planK [B:BZ Q] (m:Region.noSelect b=true) {k:Array Bool->Bool} {K:Act->World->Prop} {f:Nat} (t:∀l a w,k l=true->K a w->DM r P g b Q S n f l a w):∀(pl:List (Nat×Kp)) {e:Array Bool} {a:Act} {w:World},JB g b n k pl e=true->DS r P b (Exit.then K Q) (some S) n pl a w->DM r P g b Q S n (pl.length+f) e a w
 |[],e,a,w,hb,h=>by
  rw[F2,CC];exact t _ _ _ hb h
 |(i,.p)::rs,e,a,w,hb,h=>by
  unfold JB at hb;simp only[AE] at hb;have⟨v,y,x⟩:=h;have o:=F6 hb.1.1.1;rw[BU,GR];exact DM.earlyT o (Region.noSelect_spec m) (fun c a w=>B.pan c a _ v w) _ e a w (Region.free_spec o hb.1.1.2) (by simpa using hb.1.2) y (DM.planK m t rs hb.2 x)
 |(i,.q)::rs,e,a,w,hb,h=>by
  unfold JB at hb;simp only[AE] at hb;have⟨G,v,y,x⟩:=h;have o:=F6 hb.1.1.1.1.1;rw[BU,GR];exact DM.earlyP o (Region.noSelect_spec m) (fun c a w=>B.pan c a _ v w) hb.1.1.2 _ e a w (Shut.of hb.1.2) (Region.free_spec o hb.1.1.1.1.2) (by simpa using hb.1.1.1.2) y G (DM.planK m t rs hb.2 x)
 |(i,.one)::rs,e,a,w,hb,h=>by
  unfold JB at hb;simp only[AE,beq_iff_eq] at hb;have o:=F6 hb.1.1;rw[BU,GR];refine⟨fun O=>(by grind),fun j C=>?_⟩;rw[hb.1.2] at C;obtain rfl:j=i:=by simpa using C
  rcases h with⟨u,h⟩|⟨u,h⟩
  .simp only[wpOpIn,o,u,if_true];exact Oper.wpIn_mono (fun H s (A:(n.contains j=true∨(CR (some S) w w->CR (some S) w s))/\DS r P b (Exit.then K Q) (some S) n rs H s)=>⟨A.1,DM.planK m t rs hb.2 A.2⟩) h
  .simp only[wpOpIn,o,u];exact⟨fun _ _=>trivial,.inr fun h=>h,DM.planK m t rs hb.2 h⟩
end
def aw (e:Array Bool) (M:List (Nat×Option Nat)):Array Bool:=e.mapIdx fun i b=>b||M.any fun m=>Nat.beq m.1 i
def iu:List (Nat×Option Nat)->Bool
 |[]=>true
 |m::r=>(r.all fun x=>!Nat.beq m.1 x.1)&&iu r
theorem Yi:∀{M:List (Nat×Option Nat)},iu M=true->∀m∈M,∀x∈M,m.1=x.1->m=x
 |[],_,_,h,_,_,_=>by cases h
 |y::r,h,m,hm,x,hx,e=>by
  unfold iu at h;simp only[AE] at h;have p:∀z∈r,y.1≠z.1:=fun z o l=>by
   have:=Bi.1 h.1 z o;rw[l,Fx] at this;cases this
  rcases Az.1 hm with q|j
  .grind
  .rcases Az.1 hx with l|k
   .exact absurd (l▸e).symm (p m j)
   .exact Yi h.2 m j x k e
def cz (b:Array Oper) (n:List Nat) (h e:List (Nat×Kp)) (M:List (Nat×Option Nat)):Bool:=
 Region.noSelect b&&iu M&&Nat.beq (h.length+(M.length+e.length)) b.size&&JB .any b n (fun l=>av .any b l M&&JP .any b n e (aw l M)) h (Array.replicate b.size false)
section
variable{z:Option Nat} {D:List Deferred} {f:Func} {r:Nat} {Q:EO} {S:World->Prop} {n:List Nat} {L:Sts}
def eS (z:Option Nat) (f:Func) (r:Nat) (Q:EO) (S:World->Prop) (n:List Nat) (e:List (Nat×Kp)) (M:List (Nat×Option Nat)) (a:Act) (w:World):Prop:=
 ∀l,iu M=true->(av .any (Bt f r) l M&&JP .any (Bt f r) n e (aw l M))=true->Region.noSelect (Bt f r)=true->DM z prog .any (Bt f r) Q S n (M.length+e.length) l a w
theorem UH [BZ Q] (n:List Nat) (S:World->Prop) (j e:List Stp) (M:List (Nat×Option Nat)) (p:(Kl f r).2=true) (k:cz (Bt f r) n (Gf j) (Gf e) M=true)
  (h:Es z D f r (Exit.then (eS z f r Q S n (Gf e) M) Q) (some S) n j L w.drew):GS z D f (.reg r) Q L w:=by
 intro a q;show(Code.region r (Bt f r) (Kl f r).2).wpIn _ _ _ _ _ _;rw[p];unfold cz at k;simp only[AE] at k;have⟨⟨⟨m,y⟩,x⟩,u⟩:=k;refine wpIn_region_any oK (DM.any (S:=S) (Ls:=n) _ ?_);have:=DM.planK m (fun l a w o t=>t l y o m) _ u (h a q);rw[Bh x] at this;exact this
variable{M:List (Nat×Option Nat)}
theorem VO [BZ Q] {o:List Stp} (J:Dn->World->Prop) (R:KC f.ntmps L M=true) (h0:J (fun _=>none) w)
  (p:∀m∈M,∀c a W,c m.1=none->(∀x∈M,((B5 (Bt f r) m.1).after.toList.any fun e=>Region.binds .any e&&Nat.beq e.on x.1)=true->(c x.1).isSome=true)->J c W->IM M f.ntmps D L c a->Oper.wpIn (FR z) 0 prog (B5 (Bt f r) m.1) a W (fun a' C=>∃v,a'=a.put m.2 v/\(n.contains m.1=true∨(S W->S C))/\J (P2 c m.1 v) C) Q)
  (q:∀c a W,(∀m∈M,(c m.1).isSome=true)->J c W->IM M f.ntmps D L c a->DS z prog (Bt f r) Q (some S) n (Gf o) a W):
  GK D f (eS z f r Q S n (Gf o) M) L w:=by
 intro a U l u A t;simp only[AE] at A;have e0:MZ l (fun _=>none)=l:=by
  apply Fw;intro j;rw[KY];cases l[j]?<;>simp
 have:=DM.bag (r:=z) (P:=prog) (Q:=Q) (S:=S) A.1 R (Yi u) J p (f':=(Gf o).length) (fun c a W k Y Z H=>?_) M.length ?_ (fun i O=>by cases O) h0 ⟨U,fun _ _ _ _ _ h=>by cases h⟩
 .rw[e0] at this;exact this
 .have e1:MZ l c=aw l M:=by
   apply Fw;intro j;unfold aw;rw[KY,Im]
   cases l[j]? with
   |none=>rfl
   |some b=>
    simp only[Bf];congr 2
    cases B:(c j).isSome with
    |true=>
     have⟨m,y,e⟩:=Y j B;exact(Fg.2 ⟨m,y,by rw[e];exact Fx _⟩).symm
    |false=>
     cases G:M.any fun m=>Nat.beq m.1 j with
     |false=>rfl
     |true=>
      have⟨m,y,e⟩:=Fg.1 G;have:=k m y;rw[Bh e,B] at this;cases this
  rw[e1];exact DM.plan t _ A.2 (q c a W k Z H)
 .generalize M=M'
  induction M' with
  |nil=>exact Ai _
  |cons x r ih=>unfold KB;simp;omega
theorem ZX [BZ Q] {h:List Stp} (J:Dn->World->Prop) (o:KC f.ntmps L M=true) (u:J (fun _=>none) w)
  (e:∀m∈M,∀c a W,c m.1=none->J c W->Has f.ntmps D L a->Oper.wpIn (FR z) 0 prog (B5 (Bt f r) m.1) a W (fun x k=>∃v,x=a.put m.2 v/\(n.contains m.1=true∨(S W->S k))/\J (P2 c m.1 v) k) Q)
  (j:∀c a W,(∀m∈M,(c m.1).isSome=true)->J c W->IM M f.ntmps D L c a->DS z prog (Bt f r) Q (some S) n (Gf h) a W):
  GK D f (eS z f r Q S n (Gf h) M) L w:=
 VO J o u (fun m l c a W t _ q p=>e m l c a W t q p.1) j
variable{N d:Nat}
theorem Has.add {a:Act} (h:Has N D L a) {v:Value} (k:a.tmps[d]?=some v):Has N D ((d,v)::L) a:=⟨h.1,h.2.1,fun t u e=>by
 unfold lk at e
 cases j:Nat.beq d t with
 |true=>
  rw[j] at e;injection e with e;rw[<-e,<-Bh j];exact k
 |false=>
  rw[j] at e;exact h.2.2 t u e⟩
theorem ZY {e:List Stp} {a:Act} (j:Has f.ntmps D L a) (h:Es z D f r Q (some S) n e L w):DS z prog (Bt f r) Q (some S) n (Gf e) a w:=h a j
variable{i:Nat} {a:Act} {s:World} {J:Dn->World->Prop} {c:Dn} {v:Value}
theorem Hw (j:(B5 (Bt f r) i).dst=some d) (h:(execOp a.eval (B5 (Bt f r) i)).run prog w= .ok (.value v) s) (k:n.contains i=true∨(S w->S s)) (l:J (P2 c i v) s):
  Oper.wpIn (FR z) 0 prog (B5 (Bt f r) i) a w (fun m e=>∃v,m=a.put (some d) v/\(n.contains i=true∨(S w->S e))/\J (P2 c i v) e) Q:=
 D8 h ⟨v,by rw[j],k,l⟩
theorem P3 (j:(B5 (Bt f r) i).dst=none) (h:(execOp a.eval (B5 (Bt f r) i)).run prog w= .ok .skip s) (k:n.contains i=true∨(S w->S s)) (l:J (P2 c i undef) s):
  Oper.wpIn (FR z) 0 prog (B5 (Bt f r) i) a w (fun m e=>∃v,m=a.put none v/\(n.contains i=true∨(S w->S e))/\J (P2 c i v) e) Q:=
 L8 h ⟨undef,by rw[j],k,l⟩
theorem JD {g:Nat} {args:Array Value} (m:Has f.ntmps D L a) (l:(B5 (Bt f r) i).dst=some d) (k:Qj prog L (B5 (Bt f r) i).op=some (g,args))
  (h:Cg g args w fun e s=>∃v,e= .returned v/\(n.contains i=true∨(S w->S s))/\J (P2 c i v) s):
  Oper.wpIn (FR z) 0 prog (B5 (Bt f r) i) a w (fun q j=>∃v,q=a.put (some d) v/\(n.contains i=true∨(S w->S j))/\J (P2 c i v) j) Q:=by
 refine Kj (OA m k w) (h.mono ?_);rintro u t ⟨v,rfl,p,o⟩;exact⟨v,by rw[l],p,o⟩
end
end
theorem LQ:(prog.info? 4).map (fun i=>(i.zero,i.size,i.bytes))=some (some bF,1,1):=oK
def np (B:Nat) (p:Px) (s:St) (S:Sl) (d:World) (T:Nat->Value) (C:Nat->Cn) (e a:Nat) (c:Dn) (W:World):Prop:=
 ∃b,Loc B p s noS S d W b (CI (CI C 6 (37,4,1,[if(c 7).isSome then I 1 else I 0,An,An,N a])) 5 (if(c 5).isSome then(4,1,s.n+1,List.replicate (s.n+1) bF) else C 5)) []/\b 6=vS e 1 1/\(∀i,i≠5->b i=T i)/\∀v,c 5=some v->b 5=v
theorem u32:prog.underlying 32=some (.slice 4):=oK
def lz:Sh:= .seq (.reg 44) (.seq (.cond (.tmp 197) .skip (.exit 7)) (.seq (.block 8 (.seq (.reg 45) (.reg 46))) (.reg 47)))
def nP:Sh:= .seq (.reg 42) (.seq (.seq (.reg 43) (.block 7 (.loop lz))) (.seq (.reg 48) .ret))
theorem XC {B:Nat} {s:St} {S:Sl} {A w:World} {p:Px} {T:Nat->Value} {C:Nat->Cn} {e c0 f n0 d:Nat} {ps:List (Int×List Int)} {asm:List Int} {Q:EO} [BZ Q]
 (h:Loc B p s noS S A w T C []) (he:S .E=vS e 1 c0) (a8:Pf Y A T C p.proof ps) (a9:ps.length<=n0+d) (t6:T 6=vS f 1 1) (c6:C 6=(37,4,1,[I 0,An,An,N d])) (t4:T 4=An) (c4:C 4=F1) (P:s.V.length=s.n+1) (hn:s.n<lim)
 (hQ:∀w1,SF Y B s A e f n0 asm 1 d w1->HN f45 (fun a w=>Q .ret a w) [qv 6 f] w1):
 HW f45 nP Q [qv 0 e,qv 6 f] w:=by
 refine Ad ?_;have⟨en0,_,_,_,_,fe,_⟩:=h.rep.engF he;have q1:IntKind.i64.wrap ((s.n:Int)+(1:Int))=((s.n+1:Nat):Int):=Ec (by unfold lim at hn;unfold maxLen;omega) rfl;have C0:Aj [(ad e 0,N s.n)] w.drew:= .cons en0 .nil;refine UH [9] (Aj [(ad e 0,N s.n)]) [.qs [(0,.p),(1,.p),(2,.p),(3,.c 0),(4,.e (N (s.n+1))),(6,.p)]] [.qs [(8,.p)],.one 9] [(5,some 190),(7,none)] oK oK<|FW _ [0,6,189,191] [qv 0 e,qv 6 f,(189,N (s.n+1)),qv 191 f] (Bo (vJ q1)) C0 (fun _ h=>h)<|AK (ZX (np B p s S A T C f d) oK ?_ ?_ ?_)
 .refine⟨T,?_,t6,fun _ _=>rfl,fun v P=>by cases P⟩;have e1:CI (CI C 6 (37,4,1,[I 0,An,An,N d])) 5 (C 5)=C:=by rw[<-c6,EZ,EZ]
  show Loc B p s noS S A w.drew T (CI (CI C 6 (37,4,1,[I 0,An,An,N d])) 5 (C 5)) [];rw[e1];exact h.drew
 .intro m hm Dv a W hd hJ ha;have⟨U,l,t1,s1,v1⟩:=hJ;simp only[Az,Dm,or_false] at hm;rcases hm with rfl|rfl
  .have⟨w1,mr,a0,b1⟩:=FM W u32 LQ rfl (n:=s.n+1) oO oD;have t:=l.gain (l.rep.still b1).1 (l.rep.still b1).2 5 a0 (fun b hb r hr=>by
    have:=(Ax a0 b hb).1;have:=(l.rep.lo hr).2;omega)
   refine Hw oK (Hy ha oK mr) (.inr fun hS=>Aj.below hS b1) ⟨_,?_,(Au _ _ oD).trans t1,fun i hi=>(Au _ _ hi).trans (s1 i hi),fun v P=>by rw[FL] at P;rw[AB];exact Ah P⟩;rw[GG] at t;rw[FL,Fk (i:=7) _ _ oD];exact t
  .have o6:=l.cell 6 t1 (j:=0) (u:=I 0) (by rw[Au _ _ oD,AB,hd];rfl);have t:=l.put 6 t1 0 (I 1);have a5:f≠e:=fun e'=>h.out 6 f (by rw[t6];rfl) .E (by rw[he,e'];rfl)
   refine P3 oK (Pv (ad:=(ad f 0)) (v:=I 1) ha oK o6 (l.free 6 t1 0)) (.inr fun hS=>Aj.cons ((World.cell?_setCell_other _ _ _ _ (fun e'=>a5 (congrArg Addr.block e'))).trans (hS (ad e 0,N s.n) oS)) .nil) ⟨U,?_,t1,s1,fun v P=>v1 v (by rwa [Fk _ _ oD] at P)⟩;have e2:∀(x y:Cn),CI (CI (CI C 6 x) 5 (if(Dv 5).isSome then(4,1,s.n+1,List.replicate (s.n+1) bF) else C 5)) 6 y=CI (CI C 6 y) 5 (if(Dv 5).isSome then(4,1,s.n+1,List.replicate (s.n+1) bF) else C 5):=fun x y=>by
    funext i;unfold CI;by_cases g1:i=6
    .subst g1;simp
    .by_cases g2:i=5<;>simp[g1,g2]
   rw[e2] at t;exact t
 intro Dv a W H hJ hs;have⟨U,l,t1,s1,v1⟩:=hJ;have⟨v5,h5⟩:=Bq.1 (H (5,some 190) oS);have h7:(Dv 7).isSome=true:=H (7,none) oS;have t5:=v1 v5 h5;rw[h7,h5] at l;simp only[Option.isSome_some,if_true] at l;have c5:CI (CI C 6 (37,4,1,[I 1,An,An,N d])) 5 (4,1,s.n+1,List.replicate (s.n+1) bF) 5=(4,1,s.n+1,List.replicate (s.n+1) bF):=AB _ _ _;have⟨o,q,g,_⟩:=l.formSome 5 (by rw[c5];exact Nat.succ_pos _);rw[c5] at g;have g:U 5=vS o (s.n+1) q:=g;rw[g] at t5;subst t5;have o6:=l.cell 6 t1 (j:=1) (u:=An) (by rw[Au _ _ oD,AB];rfl);have f6:=l.free 6 t1 1;have t:=l.put 6 t1 1 (vS o (s.n+1) q);rw[Au (k:=5) (i:=6) _ _ oD,AB] at t;simp only[B9,B3] at t;refine ZY (hs.1.add (hs.2 (5,some 190) oS 190 _ rfl h5)) ?_;have C5:Aj [(ad e 0,N s.n)] W:= .cons (l.rep.engF he).1 .nil;refine FW (O:=[]) _ [0,6,190,192] [(190,vS o (s.n+1) q),(192,vP f 1)] trivial C5 (fun _ h=>h)<|Cz (vS o (s.n+1) q) o6 f6<|BG [0,6] ?_;generalize z:CI (CI (CI C 6 (37,4,1,[I 1,An,An,N d])) 5 (4,1,s.n+1,List.replicate (s.n+1) bF)) 6 (37,4,1,[I 1,vS o (s.n+1) q,An,N d])=C2 at t;have a2:C2 6=(37,4,1,[I 1,vS o (s.n+1) q,An,N d]):=by rw[<-z];exact AB _ _ _
 have b4:C2 5=(4,1,s.n+1,(List.replicate (s.n+1) false).map Value.bool):=by rw[<-z,Fv];rfl
 have b5:C2 4=F1:=by rw[<-z];exact c4
 have t42:U 4=An:=(s1 4 oD).trans t4;have a1:Pf Y A U C2 p.proof ps:=a8.same fun i hi=>by
  rw[s1 i oO,<-z,Au _ _ oO,Au _ _ oO,Au _ _ oO];exact⟨rfl,rfl⟩
 generalize(W.setCell (ad f 1) (vS o (s.n+1) q))=w2 at t⊢;refine Ae (Ad (Ad ?_));have M:=t.cell 6 t1 (j:=1) (u:=vS o (s.n+1) q) (by rw[a2];rfl);have J:Aj [(ad f 1,vS o (s.n+1) q)] w2:= .cons M .nil;refine Fi [(1,.c 0)] [0,6,195,196] [(195,N (s.n+1)),(196,I 0)] J<|Ae (Bd<|Ct (fun n L W=>∃i J,∃bs:List Bool,L=[qv 0 e,qv 6 f,(195,N (s.n+1)),(196,N i)]/\Loc B p s noS S A W U J []/\J 6=(37,4,1,[I 1,vS o (s.n+1) q,An,N d])/\J 5=(4,1,s.n+1,bs.map Value.bool)/\bs.length=s.n+1/\J 4=F1/\Pf Y A U J p.proof ps/\i<=s.n+1/\n=s.n+1-i) (n:=s.n+1) ⟨0,C2,_,rfl,t,a2,b4,oS,b5,a1,oO,oO⟩ ?_);rintro n L W ⟨i,J,bs,rfl,Z,R,a3,b2,a4,G,hi,rfl⟩;refine Ad ?_;by_cases b7:i<s.n+1
 .have q1:(i:Int)<((s.n+1:Nat):Int):=oO;refine Be [(0,.T)] [0,6,195,196,197] [(197,bT)] (Bo (EE q1))<|Ae (Ad<|Bg rfl (AZ (Ae (Ad (Bd (Ad ?_))))));have q2:i<maxLen:=by unfold lim maxLen at*;omega
  refine B8 [] [0,6,17,195,196] [(17,N i)] ?_;have⟨gv,cv,b8,ev,_,_,b3,_,_,_⟩:=Z.rep.valueA he oO;obtain⟨vv,a6⟩:∃vv,s.V[i]?=some vv:=⟨_,Ab oO⟩;have ov:=b3 i vv a6;have M:=Z.cell 6 t1 (j:=1) (u:=vS o (s.n+1) q) (by rw[R];rfl);obtain⟨ub,a7⟩:∃ub,bs[i]?=some ub:=⟨_,Ab oO⟩;have o5:=Z.cell 5 g (j:=i) (u:= .bool ub) (by rw[a3];simp[a7]);have f5:=Z.free 5 g i;obtain⟨D,b0⟩:∃j:Int,v8 vv= .int .i8 j:=by rcases vv with _|_|_<;>exact⟨_,rfl⟩
  rw[b0] at ov;refine Ae ?_;have C4:Aj [(ad f 1,vS o (s.n+1) q),(ad e 2,vQ gv s.V cv),(ad gv i,.int .i8 D)] W.drew:= .cons M (.cons ev (.cons ov .nil));refine Dr [12] (Gi [(1,.c 0),(6,.c 1),(9,.c 2),(10,.e (.bool (decide (0<D))))] 0 12) [.one 12] [0,6,17,195,196,209,210] [qv 0 e,qv 6 f,(17,N i),(195,N (s.n+1)),(196,N i),(209,.bool (decide (0<D))),(210,vP o i)] (NW (oO:oX i s.V.length) (rfl:(.bool (decide ((0:Int)<(D:Int))):Value)= .bool (decide (0<D))) (oO:oX i (((s.n+1):Nat):Int))) C4<|Cz (.bool (decide (0<D))) o5 f5<|BG [0,6,17,195,196] ?_;have h4:=Z.drew.put 5 g i (.bool (decide (0<D)));rw[a3] at h4;refine BN (Ae<|Be [(0,.e (N (i+1)))] [0,6,195,196] [(196,N (i+1))] (Bo (vJ (Ec q2 rfl)))<|BF (m:=s.n+1-(i+1)) oO ⟨i+1,_,bs.set i (decide (0<D)),rfl,h4,(Au _ _ oD).trans R,?_,by simp[b2],(Au _ _ oD).trans a4,G.same fun j hj=>⟨rfl,Au _ _ oO⟩,oO,rfl⟩);rw[AB,Dp]
 .have q1:¬(i:Int)<((s.n+1:Nat):Int):=oO;refine Be [(0,.F)] [0,6,195,196,197] [(197,bF)] (Bo (Er q1))<|Ae (Ad<|B1 rfl (BQ (Bc nX (B6 nX (Ck (Ae (BV (L':=[qv 6 f])<|jF (asm:=asm) (cs:=[]) Z he G a9 t1 R rfl rfl t42 a4 (List.nil_sublist _) hQ)))))))
def jA:Sh:= .seq (.seq (.reg 24) (.cond (.tmp 112) .skip (.exit 2))) (.block 3 (.seq (.reg 25) (.seq (.reg 26) (.block 4 (.seq (.reg 28) (.cond (.tmp 125) (.reg 29) (.seq (.reg 30) (.cond (.tmp 141) (.seq (.reg 31) (.seq (.reg 32) (.seq (.reg 33) (.seq (.reg 34) .ret)))) (.reg 27)))))))))
theorem bA {B:Nat} {s:St} {S:Sl} {q w:World} {p:Px} {T:Nat->Value} {C:Nat->Cn} {e U o n0 d:Nat} {ps:List (Int×List Int)} {asm:List Int} {Q:EO} [BZ Q]
 (h:Loc B p s noS S q w T C []) (i:S .E=vS e 1 U) (a1:Pf Y q T C p.proof ps) (a3:ps.length<=n0+d) (t6:T 6=vS o 1 1) {turn:Nat} {left M:Int} {O:Value} {y:St} {t:Nx} {f:Nat} (u:Dj q O 1 asm.length (asm.map I)) (a7:asm.length<=lim) (has:∀x∈asm,x≠0) (b:GI asm f s=some (y,t)) (H:∀x,t= .bad x->Kw y x=true) (c6:C 6=(37,4,1,[I 0,An,An,N d]))
 (a9:∀x k,t= .bad x->SF Y B y q e o n0 asm 2 d k->HN f45 (fun a w=>Q .ret a w) [qv 6 o] k)
 (J:∀Z k x,Loc B p y noS Z q k T C []->Z .E=vS e 1 U->(t= .none_/\x=0∨t= .lit x/\x≠0)->HN f45 (fun a w=>Q .normal a w) [qv 0 e,(1,O),(2,I M),qv 6 o,(7,N turn),(8,I left),(9,I 2000),(13,I x)] k):
 HW f45 (.block 2 (.loop jA)) Q [qv 0 e,(1,O),(2,I M),qv 6 o,(7,N turn),(8,I left),(9,I 2000),(13,I 0)] w:=by
 refine Bd<|Ct (fun n L W=>(∃f g j,L=[qv 0 e,(1,O),(2,I M),qv 6 o,(7,N turn),(8,I left),(9,I 2000),(13,I 0)]/\Loc B p g noS j q W T C []/\j .E=vS e 1 U/\GI asm f g=some (y,t)/\n=f+1)∨(∃j x,L=[qv 0 e,(1,O),(2,I M),qv 6 o,(7,N turn),(8,I left),(9,I 2000),(13,I x)]/\Loc B p y noS j q W T C []/\j .E=vS e 1 U/\t= .lit x/\x≠0/\n=0)) (n:=f+1) (.inl ⟨f,s,S,rfl,h,i,b,rfl⟩) ?_;rintro n L W (⟨f,g,j,rfl,h,i,b,rfl⟩|⟨j,x,rfl,h,i,a2,G,rfl⟩);rotate_left
 .refine Ad (Ad ?_);have q1:((x:Int)==(0:Int))=false:=by simpa using G
  refine Be [(1,.F)] [0,1,2,6,7,8,9,13,112] [(13,I x),(112,bF)] (Bo (vB q1))<|Ae (B1 rfl (BQ (Bc nX (B6 nX (Ck (BV (J j W x h i (.inr ⟨a2,G⟩))))))))
 .cases f with
  |zero=>cases b
  |succ f=>
  unfold GI at b;have⟨A6,v,b4,e6,_,l6,m6⟩:=h.rep.startsE i;refine Ad (Ad ?_)
  cases z:asm[g.D.length]? with
  |none=>
   rw[z] at b;simp only[A0,Prod.mk.injEq] at b;obtain⟨rfl,rfl⟩:=b;have b2:asm.length<=g.D.length:=List.getElem?_eq_none_iff.1 z;have q1:¬(g.D.length:Int)<(asm.length:Int):=oO;have C0:Aj [(ad e 6,sq A6 g.D v)] W:= .cons e6 .nil;have⟨b0,l,a8⟩:=u.form;subst a8;refine BA [(1,.T),(6,.c 0),(10,.F)] [0,1,2,6,7,8,9,13,112] [(1,sq b0 asm l),(112,bF)] (EP (vR:(.bool ((0:Int)==(0:Int)):Value)=bT) (Er q1)) C0<|Ae (B1 rfl (BQ (Bc nX (B6 nX (Ck (BV (J j W 0 h i (.inl ⟨rfl,rfl⟩))))))))
  |some x=>
   rw[z] at b;simp only at b;have b1:g.D.length<asm.length:=(Aa.1 z).1;have A:x∈asm:=AQ z;have q1:(g.D.length:Int)<(asm.length:Int):=oO;obtain⟨R,P,l,rfl,b3,a5⟩:=(u.below h.bel).some_ oO;have ox:W.cell? ⟨R,Du P g.D.length,none⟩=some (I x):=by rw[DG];exact a5 _ _ (by simp[z])
   have C0:Aj [(ad e 6,sq A6 g.D v)] W:= .cons e6 .nil;refine BA [(1,.T),(6,.c 0),(10,.T)] [0,1,2,6,7,8,9,13,112] [(1,.slice (some (ad R P)) asm.length l),(112,bT)] (EP (vR:(.bool ((0:Int)==(0:Int)):Value)=bT) (EE q1)) C0<|Ae (Bg rfl (AZ (Ae (Bd (Ad ?_)))));have C1:Aj [(ad e 6,sq A6 g.D v),(⟨R,Du P g.D.length,none⟩,I x)] W:= .cons e6 (.cons ox .nil);refine BA [(4,.c 0),(7,.c 1)] [0,1,2,6,7,8,9,13,14] [(14,I x)] (Bo (oO:oX g.D.length asm.length)) C1<|Ae (Ad ?_)
   cases hi:KK g x with
   |none=>rw[hi] at b;cases b
   |some r=>
   rw[hi] at b;have ic:=G7 h.rep i x hi;refine AY [AM 0 2,.one 2]<|AN [0,1,2,6,7,8,9,13,14,121,122] [qv 121 e,(122,I x)]<|BW 123 (ic.mono ?_);rintro en k ⟨rfl,rfl⟩;refine⟨_,rfl,.inl oK,BG [0,1,2,6,7,8,9,13,14,123]<|Ae (Bd (Ad ?_))⟩
   match r,b with
   |some true,b=>
    simp only at b;refine Be [(0,.T)] [0,1,2,6,7,8,9,13,14,123,125] [(123,.int .i8 1),(125,bT)] (Bo (vR:(.bool ((1:Int)==(1:Int)):Value)=bT)) ?_;split at b
    case isFalse=>cases b
    rename_i a0;refine Ae (Bg rfl (Eu (XI (b6:=o) (turn:=turn) (left:=left) (bu:=M) (VA:= .slice (some (ad R P)) asm.length l) h i a0 fun Z k h1 a4=>BN (BN (BV (BF (m:=f+1) oO (.inl ⟨f,_,Z,rfl,h1,a4,b,rfl⟩)))))))
   |some false,b=>
    refine Be [(0,.F)] [0,1,2,6,7,8,9,13,14,123,125] [(123,.int .i8 (-1)),(125,bF)] (Bo (vR:(.bool (((-1):Int)==(1:Int)):Value)=bF))<|Ae (B1 rfl (Ad<|Be [(0,.T)] [0,1,2,6,7,8,9,13,14,123,141] [(141,bT)] (Bo (vR:(.bool (((-1):Int)==(-1:Int)):Value)=bT)) ?_));simp only[A0,Prod.mk.injEq] at b;obtain⟨rfl,rfl⟩:=b;have a6:=H x rfl;refine Ae (Bg rfl (Eu (Z0 h i a1 a3 t6 u a7 A a6 c6 fun k h1=>BL (BL (B6 nR (BL (a9 x k rfl h1)))))))
   |none,b=>
    refine Be [(0,.F)] [0,1,2,6,7,8,9,13,14,123,125] [(123,.int .i8 0),(125,bF)] (Bo (vR:(.bool ((0:Int)==(1:Int)):Value)=bF))<|Ae (B1 rfl (Ad<|Be [(0,.F)] [0,1,2,6,7,8,9,13,14,123,141] [(141,bF)] (Bo (vR:(.bool ((0:Int)==(-1:Int)):Value)=bF)) ?_));simp only[A0,Prod.mk.injEq] at b;obtain⟨rfl,rfl⟩:=b;refine Ae (B1 rfl<|B8 [] [0,1,2,6,7,8,9,13,14,123] [(13,I x)]<|BN (BN (BV (BF (m:=0) oO (.inr ⟨j,x,rfl,h,i,rfl,has x A,rfl⟩)))))
def kM:Sh:= .seq (.seq (.reg 35) (.cond (.tmp 162) .skip (.exit 5))) (.block 6 (.seq (.reg 36) (.seq (.reg 37) (.cond (.tmp 172) (.seq (.reg 38) (.seq (.reg 39) (.cond (.tmp 181) (.reg 40) .skip))) .skip))))
theorem cQ {B:Nat} {s:St} {S:Sl} {Z w:World} {p:Px} {T:Nat->Value} {C:Nat->Cn} {e U b6:Nat} {Q:EO} [BZ Q] {turn:Nat} {left bu:Int} {VA:Value} {s':St} {nx:Nx} {f:Nat} {x:Int} (h:Loc B p s noS S Z w T C []) (t:S .E=vS e 1 U) (d:(x=0/\Kv f s=some (s',nx))∨(x≠0/\s'=s/\nx= .lit x))
 (hQ:∀A z x,Loc B p s' noS A Z z T C []->A .E=vS e 1 U->(((∀y,nx≠ .lit y)/\x=0)∨nx= .lit x/\x≠0)->HN f45 (fun a w=>Q .normal a w) [qv 0 e,(1,VA),(2,I bu),qv 6 b6,(7,N turn),(8,I left),(9,I 2000),(13,I x)] z):
 HW f45 (.block 5 (.loop kM)) Q [qv 0 e,(1,VA),(2,I bu),qv 6 b6,(7,N turn),(8,I left),(9,I 2000),(13,I x)] w:=by
 refine Bd<|Ct (fun n L W=>(∃f o u,L=[qv 0 e,(1,VA),(2,I bu),qv 6 b6,(7,N turn),(8,I left),(9,I 2000),(13,I 0)]/\Loc B p o noS u Z W T C []/\u .E=vS e 1 U/\Kv f o=some (s',nx)/\n=f+1)∨(∃u x,L=[qv 0 e,(1,VA),(2,I bu),qv 6 b6,(7,N turn),(8,I left),(9,I 2000),(13,I x)]/\Loc B p s' noS u Z W T C []/\u .E=vS e 1 U/\nx= .lit x/\x≠0/\n=0)) (n:=if x=0 then f+1 else 0) ?_ ?_
 .rcases d with⟨rfl,hr⟩|⟨J,rfl,hr⟩
  .exact .inl ⟨f,s,S,rfl,h,t,hr,rfl⟩
  .exact .inr ⟨S,x,rfl,h,t,hr,J,by rw[if_neg J]⟩
 rintro n L W (⟨f,o,u,rfl,h,t,d,rfl⟩|⟨u,x,rfl,h,t,g,G,rfl⟩);rotate_left
 .refine Ad (Ad ?_);have q1:((x:Int)==(0:Int))=false:=by simpa using G
  refine Be [(1,.F)] [0,1,2,6,7,8,9,13,162] [(13,I x),(162,bF)] (Bo (vB q1))<|Ae (B1 rfl (BQ (Bc nX (B6 nX (Ck (BV (hQ u W x h t (.inr ⟨g,G⟩))))))))
 .cases f with
  |zero=>cases d
  |succ f=>
  unfold Kv at d;have⟨Y,R,a6,P,_,a8,a7⟩:=h.rep.orderE t;refine Ad (Ad ?_);by_cases J:o.O.length=0
  .rw[if_pos J] at d;simp only[A0,Prod.mk.injEq] at d;obtain⟨rfl,rfl⟩:=d;have q1:¬(0:Int)<(o.O.length:Int):=oO;have C0:Aj [(ad e 10,sq Y o.O R)] W:= .cons P .nil;refine BA [(1,.T),(6,.c 0),(8,.F)] [0,1,2,6,7,8,9,13,162] [(162,bF)] (EP (vR:(.bool ((0:Int)==(0:Int)):Value)=bT) (Er q1)) C0<|Ae (B1 rfl (BQ (Bc nX (B6 nX (Ck (BV (hQ u W 0 h t (.inl ⟨fun y e=>(by cases e),rfl⟩))))))))
  .rw[if_neg J] at d;have q1:(0:Int)<(o.O.length:Int):=oO;have C0:Aj [(ad e 10,sq Y o.O R)] W:= .cons P .nil;refine BA [(1,.T),(6,.c 0),(8,.T)] [0,1,2,6,7,8,9,13,162] [(162,bT)] (EP (vR:(.bool ((0:Int)==(0:Int)):Value)=bT) (EE q1)) C0<|Ae (Bg rfl (AZ (Ae (Bd (Ad ?_)))))
   cases hf:Mv o with
   |none=>rw[hf] at d;cases d
   |some q=>
   have⟨v,i⟩:=q;rw[hf] at d;simp only at d;have fc:=first_any h.rep t hf;refine AY [AM 0 1,.one 1,AM 2 1]<|AN [0,1,2,6,7,8,9,13,163] [qv 163 e]<|BW 164 (fc.mono ?_);rintro en z ⟨rfl,A,a3,r1,a0⟩;refine⟨_,rfl,.inl oK,?_⟩;have H:=h.E r1 a0;have l:A .E=vS e 1 U:=(a3 .E oS).trans t;refine AN [0,1,2,6,7,8,9,13,16] [(16,N v)]<|AK ?_
   cases k:i.V[v]? with
   |none=>rw[k] at d;cases d
   |some vv=>
   cases r:i.F[v]? with
   |none=>rw[k,r] at d;cases vv<;>cases d
   |some ph=>
   rw[k,r] at d;have a9:v<i.V.length:=(Aa.1 k).1;have b1:v<i.F.length:=(Aa.1 r).1;have⟨M,cv,b2,ev,lv,mv,a4,_,_,_⟩:=H.rep.valueA l oO;have⟨gp,cp,b3,ep,_,_,a5,_,_,_⟩:=H.rep.phaseA l oO;have D:=a4 v vv k;have op:=a5 v ph r;refine Ae (Ad ?_)
   cases vv with
   |some b=>
    obtain⟨jv,a1,a2⟩:∃j:Int,v8 (some b)= .int .i8 j/\j≠0:=by cases b;exact⟨-1,rfl,oD⟩;exact⟨1,rfl,oD⟩
    rw[a1] at D;have q2:((jv:Int)==(0:Int))=false:=by simpa using a2
    have C1:Aj [(ad e 2,vQ M i.V cv),(ad M v,.int .i8 jv)] z:= .cons ev (.cons D .nil);refine BA [(3,.c 0),(6,.c 1),(7,.F)] [0,1,2,6,7,8,9,13,16,172] [(172,bF)] (EP (oO:oX v i.V.length) (vB q2)) C1<|Ae (B1 rfl (AZ (BN (BV (BF (m:=f+1) oO (.inl ⟨f,i,A,rfl,H,l,d,rfl⟩))))))
   |none=>
    have D:z.cell? (ad M v)=some (.int .i8 0):=D;simp only at d;split at d
    .cases d
    rename_i b0;simp only[A0,Prod.mk.injEq] at d;obtain⟨rfl,g⟩:=d;have C1:Aj [(ad e 2,vQ M i.V cv),(ad M v,.int .i8 0)] z:= .cons ev (.cons D .nil);refine BA [(3,.c 0),(6,.c 1),(7,.T)] [0,1,2,6,7,8,9,13,16,172] [(172,bT)] (EP (oO:oX v i.V.length) (vR:(.bool ((0:Int)==(0:Int)):Value)=bT)) C1 ?_;have q3:IntKind.i64.wrap (-(v:Int))=-(v:Int):=Bb _ (by unfold maxLen at mv;omega);refine Ae (Bg rfl (Ad<|Be [(1,.e (I (-(v:Int))))] [0,1,2,6,7,8,9,13,16] [(13,I (-(v:Int)))] (Bo (vJ q3)) ?_));have C2:Aj [(ad e 12,vQ gp i.F cp),(ad gp v,.bool ph)] z:= .cons ep (.cons op .nil);refine Ae (Ad<|BA [(3,.c 0),(6,.c 1)] [0,1,2,6,7,8,9,13,16,181] [(181,.bool ph)] (Bo (oO:oX v i.F.length)) C2 ?_)
    cases ph with
    |true=>
     refine Ae (Bg rfl<|B8 [] [0,1,2,6,7,8,9,13] [(13,N v)] ?_);have g:Nx.lit (v:Int)=nx:=by simpa using g
     exact BN (BV (BF (m:=0) oO (.inr ⟨A,(v:Int),rfl,H,l,g.symm,oO,rfl⟩)))
    |false=>
     have g:Nx.lit (-(v:Int))=nx:=by simpa using g
     exact Ae (B1 rfl (AZ (BN (BV (BF (m:=0) oO (.inr ⟨A,-(v:Int),rfl,H,l,g.symm,oO,rfl⟩))))))
def pI:Sh:= .block 1 (.seq (.seq (.reg 2) (.seq (.reg 3) (.cond (.tmp 27) (.seq (.seq (.reg 4) (.cond (.tmp 39) (.seq (.reg 5) (.seq (.reg 6) .ret)) .skip)) (.seq (.seq (.reg 7) (.cond (.tmp 45) (.seq (.reg 8) (.seq (.reg 9) .ret)) .skip)) nN)) .skip))) (.seq (.seq (.reg 16) (.cond (.tmp 69) nT .skip)) (.seq (.reg 23) (.seq (.block 2 (.loop jA)) (.seq (.block 5 (.loop kM)) (.seq (.seq (.reg 41) (.cond (.tmp 184) nP .skip)) (.seq (.reg 49) (.reg 50))))))))
def na:Sh:= .seq (.reg 0) (.seq (.reg 1) (.block 0 (.loop pI)))
theorem cT:f45.body=some (na.code f45):=oK
def DH:Kd->Int
 | .yes=>1
 | .no=>2
 | .out=>3
def dT (Y:Nat->Prop) (B:Nat) (s:St) (d:World) (e h:Nat) (b:List Int) (k:Int) (m:Nat) (i:Ending) (g:World):Prop:=
 ∃p S T C j ps f a,∃c:List Int,i= .returned (.agg #[I k,f,a,N m])/\Loc B p s noS S d g T C []/\S .E=vS e 1 j/\Pf Y d T C p.proof ps/\ps.length<=h+m/\f.oneCell'=true/\a.oneCell'=true/\T 4=a/\C 4=(3,1,c.length,c.map I)/\(c.Sublist b)
variable{b:List Int}
theorem Mx {B:Nat} {s:St} {f w:World} {e n g m:Nat} {k:Int} (h:SF Y B s f e n g b k m w):HN f45 (fun a w=>bodyPost prog f45 (dT Y B s f e g b k m) .ret a w) [qv 6 n] w:=by
 have⟨p,S,T,C,A,ps,i,l,z,j,y,x,v,u,t,r,q,o,d,c⟩:=h;exact LC (cs:=[I k,i,l,N m]) rfl rfl oK (j.range 6 u 0 _ (by rw[t];rfl)) ⟨p,S,T,C,A,ps,i,l,z,rfl,j,y,x,v,r,q,o,d,c⟩
theorem QV {x:SS} {j:St} {f:Ans} (h:GJ b x j=some f):∃c g,GI b (b.length+1) j=some (c,g)/\((∃p,g= .bad p/\Kw c p=true/\f= .stop c .no x.z)∨
  (∃d a,((g= .none_/\Kv (c.O.length+1) c=some (d,a))∨(∃p,g= .lit p/\d=c/\a= .lit p))/\((∃y i,a= .lit y/\IG d y=some i/\f= .go ⟨i,x.turn,x.left,x.z⟩)∨((∀y,a≠ .lit y)/\f= .stop d .yes x.z/\d.V.length=d.n+1/\d.n<lim)))):=by
 unfold GJ at h
 cases o:GI b (b.length+1) j with
 |none=>rw[o] at h;cases h
 |some q=>
 have⟨c,g⟩:=q;rw[o] at h;refine⟨c,g,rfl,?_⟩
 cases g with
 |bad p=>
  simp only at h;split at h
  .rename_i k;exact .inl ⟨p,rfl,k,(Ah h).symm⟩
  .cases h
 |lit p=>
  simp only at h;obtain⟨i,l,rfl⟩:=Af.1 h;exact .inr ⟨c,.lit p,.inr ⟨p,rfl,rfl,rfl⟩,.inl ⟨p,i,rfl,l,rfl⟩⟩
 |none_=>
  simp only at h
  cases m:Kv (c.O.length+1) c with
  |none=>rw[m] at h;cases h
  |some q=>
  have⟨d,a⟩:=q;rw[m] at h;refine .inr ⟨d,a,.inl ⟨rfl,rfl⟩,?_⟩
  cases a with
  |lit p=>
   simp only at h;obtain⟨i,l,rfl⟩:=Af.1 h;exact .inl ⟨p,i,rfl,l,rfl⟩
  |_=>
   simp only at h;split at h
   .rename_i k;exact .inr ⟨fun y e=>(by cases e),(Ah h).symm,k⟩
   .cases h
theorem UF {B:Nat} {s:St} {S:Sl} {w0 w:World} {p:Px} {T:Nat->Value} {C:Nat->Cn} {e c0 n0 f:Nat} {ps:List (Int×List Int)} {J:Int} {VA:Value} {t:St} {k:Kd} {m:Nat}
 (h:Loc B p s noS S w0 w T C []) (hB:B<=w0.heap.size) (he:S .E=vS e 1 c0) (l:Pf Y w0 T C p.proof ps) (hn0:ps.length<=1000000000) (t4:T 4=An) (c4:C 4=F1) (e0:Dj w0 VA 1 b.length (b.map I)) (e5:b.length<=lim) (has:∀x∈b,x≠0)
 (a:D5 b J f ⟨s,1,32,0⟩=some (t,k,m)):
 Cg 45 #[vP e 0,VA,I J] w (dT Y B t w0 e ps.length b (DH k) m):=by
 refine CN cT ?_;show HW f45 na _ [qv 0 e,(1,VA),(2,I J)] w;refine Ad ?_;have R:=h.newN 6 37 [I 0,An,An,N 0];refine AY [.one 0]<|CH 6 (vP w.heap.size 0) (w.alloc (.cells #[I 0,An,An,N 0] 37))<|BG [0,1,2,6] ?_;have b0:Pf Y w0 (CI T 6 (vS w.heap.size 1 1)) (CI C 6 (37,4,1,[I 0,An,An,N 0])) p.proof ps:=l.same fun i hi=>⟨Au _ _ oO,Au _ _ oO⟩
 have t41:CI T 6 (vS w.heap.size 1 1) 4=An:=(Au _ _ oD).trans t4;have g0:CI C 6 (37,4,1,[I 0,An,An,N 0]) 4=F1:=(Au _ _ oD).trans c4;have a9:SJ Y B s w0 e w.heap.size ps.length 0 (w.alloc (.cells #[I 0,An,An,N 0] 37)):=⟨p,S,_,_,c0,ps,R,he,b0,oO,AB _ _ _,AB _ _ _,t41,g0⟩;generalize w.heap.size=b6 at a9⊢;refine Ae (Ad<|B8 [] [0,1,2,6,7,8,9] [qv 6 b6,(7,I 1),(8,I 32),(9,I 2000)]<|Ae (Bd ?_));generalize ps.length=n0 at hn0 a9⊢;clear h l t4 c4 he;refine Ct (fun n L W=>∃f x,L=[qv 0 e,(1,VA),(2,I J),qv 6 b6,(7,N x.turn),(8,I x.left),(9,I 2000)]/\SJ Y B x.s w0 e b6 n0 x.z W/\D5 b J f x=some (t,k,m)/\n=f) (n:=f) ⟨f,_,rfl,a9,a,rfl⟩ ?_;rintro n L W ⟨f,x,rfl,⟨p,S,T,C,c0,ps,h,he,l,r,t6,c6,t4,c4⟩,a,rfl⟩
 cases n with
 |zero=>cases a
 |succ f=>
 unfold D5 M5 at a
 cases hr:QQ (KU x.s) x.s with
 |none=>rw[hr] at a;cases a
 |some q=>
 have⟨Q,c⟩:=q;rw[hr] at a;simp only at a;by_cases a7:(c.all fun i=>decide (i<x.s.K.length))=false
 .rw[if_pos a7] at a;cases a
 rw[if_neg a7] at a;have rc:=run_any h.rep he _ hr;refine Bd (Ad (Ad<|AY [AM 0 1,.one 1,AM 2 1]<|AN [0,1,2,6,7,8,9,18] [qv 18 e] ?_));obtain⟨PV,e9,e8⟩:∃PV,IS S c=PV/\((c=none/\PV= .pointer none)∨∃i gc,c=some i/\E6 S i=vP gc 0/\PV=vP gc 0):=by
  refine⟨_,rfl,?_⟩
  cases c with
  |none=>exact .inl ⟨rfl,rfl⟩
  |some i=>
   have hi:i<x.s.K.length:=by simpa using a7
   have⟨g,cap,_,A,_⟩:=h.rep.clA (Ab hi);exact .inr ⟨i,g,rfl,A,A⟩
 refine BW 19 (rc.mono ?_);rintro en w1 ⟨rfl,S1,b9,r1,c3⟩;refine⟨_,rfl,.inl oK,?_⟩;rw[e9];have R:=h.E r1 c3;have v:S1 .E=vS e 1 c0:=(b9 .E (by rintro(⟨_,e⟩|e)<;>cases e)).trans he;refine AN [0,1,2,6,7,8,9,10] [(10,PV)]<|AK ?_;have eb:=(R.rep.engF v);have⟨_,_,_,_,o,_,_⟩:=eb;refine Ae (Ad ?_);rcases e8 with⟨rfl,rfl⟩|⟨i,gc,rfl,b7,rfl⟩
 .cases hb:Q.Z with
  |true=>
   rw[hb] at o a;have C0:Aj [(ad e 15,bT)] w1:= .cons o .nil;refine Fi [(6,.c 0)] [0,1,2,6,7,8,9,10,27] [(10,.pointer none),(27,bT)] C0 ?_;simp only[Option.isSome_none,Cm,or_true,true_or,if_true,A0,Prod.mk.injEq] at a;obtain⟨rfl,rfl,rfl⟩:=a;refine Ae (Bg rfl (Ad (Ad<|Fi [(3,.c 0)] [0,1,2,6,7,8,9,10,39] [(39,bT)] C0<|Ae (Bg rfl (Eu (eu (asm:=b) R v l r t6 c6 t4 c4 fun w2 A=>Bc nR (Bc nR (BL (B6 nR (BL (Mx A)))))))))))
  |false=>
   rw[hb] at o a;have C0:Aj [(ad e 15,bF)] w1:= .cons o .nil;refine Fi [(6,.c 0)] [0,1,2,6,7,8,9,10,27] [(10,.pointer none),(27,bF)] C0<|Ae (B1 rfl (AZ (Ae (Eu (L':=[qv 0 e,(1,VA),(2,I J),qv 6 b6,(7,N x.turn),(8,I x.left),(9,I 2000)]) ?_))));by_cases hl:x.left<=0
   .rw[if_pos hl] at a;refine Ad (Ad<|Be [(1,.T)] [0,1,2,6,7,8,9,69] [qv 0 e,(1,VA),(2,I J),qv 6 b6,(7,N x.turn),(8,I x.left),(9,I 2000),(69,bT)] (Bo (EE hl)) ?_);by_cases a2:Q.n<=10/\x.turn<1000000
    case neg=>rw[if_neg a2] at a;cases a
    rw[if_pos a2] at a
    cases a8:GD Q 0 with
    |none=>rw[a8] at a;cases a
    |some s2=>
    rw[a8] at a;exact Ae (Bg rfl (Eu (bV (left:=x.left) (bu:=J) (VA:=VA) R v l r t6 c6 t4 c4 a2.1 a2.2 a8 fun w2 A=>Bc nX (Ck (BV (BF (m:=f) oO ⟨f,⟨s2,x.turn+1,32*(FH 64 (x.turn+1):Int),x.z⟩,rfl,A,a,rfl⟩))))))
   .rw[if_neg hl] at a;refine Ad (Ad<|Be [(1,.F)] [0,1,2,6,7,8,9,69] [qv 0 e,(1,VA),(2,I J),qv 6 b6,(7,N x.turn),(8,I x.left),(9,I 2000),(69,bF)] (Bo (Er hl))<|Ae (B1 rfl (AZ (Ae (Ad<|B8 [] [0,1,2,6,7,8,9,13] [(13,I 0)] ?_)))))
    cases a6:GJ b x Q with
    |none=>rw[a6] at a;cases a
    |some a3=>
    rw[a6] at a;have⟨s2,nx,hA,H⟩:=QV a6;refine Ae (Ad (bA (asm:=b) (f:=b.length+1) R v l r t6 e0 e5 has hA ?_ c6 ?_ ?_))
    .intro y G;rcases H with⟨p',a1,b8,_⟩|⟨_,_,⟨e,_⟩|⟨_,e,_⟩,_⟩
     .rw[a1] at G;injection G with G;rw[<-G];exact b8
     .rw[e] at G;cases G
     .rw[e] at G;cases G
    .intro y w2 G A;rcases H with⟨p',a1,b8,rfl⟩|⟨_,_,⟨e,_⟩|⟨_,e,_⟩,_⟩
     .simp only[A0,Prod.mk.injEq] at a;obtain⟨rfl,rfl,rfl⟩:=a;exact Bc nR (BL (B6 nR (BL (Mx A))))
     .rw[e] at G;cases G
     .rw[e] at G;cases G
    intro S2 w2 y2 A e4 b1;obtain⟨s3,P,a4,b2⟩:∃s3 P,((nx= .none_/\Kv (s2.O.length+1) s2=some (s3,P))∨(∃p,nx= .lit p/\s3=s2/\P= .lit p))/\((∃y s4,P= .lit y/\IG s3 y=some s4/\a3= .go ⟨s4,x.turn,x.left,x.z⟩)∨((∀y,P≠ .lit y)/\a3= .stop s3 .yes x.z/\s3.V.length=s3.n+1/\s3.n<lim)):=by
     rcases H with⟨p',a1,_⟩|hc
     .rcases b1 with⟨e,_⟩|⟨e,_⟩<;>rw[a1] at e<;>cases e
     .exact hc
    refine Ae (Ad (cQ (f:=s2.O.length+1) (s':=s3) (nx:=P) A e4 ?_ ?_))
    .rcases b1 with⟨e,e2⟩|⟨e,e2⟩
     .rcases a4 with⟨_,hp⟩|⟨p',hp,_⟩
      .exact .inl ⟨e2,hp⟩
      .rw[e] at hp;cases hp
     .rcases a4 with⟨e3,_⟩|⟨p',hp,hs,hx⟩
      .rw[e] at e3;cases e3
      .rw[e] at hp;injection hp with hp;exact .inr ⟨e2,hs,by rw[hx,hp]⟩
    intro S3 w3 y h3 b4 G;refine Ae (Ad (Ad ?_));rcases b2 with⟨y',s4,rfl,hd,rfl⟩|⟨e1,rfl,c8,c7⟩
    .have a5:y=y'/\y≠0:=by
      rcases G with⟨M,_⟩|⟨M,h9⟩
      .exact absurd rfl (M y')
      .injection M with M;exact⟨M.symm,h9⟩
     obtain⟨rfl,c5⟩:=a5;have q1:((y:Int)==(0:Int))=false:=by simpa using c5
     simp only at a;unfold IG at hd;split at hd
     case isFalse=>cases hd
     rename_i c9;refine Be [(1,.F)] [0,1,2,6,7,8,9,13,184] [(13,I y),(184,bF)] (Bo (vB q1))<|Ae (B1 rfl (AZ (Ae (Ad (Eu (XJ (b6:=b6) (turn:=x.turn) (left:=x.left) (bu:=J) (x:=y) (VA:=VA) h3 b4 c9 fun S4 w4 h4 b3=>Ae ?_))))));have sc:=set_any h4.rep b3 y none hd;refine AY [AM 0 2,.one 2]<|AN [0,1,2,6,7,8,9,227,228] [qv 0 e,(1,VA),(2,I J),qv 6 b6,(7,N x.turn),(8,I x.left),(9,I 2000),qv 227 e,(228,I y)]<|BW 229 (sc.mono ?_);rintro en w5 ⟨rfl,S5,e7,r5,c2⟩;refine⟨_,rfl,.inl oK,BG [0,1,2,6,7,8,9]<|BN (BV (BF (m:=f) oO ⟨f,⟨s4,x.turn,x.left,x.z⟩,rfl,⟨p,S5,T,C,c0,ps,h4.E r5 c2,(e7 .E oS).trans b3,l,r,t6,c6,t4,c4⟩,a,rfl⟩))⟩
    .have a5:y=0:=by
      rcases G with⟨_,M⟩|⟨M,_⟩
      .exact M
      .exact absurd M (e1 y)
     subst a5;simp only[A0,Prod.mk.injEq] at a;obtain⟨rfl,rfl,rfl⟩:=a;refine Be [(1,.T)] [0,1,2,6,7,8,9,13,184] [(184,bT)] (Bo (vR:(.bool ((0:Int)==(0:Int)):Value)=bT))<|Ae (Bg rfl (Eu (XC (asm:=b) h3 b4 l r t6 c6 t4 c4 c8 c7 fun w4 h4=>Bc nR (BL (B6 nR (BL (Mx h4)))))))
 .have C0:Aj [(ad e 15,.bool Q.Z)] w1:= .cons o .nil;simp only[Option.isSome_some,true_or,if_true] at a;refine B8 [] [0,1,2,6,7,8,9,10,27] [qv 10 gc,(27,bT)]<|Ae (Bg rfl (Ad (Ad ?_)))
  cases hb:Q.Z with
  |true=>
   rw[hb] at o a;have C1:Aj [(ad e 15,bT)] w1:= .cons o .nil;simp only[true_or,if_true,A0,Prod.mk.injEq] at a;obtain⟨rfl,rfl,rfl⟩:=a;refine Fi [(3,.c 0)] [0,1,2,6,7,8,9,10,39] [(39,bT)] C1<|Ae (Bg rfl (Eu (eu (asm:=b) R v l r t6 c6 t4 c4 fun w2 A=>Bc nR (Bc nR (BL (B6 nR (BL (Mx A))))))))
  |false=>
   rw[hb] at o a;have⟨A6,c1,g1,e6,_,l6,m6⟩:=R.rep.startsE v;simp only[Cm,false_or] at a;by_cases M:Q.D.length=0
   .rw[if_pos M] at a;have q1:((Q.D.length:Int)==(0:Int))=true:=by simpa using M
    have C1:Aj [(ad e 15,bF),(ad e 6,sq A6 Q.D c1)] w1:= .cons o (.cons e6 .nil);refine BA [(3,.c 0),(8,.c 1),(10,.T)] [0,1,2,6,7,8,9,10,39] [(39,bT)] (Bo (vB q1)) C1 ?_;obtain⟨rfl,rfl,rfl⟩:=a;exact Ae (Bg rfl (Eu (eu (asm:=b) R v l r t6 c6 t4 c4 fun w2 A=>Bc nR (Bc nR (BL (B6 nR (BL (Mx A))))))))
   .rw[if_neg M] at a;have q1:((Q.D.length:Int)==(0:Int))=false:=by simpa using M
    have C1:Aj [(ad e 15,bF),(ad e 6,sq A6 Q.D c1)] w1:= .cons o (.cons e6 .nil);refine BA [(3,.c 0),(8,.c 1),(10,.F)] [0,1,2,6,7,8,9,10,39] [(39,bF)] (Bo (vB q1)) C1<|Ae (B1 rfl (AZ (Ae (Ad (Ad ?_)))));have o6:=R.cell 6 t6 (j:=3) (u:=N x.z) (by rw[c6];rfl);by_cases a0:(x.z:Int)=J
    .rw[if_pos a0] at a;have q2:((x.z:Int)==(J:Int))=true:=by simpa using a0
     have C2:Aj [(ad b6 3,N x.z)] w1:= .cons o6 .nil;refine BA [(1,.c 0),(3,.T)] [0,1,2,6,7,8,9,10,45] [(45,bT)] (Bo (vB q2)) C2 ?_;obtain⟨rfl,rfl,rfl⟩:=a;exact Ae (Bg rfl (Eu (mN (asm:=b) R v l r t6 c6 t4 c4 fun w2 A=>Bc nR (Bc nR (BL (B6 nR (BL (Mx A))))))))
    .rw[if_neg a0] at a;have q2:((x.z:Int)==(J:Int))=false:=by simpa using a0
     have C2:Aj [(ad b6 3,N x.z)] w1:= .cons o6 .nil;refine BA [(1,.c 0),(3,.F)] [0,1,2,6,7,8,9,10,45] [(45,bF)] (Bo (vB q2)) C2 ?_;by_cases U:x.z<=1000000/\-(lim:Int)<=x.left/\x.left<=(lim:Int)
     case neg=>rw[if_neg U] at a;cases a
     rw[if_pos U] at a
     cases d:ED x Q i with
     |none=>rw[d] at a;cases a
     |some a3=>
     rw[d] at a;obtain⟨s5,rfl⟩:∃s5,a3= .go ⟨s5,x.turn,x.left- 1,x.z+1⟩:=by
      unfold ED at d;split at d
      .cases d
      split at d
      .cases d
      split at d
      .cases d
      split at d
      .cases d
      exact⟨_,(Ah d).symm⟩
     have b5:E6 S1 i=vP gc 0:=by
      unfold E6 at b7⊢;rw[b9 _ (by rintro(⟨_,e⟩|e)<;>cases e)];exact b7
     exact Ae (B1 rfl (AZ (Ae (Eu (aN (turn:=x.turn) (left:=x.left) (bu:=J) (VA:=VA) R hB v l r t6 c6 t4 c4 hn0 U.1 U.2.1 U.2.2 b5 d fun w2 A=>Bc nX (Ck (BV (BF (m:=f) oO ⟨f,⟨s5,x.turn,x.left- 1,x.z+1⟩,rfl,A,a,rfl⟩))))))))
end Go.Proofs.YtboflajfckfphaaGreatDoor
namespace Go.Proofs.YtboflajfckfphaaGreatDoor
open Go.RowKit Bud Go Go.Sort Go.Proofs Go.Lib Go.Proofs.Tryz
set_option maxRecDepth 1000000
def RS:List Int->Int
 |[]=>0
 |x::r=>if x=0 then RS r else x
def mI:Sh:= .seq (.reg 3) (.seq (.cond (.tmp 9) .skip (.exit 0)) (.seq (.block 1 (.seq (.reg 4) (.seq (.reg 5) (.cond (.tmp 14) (.seq (.reg 6) .ret) .skip)))) (.reg 7)))
def mJ:Sh:= .seq (.reg 0) (.seq (.reg 1) (.seq (.seq (.reg 2) (.block 0 (.loop mI))) (.seq (.reg 8) .ret)))
theorem eW:f117.body=some (mJ.code f117):=oK
theorem Q1 {w:World} {g n c:Nat} {xs:List Int} (p:xs.length=n) (t:n<=lim) (q:∀(j:Nat) x,xs[j]?=some x->w.cell? (ad g j)=some (I x)):Cg 117 #[vS g n c] w fun r k=>r= .returned (I (RS xs))/\w=k:=by
 refine CN eW<|Ad<|B8 [] [0,2] [(2,I 0)]<|Ae (Ad<|B8 [] [0,2,3] [(3,I 0)]<|Ae (Ad (Ad<|B8 [] [0,2,3,6,7,8] [(6,vS g n c),(7,N n),(8,I 0)]<|Ae (Bd<|Ct (fun m L W=>∃i,L=[(0,vS g n c),(2,I 0),(3,I 0),(6,vS g n c),(7,N n),(8,N i)]/\W=w/\i<=n/\m=n-i/\RS xs=RS (xs.drop i)) (n:=n) ⟨0,rfl,rfl,oO,oO,oS⟩ ?_))));rintro m L W ⟨i,rfl,rfl,u,rfl,a⟩;refine Ad ?_;by_cases o:i<n
 .have q1:(i:Int)<(n:Int):=oO;refine Be [(0,.T)] [0,2,3,6,7,8,9] [(9,bT)] (Bo (EE q1))<|Ae (Ad<|Bg rfl (AZ (Ae (Ad (Bd (Ad ?_))))));obtain⟨y,d⟩:∃y,xs[i]?=some y:=⟨_,Ab oO⟩;have l:=q i y d;have q2:i<maxLen:=by unfold lim maxLen at*;omega
  have h:xs.drop i=y::xs.drop (i+1):=by
   rw[Co oO];rw[Ab oO] at d;rw[Ah d]
  have s:Aj [(ad g i,I y)] W:= .cons l .nil;refine BA [(1,.c 0)] [0,2,3,5,6,7,8] [(5,I y)] (Bo (oO:oX i n)) s<|Ae (Ad ?_);by_cases b:y=0
  .have q3:((y:Int)!=(0:Int))=false:=by simpa using b
   refine Be [(2,.F)] [0,2,3,5,6,7,8,14] [(14,bF)] (Bo (vB q3))<|Ae (B1 rfl (AZ (BN (Ae<|Be [(0,.e (N (i+1)))] [0,2,3,6,7,8] [(8,N (i+1))] (Bo (vJ (Ec q2 rfl))) ?_))));exact BV (BF (m:=n-(i+1)) oO ⟨i+1,rfl,rfl,oO,rfl,by rw[a,h];exact if_pos b⟩)
  .have q3:((y:Int)!=(0:Int))=true:=by simpa using b
   refine Be [(2,.T)] [0,2,3,5,6,7,8,14] [(14,bT)] (Bo (vB q3))<|Ae (Bg rfl (Ad<|B8 [] [2] [(2,I y)] ?_));exact Ae (Br (BL (Bc nR (B6 nR (BL (Bc nR (Bu rfl (v:=I y) rfl ⟨by rw[a,h];unfold RS;rw[if_neg b],rfl⟩)))))))
 .have q1:¬(i:Int)<(n:Int):=oO;refine Be [(0,.F)] [0,2,3,6,7,8,9] [(9,bF)] (Bo (Er q1))<|Ae (Ad<|B1 rfl (BQ (Bc nX (B6 nX (Ck (Ae (Ad ?_)))))));have f:i=n:=oO;refine B8 [] [2] [] ?_;exact Ae (Br (Bu rfl (v:=I 0) rfl ⟨by rw[a,f,<-p,List.drop_length];rfl,rfl⟩))
set_option maxHeartbeats 4000000 in
theorem VJ (x:Int) (c:B7 x<=maxLen) (w:World):Cg 291 #[.int .i64 x] w fun e a=>e= .returned (.int .i64 (B7 x:Int))/\w=a:=by
 have⟨f,b⟩:=S9 c;have d:(B7 x:Int)=max x (-x):=by unfold B7;omega
 rw[d];go_enter func291,ntmps291;go_wp2;go_ret;exact⟨rfl,rfl⟩
theorem LB (x y:Int) (w:World):Cg 118 #[I x,I y] w fun e a=>e= .returned (I (compareInt x y))/\w=a:=by
 have h:=AnyG.cmp_Compare_int Xt x y w;exact Calls.mono h fun e a ⟨b,h2⟩=>⟨b,h2.symm⟩
def G3 (x n:Int):Bool:=decide (x≠0/\-n<=x/\x<=n)
def Xx (x y:Int):Int:=RS [compareInt (B7 x:Int) (B7 y:Int),compareInt y x]
theorem kQ (x y:Int):ltOf Xx x y=decide (B7 x<B7 y∨(B7 x=B7 y/\y<x)):=by
 unfold ltOf Xx RS compareInt;by_cases c:B7 x<B7 y
 .simp[c]
 .by_cases e:B7 y<B7 x
  .have a:¬B7 x=B7 y:=oO;simp[c,e,a]
  .have a:B7 x=B7 y:=oO;by_cases b:y<x
   .simp[RS,a,b]
   .by_cases d:x<y<;>simp[RS,a,b,d]
theorem nI:SWO (ltOf Xx) where
 irrefl x:=by rw[kQ];simp
 trans x y z h1 h2:=by rw[kQ] at*;simp only[decide_eq_true_eq] at*;omega
 ntrans x y z h1 h2:=by rw[kQ] at*;simp only[decide_eq_false_iff_not] at*;omega
theorem nJ (x y:Int) (b:ltOf Xx x y=false) (a:ltOf Xx y x=false):x=y:=by rw[kQ] at*;simp only[decide_eq_false_iff_not] at*;omega
theorem ot:(fun x y:Int=>!ltOf Xx y x)=Hc:=by
 funext x y;rw[kQ,Dz,Kf];simp only[CL,decide_eq_false_iff_not];omega
def may0:Sh:= .seq (.reg 0) (.seq (.reg 1) .ret)
theorem gW:f100.body=some (may0.code f100):=oK
theorem VK (x n:Int) (g:0<=n/\n<=100000) (w:World):Cg 100 #[I x,I n] w fun e f=>e= .returned (.bool (G3 x n))/\w=f:=by
 refine CN gW<|Ad<|B8 [] [0,1,4] [(4,bF)]<|Ae (Ad ?_);have d:IntKind.i64.wrap (-(n:Int))=-n:=Bb _ oO;by_cases c:x=0
 .have q1:((x:Int)!=(0:Int))=false:=by simpa using c
  refine Be [(1,.F)] [0,1,4] [] (Bo (vB q1)) ?_;exact Ae (Br (Bu rfl (v:=bF) rfl ⟨by unfold G3;simp[c],rfl⟩))
 .have q1:((x:Int)!=(0:Int))=true:=by simpa using c
  by_cases a:-n<=x
  .by_cases b:x<=n
   .refine Be [(1,.T),(4,.e (I (-n))),(6,.T),(11,.T)] [0,1,4] [(4,bT)] (Sm (vB q1) (vJ d) (EE a) (EE b)) ?_;exact Ae (Br (Bu rfl (v:=bT) rfl ⟨by unfold G3;simp[c,a,b],rfl⟩))
   .refine Be [(1,.T),(4,.e (I (-n))),(6,.T),(11,.F)] [0,1,4] [] (Sm (vB q1) (vJ d) (EE a) (Er b)) ?_;exact Ae (Br (Bu rfl (v:=bF) rfl ⟨by unfold G3;simp[b],rfl⟩))
  .refine Be [(1,.T),(4,.e (I (-n))),(6,.F)] [0,1,4] [] (NW (vB q1) (vJ d) (Er a)) ?_;exact Ae (Br (Bu rfl (v:=bF) rfl ⟨by unfold G3;simp[a],rfl⟩))
def pB:Sh:= .seq (.reg 0) (.seq (.reg 1) .ret)
theorem kS:f289.body=some (pB.code f289):=oK
theorem gX (x:Int) (w:World):Cg 289 #[I x] w fun e a=>e= .returned (.bool (!G3 x 65536))/\w=a:=by
 refine CN kS<|Ad<|B8 [] [0,2] [(2,bF)]<|Ae (Ad<|Be (O:=[(∀a,CR none w a->Cg 100 #[I x,I 65536] a fun c b=>c=Ending.returned (.bool (G3 x 65536))/\a=b)]) [(1,.q (.bool (G3 x 65536)))] [0,2] [(2,.bool (!(G3 x 65536)))] ⟨(fun a e=>VK x 65536 oO a),trivial⟩<|Ae (Br (Bu rfl (v:= .bool (!(G3 x 65536))) rfl ⟨rfl,rfl⟩)))
def nd0:Sh:= .seq (.reg 0) (.seq (.reg 1) .ret)
theorem kT:f290.body=some (nd0.code f290):=oK
theorem ZH (w:World) (o:Obj):grow (w.drewN 0) #[o]=w.alloc o:=by
 unfold grow World.drewN World.alloc;simp
theorem gY (x y:Int) (m:B7 x<=maxLen) (l:B7 y<=maxLen) (w:World):Cg 290 #[I x,I y] w fun e a=>e= .returned (I (Xx x y))/\∃q k,a=grow (w.drewN q) k:=by
 refine CN kT<|Ad<|B8 [] [0,1,4] [(4,I 0)]<|Ae (Ad<|AY [Cu 0 8 [(1,.q (N (B7 x))),(3,.q (N (B7 y))),(4,.q (I (compareInt (B7 x:Int) (B7 y:Int)))),(7,.q (I (compareInt y x)))],.one 8,Cu 9 2 [(9,.q (I (Xx x y)))]]<|G4 (O:=[(∀a,CR none w a->Cg 291 #[I x] a fun d c=>d=Ending.returned (N (B7 x))/\a=c),(∀a,CR none w a->Cg 291 #[I y] a fun d c=>d=Ending.returned (N (B7 y))/\a=c),(∀a,CR none w a->Cg 118 #[N (B7 x),N (B7 y)] a fun d c=>d=Ending.returned (I (compareInt (B7 x:Int) (B7 y:Int)))/\a=c),(∀a,CR none w a->Cg 118 #[I y,I x] a fun d c=>d=Ending.returned (I (compareInt y x))/\a=c)]) [0,1,4,9,12] [(9,I (compareInt (B7 x:Int) (B7 y:Int))),(12,I (compareInt y x))] ⟨(fun a e=>VJ x m a),(fun a e=>VJ y l a),(fun a e=>LB _ _ a),(fun a e=>LB _ _ a),trivial⟩<|Ra 13 25 (compareInt (B7 x:Int) (B7 y:Int)) (compareInt y x) oK oK oK oK u25 (.inl oK) ?_);have g:∀(j:Nat) z,[compareInt (B7 x:Int) (B7 y:Int),compareInt y x][j]?=some z->(w.alloc (.cells #[I (compareInt (B7 x:Int) (B7 y:Int)),I (compareInt y x)] 3)).cell? (ad w.heap.size j)=some (I z):=fun j z f=>by
  match j,f with
  |0,f=>simp at f;simp[f]
  |1,f=>simp at f;simp[f]
 have h:=(ZH w (.cells #[I (compareInt (B7 x:Int) (B7 y:Int)),I (compareInt y x)] 3)).symm;generalize w.heap.size=b at g⊢;generalize(w.alloc (.cells #[I (compareInt (B7 x:Int) (B7 y:Int)),I (compareInt y x)] 3))=i at g h⊢;refine G4 (O:=[(∀a,CR none i a->Cg 117 #[vS b 2 2] a fun d c=>d=Ending.returned (I (Xx x y))/\a=c)]) [0,1,4] [(4,I (Xx x y))] ⟨(fun a e=>Q1 (xs:=[compareInt (B7 x:Int) (B7 y:Int),compareInt y x]) rfl (by unfold lim;omega) (e▸g)),trivial⟩<|AK<|Ae (Br (Bu rfl (v:=I (Xx x y)) rfl ⟨rfl,0,_,h⟩))
def pE:Sh:= .seq (.reg 0) (.seq (.reg 1) (.seq (.seq (.reg 2) (.cond (.tmp 12) (.seq (.reg 3) .ret) .skip)) (.seq (.seq (.reg 4) (.block 0 (.loop (.seq (.seq (.reg 5) (.cond (.tmp 19) .skip (.exit 0))) (.seq (.block 1 (.seq (.reg 7) (.seq (.reg 8) (.cond (.tmp 29) (.seq (.reg 9) (.reg 10)) .skip)))) (.reg 6)))))) (.seq (.reg 11) (.seq (.reg 12) .ret)))))
theorem kY:f49.body=some (pE.code f49):=oK
theorem Tq (A:Option Addr) (c:Nat) (b:Value) (w:World):Cg 49 #[.slice A 0 c,b] w fun e a=>e= .returned (.slice A 0 c)/\w=a:=by
 refine CN kY ?_;have f:∀w,Cg 120 #[.slice A 0 c,b] w fun e a=>e= .returned (I (-1))/\w=a:=fun w=>Calls.mono (AnyE.slices_IndexFunc_empty (ρ:=JR) {OE with} A c b w) fun e a ⟨g,h2⟩=>⟨g,h2.symm⟩
 refine Ad<|B8 [] [0,1,4] [(4,.slice none 0 0)]<|Ae (Ad<|Be (O:=[(∀a,CR none w a->Cg 120 #[.slice A 0 c,b] a fun h d=>h=Ending.returned (I (-1))/\a=d)]) [(2,.q (I (-1)))] [0,1,4,5] [(5,I (-1))] ⟨(fun a e=>f a),trivial⟩<|Ae (Ad (Ad<|Be [(1,.T)] [0,1,4,5,12] [(12,bT)] (Bo (vR:(.bool (((-1):Int)==(-1:Int)):Value)=bT))<|Ae (Bg rfl (Ad<|B8 [] [4] [(4,.slice A 0 c)]<|Ae (Br (Bc nR (Bu rfl (v:= .slice A 0 c) rfl ⟨rfl,rfl⟩))))))))
def pH:Sh:= .seq (.reg 0) (.seq (.seq (.reg 1) (.cond (.tmp 8) (.seq (.reg 2) .ret) .skip)) (.seq (.seq (.reg 3) (.block 0 (.loop (.seq (.seq (.reg 4) (.cond (.tmp 13) .skip (.exit 0))) (.seq (.block 1 (.seq (.reg 6) (.cond (.tmp 25) (.seq (.reg 7) (.seq (.seq (.reg 8) (.block 2 (.loop (.seq (.seq (.reg 9) (.cond (.tmp 32) .skip (.exit 2))) (.seq (.block 3 (.seq (.reg 11) (.cond (.tmp 44) (.seq (.reg 12) (.reg 13)) .skip))) (.reg 10)))))) (.seq (.reg 14) (.seq (.reg 15) .ret)))) .skip))) (.reg 5)))))) (.seq (.reg 16) .ret)))
theorem kZ:f292.body=some (pH.code f292):=oK
theorem ZI (A:Option Addr) (c:Nat) (w:World):Cg 292 #[.slice A 0 c] w fun e a=>e= .returned (.slice A 0 c)/\w=a:=by
 refine CN kZ<|Ad<|B8 [] [0,2] [(2,.slice none 0 0)]<|Ae (Ad (Ad<|Be [(2,.T)] [0,2,8] [(8,bT)] (Bo (vR:(.bool (decide (((0:Nat):Int)<(2:Int))):Value)=bT))<|Ae (Bg rfl (Ad<|B8 [] [2] [(2,.slice A 0 c)]<|Ae (Br (Bc nR (Bu rfl (v:= .slice A 0 c) rfl ⟨rfl,rfl⟩)))))))
section
variable{B n:Nat} {w:World} {V:Value} {xs:List Int}
theorem Fz (h:Ba B w V (3,1,n,xs.map I)):(V=An/\n=0/\xs=[])∨∃g c,V=vS g n c/\g<w.heap.size:=by
 have e:(xs.map I).length=n*1:=h.1;rcases h.2 with⟨b,a⟩|⟨g,cap,f,b,_,d,_⟩
 .have a:n=0:=a;subst a;exact .inl ⟨b,rfl,BY (by simpa using e)⟩
 .exact .inr ⟨g,cap,b,(Ak.1 d).1⟩
theorem VZ (h:Ba B w V (3,1,n,xs.map I)) (q:Int->Bool) (d:Nat) (lb:Array Value) (o:∀a w,(callFunc d a).run prog w= .ok (.enter d a) w)
  (l:∀W x,(∀g,V.ownBlock=some g->dM w g W)->Cg d (#[I x]++lb) W fun e b=>e= .returned (.bool (q x))/\W=b):
  Cg 49 #[V,.func (.func d) #[] lb] w fun m b=>∃j,m= .returned j/\Ba B b j (3,1,(xs.filter fun x=>!q x).length,(xs.filter fun x=>!q x).map I)/\w.grownBy b V.ownBlock/\j.ownBlock=V.ownBlock:=by
 rcases Fz h with⟨rfl,rfl,rfl⟩|⟨g,c,rfl,_⟩
 .exact(Tq none 0 _ w).mono fun e b ⟨i,h2⟩=>h2▸⟨_,i,h,World.grownBy.refl w _,rfl⟩
 .exact(Ov h q d lb o (fun W k x=>l W x fun p f=>by injection f with f;subst f;exact k)).mono fun e b ⟨i,h2,h3⟩=>⟨_,i,h2,h3,rfl⟩
theorem Wa (h:Ba B w V (3,1,n,xs.map I)):Cg 292 #[V] w fun f a=>∃d,f= .returned d/\Ba B a d (3,1,(Cj xs).length,(Cj xs).map I)/\w.grownBy a V.ownBlock/\d.ownBlock=V.ownBlock:=by
 rcases Fz h with⟨rfl,rfl,rfl⟩|⟨g,c,rfl,_⟩
 .exact(ZI none 0 w).mono fun e a ⟨b,h2⟩=>h2▸⟨_,b,h,World.grownBy.refl w _,rfl⟩
 .exact(Zn h).mono fun e a ⟨b,h2,h3⟩=>⟨_,b,h2,h3,rfl⟩
theorem Wb (h:Ba B w V (3,1,n,xs.map I)) (m:n<=lim) (b:Int->Int->Int) (s:SWO (ltOf b)) (p:∀x y,ltOf b x y=false->ltOf b y x=false->x=y) (P:Int->Prop) (j:P 0) (r:∀x∈xs,P x) (i:Nat) (k:Array Value) (z:∀a w,(callFunc i a).run prog w= .ok (.enter i a) w)
  (t:∀W x y,(∀g,V.ownBlock=some g->dM w g W)->P x->P y->Cg i (#[I x,I y]++k) W fun e d=>e= .returned (I (b x y))/\∃q l,d=grow (W.drewN q) l):
  Cg 115 #[V,.func (.func i) #[] k] w fun v d=>v= .returned (.tuple #[])/\Ba B d V (3,1,n,(xs.mergeSort fun x y=>!ltOf b y x).map I)/\w.grownBy d V.ownBlock:=by
 rcases Fz h with⟨rfl,rfl,rfl⟩|⟨g,c,rfl,f⟩
 .exact(SY none _).mono fun e d ⟨u,h2⟩=>h2▸⟨u,by simpa using h,World.grownBy.refl w _⟩
 .exact SX h m f b s p P j r i k z (fun W o x y=>t W x y fun A f=>by injection f with f;subst f;exact o)
end
theorem below_grown {w c a:World} {b:Option Nat} (h:Bl w c) (g:c.grownBy a b) (f:∀k,b=some k->w.heap.size<=k):Bl w a:=
 ⟨g.os.trans h.os,g.tape.trans h.tape,g.output.trans h.output,Bj h.size g.size,fun k d=>(g.block k (Bx d h.size) (fun e=>by have:=f k (by first|exact e|exact e.symm);omega)).trans (h.block k d)⟩
theorem Ns:∀(l:List Int),Jp l=true↔∃(j:Nat) (a b:Int),l[j]?=some a/\l[j+1]?=some b/\a=-b
 |[]=>by simp[Jp]
 |[x]=>by simp[Jp]
 |x::y::r=>by
  unfold Jp;rw[Cv,decide_eq_true_eq,Ns (y::r)];constructor
  .rintro(h|⟨j,a,b,d,c,e⟩)
   .exact⟨0,x,y,rfl,rfl,h⟩
   .exact⟨j+1,a,b,by simpa using d,by simpa using c,e⟩
  .rintro⟨j,a,b,d,c,e⟩
   match j,d,c with
   |0,d,c=>simp at d c;subst d c;exact .inl e
   |j+1,d,c=>exact .inr ⟨j,a,b,by simpa using d,by simpa using c,e⟩
def lP:Sh:= .seq (.reg 5) (.seq (.cond (.tmp 16) .skip (.exit 0)) (.seq (.block 1 (.seq (.reg 6) (.seq (.reg 7) (.cond (.tmp 32) (.seq (.reg 8) .ret) .skip)))) (.reg 9)))
def lQ:Sh:= .seq (.reg 0) (.seq (.reg 1) (.seq (.reg 2) (.seq (.reg 3) (.seq (.seq (.reg 4) (.block 0 (.loop lP))) (.seq (.reg 10) .ret)))))
theorem dX:f196.body=some (lQ.code f196):=oK
theorem Xz {w:World} {V:Value} {l:List Int} (h:Dj w V 1 l.length (l.map I)) (hl:l.length<=lim) (Z:∀x∈l,G3 x 65536=true):
 Cg 196 #[V] w fun O w'=>∃V',O= .returned (.tuple #[V',.bool (Jp (Dd l))])/\Ba w.heap.size w' V' (3,1,(Dd l).length,(Dd l).map I)/\Bl w w':=by
 have G:∀x,G3 x 65536=true->B7 x<=maxLen/\-65536<=x/\x<=65536:=fun x f=>by
  have:=of_decide_eq_true f;refine⟨?_,this.2⟩;unfold B7 maxLen;omega
 refine CN dX<|Ad<|B8 [] [0,2,3] [(2,.slice none 0 0),(3,bF)]<|Ae (Ad<|AY [AM 0 1,.one 1,.one 2,AM 3 1]<|AN [0,2,3,6] [(6,V)]<|BW 7 ((KR h hl).mono ?_));rintro O w1 ⟨V1,rfl,p1,b1⟩;refine⟨_,rfl,.inl oK,BW 8 ((VZ p1 (fun x=>!G3 x 65536) 289 #[] (enters_of func289 oK rfl) (fun W x _=>gX x W)).mono ?_)⟩;have M:(l.filter fun x=>!!G3 x 65536)=l:=List.filter_eq_self.2 fun x f=>by rw[Z x f];rfl
 rw[M];rintro O w2 ⟨V2,rfl,p2,g2,o2⟩;refine⟨_,rfl,.inl oK,?_⟩;have lo:∀k,V1.ownBlock=some k->w.heap.size<=k:=fun k s=>(Ax p1 k s).1
 have b2:=below_grown b1 g2 lo;refine AN [0,2,3,4] [(4,V2)]<|AK<|Ae (Ad<|AY [AM 0 1,.one 1]<|AN [0,2,3,4,9] [(9,V2)]<|BW 10 ((Wb p2 hl Xx nI nJ (fun x=>B7 x<=maxLen) oD (fun x f=>(G x (Z x f)).1) 290 #[] (enters_of func290 oK rfl) (fun W x y _ f r=>gY x y f r W)).mono ?_));rw[ot];rintro O w3 ⟨rfl,p3,g3⟩;refine⟨_,rfl,.inl oK,?_⟩;have b3:=below_grown b2 g3 (fun k s=>lo k (o2▸s));refine BG [0,2,3,4]<|Ae (Ad<|AY [AM 0 1,.one 1,AM 2 1]<|AN [0,2,3,4,11] [(11,V2)]<|BW 12 ((Wa (xs:=sortL l) p3).mono ?_));rintro O R ⟨V4,rfl,p4,o,o4⟩;refine⟨_,rfl,.inl oK,?_⟩;have C:=below_grown b3 o (fun k s=>lo k (o2▸s));refine AN [0,2,3,4] [(4,V4)]<|AK<|Ae (Ad (Ad ?_));have S:Ba w.heap.size R V4 (3,1,(Dd l).length,(Dd l).map I):=p4;have H:∀x∈Dd l,-65536<=x/\x<=65536:=fun x f=>(G x (Z x (SK f))).2
 obtain⟨D,q,rfl⟩:=Cr S;generalize a4:Dd l=xs at S H⊢;have a6:xs.length<=maxLen:=by
  rcases S.2 with⟨A,U⟩|⟨_,cap,_,_,_,_,h5,h6,_⟩
  .have U:xs.length=0:=U;omega
  .exact Bj h5 h6
 refine B8 [] [2,3,4,14,15] [(4,.slice D xs.length q),(14,N xs.length),(15,I 0)]<|Ae (Bd ?_);have b0:Bl R R:=Below.refl _ _;refine Ct (fun m L W=>∃i,L=[(2,.slice none 0 0),(3,bF),(4,.slice D xs.length q),(14,N xs.length),(15,N i)]/\Bl R W/\i<=xs.length/\m=xs.length-i/\∀(j:Nat) a b,j+1<i->xs[j]?=some a->xs[j+1]?=some b->¬a=-b) (n:=xs.length) ⟨0,rfl,b0,oO,oO,fun j a b hj=>oO⟩ ?_;rintro m L W ⟨i,rfl,t,hi,rfl,J⟩;have pW:Ba w.heap.size W (.slice D xs.length q) (3,1,xs.length,xs.map I):=own_below S t (Ai _);have Q:Bl w W:=⟨t.os.trans C.os,t.tape.trans C.tape,t.output.trans C.output,Bj C.size t.size,fun k s=>(t.block k (Bx s C.size)).trans (C.block k s)⟩;refine Ad ?_;by_cases a0:i<xs.length
 .have q1:(i:Int)<(xs.length:Int):=oO;refine Be [(0,.T)] [2,3,4,14,15,16] [(16,bT)] (Bo (EE q1))<|Ae (Ad<|Bg rfl (AZ (Ae (Ad (Bd (Ad ?_))))));obtain⟨o,k4,u⟩:∃g k,Value.slice D xs.length q=vS g xs.length k:=by
   rcases Fz pW with⟨_,A,_⟩|⟨g,k,A,_⟩
   .omega
   .exact⟨g,k,A⟩
  injection u with u _ a1;subst u a1;obtain⟨b,z⟩:∃y,xs[i]?=some y:=⟨_,Ab a0⟩;have P:∀(j:Nat) y,xs[j]?=some y->W.drew.cell? (ad o j)=some (I y):=fun j y r=>by
   have a5:=(Aa.1 r).1;have:=Ed pW j (by show j<xs.length*1;omega);rw[show W.drew.cell? (ad o j)=W.cell? (ad o j) from rfl,this];simp[r]
  have ob:=P i b z;have q2:i<maxLen:=oO;refine B8 [] [2,3,4,5,14,15] [(4,vS o xs.length q),(5,N i)]<|Ae (Ad ?_);rcases D6 i with rfl|a3
  .have q3:¬(0:Int)<(((0:Nat):Nat):Int):=oO;refine Dr [] (Gi [(1,.F)] 0 15) [] [2,3,4,5,14,15,32] [(5,N 0),(15,N 0),(32,bF)] (Bo (Er q3)) .nil<|AK<|Ae (B1 rfl (AZ (BN (Ae<|Be [(0,.e (N (0+1)))] [2,3,4,14,15] [(15,N (0+1))] (Bo (vJ (Ec q2 rfl)))<|BV (BF (m:=xs.length-(0+1)) oO ⟨0+1,rfl,t.drew,oO,rfl,fun j a b hj=>oO⟩)))))
  .have q3:(0:Int)<(i:Int):=oO;obtain⟨d,rfl⟩:∃d,i=d+1:=⟨i- 1,oO⟩;obtain⟨a,ha⟩:∃y,xs[d]?=some y:=⟨_,Ab oO⟩;have oa:=P d a ha;have q4:IntKind.i64.wrap (((d+1:Nat):Int)-(1:Int))=(d:Int):=by rw[Bb _ (by unfold maxLen at q2;omega)];omega
   have a7:=H b (AQ z);have q5:IntKind.i64.wrap (-(b:Int))=-b:=Bb _ oO;have C0:Aj [(ad o d,I a),(⟨o,(d+1),none⟩,I b)] W.drew:= .cons oa (.cons ob .nil);by_cases p:a=-b
   .have Y:((a:Int)==(-b:Int))=true:=by simpa using p
    refine Dr [] (Gi [(1,.T),(5,.e (N d)),(7,.c 0),(11,.c 1),(12,.e (I (-b))),(13,.T)] 0 15) [] [2,3,4,5,14,15,32] [(5,N (d+1)),(15,N (d+1)),(32,bT)] (jJ (EE q3) (vJ q4) (oO:oX d xs.length) (oO:oX (((d+1):Nat):Int) xs.length) (vJ q5) (vB Y)) C0<|AK<|Ae (Bg rfl (Ad<|B8 [] [2,3] [(2,vS o xs.length q),(3,bT)] ?_));have ht:Jp xs=true:=(Ns xs).2 ⟨d,a,b,ha,z,p⟩;exact Ae (Br (BL (Bc nR (B6 nR (BL (Bc nR (LD rfl (v:=vS o xs.length q) (x:=bT) rfl rfl ⟨_,by rw[ht],pW,Q.drew⟩)))))))
   .have Y:((a:Int)==(-b:Int))=false:=by simpa using p
    refine Dr [] (Gi [(1,.T),(5,.e (N d)),(7,.c 0),(11,.c 1),(12,.e (I (-b))),(13,.F)] 0 15) [] [2,3,4,5,14,15,32] [(5,N (d+1)),(15,N (d+1)),(32,bF)] (jJ (EE q3) (vJ q4) (oO:oX d xs.length) (oO:oX (((d+1):Nat):Int) xs.length) (vJ q5) (vB Y)) C0<|AK<|Ae (B1 rfl (AZ (BN (Ae<|Be [(0,.e (N (d+1+1)))] [2,3,4,14,15] [(15,N (d+1+1))] (Bo (vJ (Ec q2 rfl)))<|BV (BF (m:=xs.length-(d+1+1)) oO ⟨d+1+1,rfl,t.drew,oO,rfl,fun j x y hj f r=>?_⟩)))));by_cases a2:j=d
    .subst a2;rw[ha] at f;rw[z] at r;rw[<-Ah f,<-Ah r];exact p
    .exact J j x y oO f r
 .have q1:¬(i:Int)<(xs.length:Int):=oO;refine Be [(0,.F)] [2,3,4,14,15,16] [(16,bF)] (Bo (Er q1))<|Ae (Ad<|B1 rfl (BQ (Bc nX (B6 nX (Ck (Ae (Ad<|B8 [] [2,3] [(2,.slice D xs.length q)] ?_)))))));have ht:Jp xs=false:=by
   cases z:Jp xs with
   |false=>rfl
   |true=>
    have⟨j,a,b,h1,A,U⟩:=(Ns xs).1 z;exact absurd U (J j a b (by have:=(Aa.1 A).1;omega) h1 A)
  exact Ae (Br (LD rfl (v:= .slice D xs.length q) (x:=bF) rfl rfl ⟨_,by rw[ht],pW,Q⟩))
end Go.Proofs.YtboflajfckfphaaGreatDoor
namespace Go.Proofs.YtboflajfckfphaaGreatDoor
open Go.RowKit Bud Go
set_option maxRecDepth 1000000
section
section
variable{B:Nat} {p:Px} {s:St} {S:Sl} {a w:World} {T:Nat->Value} {C:Nat->Cn} {bs:List (Nat×Obj)}
def Gy (S:Sl) (n g:Nat):Sl:=Dq S (.cl n) (vS g 0 1)
variable{g:Nat}
theorem aX {S:Sl} {n:Nat}:E6 (Gy S n g) n=vP g 0:=by unfold E6 Gy;rw[Fe];rfl
theorem Wj (f:Hs s=true) (g:Nat) (r:Ro):cont p s (Gy S s.K.length g) r=cont p s S r:=by
 have⟨d1,d2,d3⟩:=P9 f;have old:∀c,c<s.K.length->E6 (Gy S s.K.length g) c=E6 S c:=fun c h=>by
  unfold E6 Gy;rw[CE _ _ oT]
 cases r with
 |Y=>
  simp only[cont];rw[Di (g:=IS S) fun y d=>?_]
  cases y with
  |none=>rfl
  |some c=>exact old c (d3 _ d c rfl)
 |Q=>
  simp only[cont];rw[Di (g:=E6 S) fun y d=>old y (d2 y d)]
 |row k=>
  simp only[cont]
  cases e:s.W[k]? with
  |none=>rfl
  |some b=>
   simp only;rw[Di (g:=E6 S) fun y d=>old y (d1 k b e y d)]
 |_=>rfl
theorem Loc.pend (h:Loc B p s noS S a w T C bs) (A:B<=a.heap.size) (q:Hs s=true) (j:Array Value) (v:j.size=4):
  Loc B p s noS (Gy S s.K.length w.heap.size) a (w.alloc (.cells j 239)) T C bs:=by
 have o:(w.alloc (.cells j 239)).heap[w.heap.size]?=some (.cells j 239):=heap_alloc_new w _;have u:Bl w (w.alloc (.cells j 239)):=(Below.refl _ _).alloc (Ai _) _;have d:=h.below u;have i:∀r b,(Gy S s.K.length w.heap.size r).ownBlock=some b->(r= .cl s.K.length/\b=w.heap.size)∨(r≠ .cl s.K.length/\(S r).ownBlock=some b):=fun r b c=>by
  by_cases e:r= .cl s.K.length
  .subst e;unfold Gy at c;rw[Fe] at c;exact .inl ⟨rfl,(Ah c).symm⟩
  .unfold Gy at c;rw[CE _ _ e] at c;exact .inr ⟨e,c⟩
 have z:(s.K[s.K.length]?)=none:=BX (Ai _);refine⟨⟨fun r=>?_,fun r t b l y x=>?_,d.rep.base⟩,⟨d.st.os,d.st.tape,d.st.output,d.st.size,d.st.keep,fun r b c=>?_⟩,d.part,d.apart,fun k b m r c=>?_,d.mks⟩
 .rw[Wj q];by_cases e:r= .cl s.K.length
  .subst e;unfold Gy;rw[Fe];simp only[cont,z];exact⟨oS,.inr ⟨w.heap.size,1,j,rfl,h.rep.base,o,Ha _,oD,by simp[v],oS⟩⟩
  .unfold Gy;rw[CE _ _ e];exact d.rep.part r
 .rcases i r b y with⟨n,f⟩|⟨n,f⟩<;>rcases i t b x with⟨f1,f2⟩|⟨f1,f2⟩
  .exact l (n.trans f1.symm)
  .have:=(h.rep.lo f2).2;omega
  .have:=(h.rep.lo f).2;omega
  .exact h.rep.apart r t b l f f2
 .rcases i r b c with⟨_,f⟩|⟨_,f⟩
  .exact .inr (by rw[f];exact h.st.size)
  .exact h.st.own r b f
 .rcases i r b c with⟨_,f⟩|⟨_,f⟩
  .have:=(h.lo m).2;omega
  .exact h.out k b m r f
theorem N9 {x:Cl} {lv:Int} {V:Value} (l:E6 S s.K.length=vP g 0) (r:Ro) (n:r≠ .cl s.K.length) (m:r≠ .lit s.K.length):
  EX S s.K.length g V r=S r/\cont (Ko p s.K.length lv) {s with K:=s.K++[x]} (EX S s.K.length g V) r=cont p s S r:=by
 have f:∀c,E6 (EX S s.K.length g V) c=E6 S c:=fun c=>by
  by_cases e:c=s.K.length
  .rw[e,NL,l]
  .exact Vm e
 have d:E6 (EX S s.K.length g V)=E6 S:=funext f;have o:IS (EX S s.K.length g V)=IS S:=by
  funext y
  cases y with
  |none=>rfl
  |some c=>exact f c
 have j:∀i,i≠s.K.length->(s.K++[x])[i]?=s.K[i]?:=fun i b=>by
  rcases Do i s.K.length with h|h
  .exact AW h
  .rw[BX oT,BX h]
 cases r with
 |Y=>exact⟨rfl,by simp only[cont];rw[o]⟩
 |Q=>exact⟨rfl,by simp only[cont];rw[d]⟩
 |row k=>exact⟨rfl,by simp only[cont];rw[d]⟩
 |cl i=>
  have b:i≠s.K.length:=fun e=>n (by rw[e])
  refine⟨if_neg b,?_⟩;simp only[cont];rw[j i b]
  cases s.K[i]? with
  |none=>rfl
  |some c=>simp only[FN,EX,Ko,if_neg b]
 |lit i=>
  have b:i≠s.K.length:=fun e=>m (by rw[e])
  refine⟨if_neg b,?_⟩;simp only[cont];rw[j i b]
 |_=>exact⟨rfl,rfl⟩
theorem Loc.adopt (h:Loc B p s noS S a w T C bs) (L:B<=a.heap.size) (k:Nat) (D:S (.cl s.K.length)= vS g 0 1) {l:List Int} (J:C k=(3,1,l.length,l.map I)) (b:Bool) (q act:Int)
  (z:w.heap[g]?=some (.cells #[T k,.bool b,I q,I act] 239 (0,0))):
  Loc B (Ko p s.K.length q) {s with K:=s.K++[⟨l,b,act⟩]} noS (EX S s.K.length g (T k)) a w (CI T k An) (CI C k F1) bs:=by
 have y:E6 S s.K.length=vP g 0:=by unfold E6;rw[D];rfl
 have G:EX S s.K.length g (T k) (.cl s.K.length)=vS g 1 1:=if_pos rfl;have el:EX S s.K.length g (T k) (.lit s.K.length)=T k:=if_pos rfl;have own:(S (.cl s.K.length)).ownBlock=some g:=by rw[D];rfl
 have u:∀r c,(EX S s.K.length g (T k) r).ownBlock=some c->(r= .cl s.K.length/\(S r).ownBlock=some c)∨(r= .lit s.K.length/\(T k).ownBlock=some c)∨(r≠ .cl s.K.length/\r≠ .lit s.K.length/\(S r).ownBlock=some c):=fun r c o=>by
  by_cases n:r= .cl s.K.length
  .subst n;rw[G] at o;have:g=c:=Ah o;exact .inl ⟨rfl,this▸own⟩
  by_cases i:r= .lit s.K.length
  .subst i;rw[el] at o;exact .inr (.inl ⟨rfl,o⟩)
  .rw[(N9 (p:=p) (x:=⟨l,b,act⟩) (lv:=q) y r n i).1] at o;exact .inr (.inr ⟨n,i,o⟩)
 have old:∀r c,(EX S s.K.length g (T k) r).ownBlock=some c->(∃t,(S t).ownBlock=some c)∨(T k).ownBlock=some c:=fun r c o=>by
  rcases u r c o with⟨_,e⟩|⟨_,e⟩|⟨_,_,e⟩
  .exact .inl ⟨_,e⟩
  .exact .inr e
  .exact .inl ⟨_,e⟩
 refine⟨⟨fun r=>?_,fun r t c f n i=>?_,h.rep.base⟩,⟨h.st.os,h.st.tape,h.st.output,h.st.size,h.st.keep,fun r c o=>?_⟩,fun j=>?_,fun j m c f n i=>?_,fun j c v r o=>?_,h.mks⟩
 .by_cases n:r= .cl s.K.length
  .subst n;rw[G];have d:cont (Ko p s.K.length q) {s with K:=s.K++[⟨l,b,act⟩]} (EX S s.K.length g (T k)) (.cl s.K.length)=(239,4,1,[T k,.bool b,I q,I act]):=by
    simp[cont,FN,EX,Ko]
   rw[d];exact⟨rfl,.inr ⟨g,1,#[T k,.bool b,I q,I act],rfl,(h.rep.lo own).1,z,Ai 1,oD,oS,oS⟩⟩
  by_cases i:r= .lit s.K.length
  .subst i;rw[el];have d:cont (Ko p s.K.length q) {s with K:=s.K++[⟨l,b,act⟩]} (EX S s.K.length g (T k)) (.lit s.K.length)=(3,1,l.length,l.map I):=by
    simp[cont]
   rw[d,<-J];exact(h.part k).mono fun c H=>⟨Bj L (h.lo H).1,rfl⟩
  .have⟨A,d⟩:=N9 (p:=p) (S:=S) (g:=g) (V:=T k) (x:=⟨l,b,act⟩) (lv:=q) y r n i;rw[A,d];exact h.rep.part r
 .rcases u r c n with⟨A,d⟩|⟨A,d⟩|⟨_,_,d⟩<;>rcases u t c i with⟨f1,f2⟩|⟨f1,f2⟩|⟨_,_,f2⟩
  .exact f (A.trans f1.symm)
  .exact h.out k c f2 r d
  .exact h.rep.apart r t c f d f2
  .exact h.out k c d t f2
  .exact f (A.trans f1.symm)
  .exact h.out k c d t f2
  .exact h.rep.apart r t c f d f2
  .exact h.out k c f2 r d
  .exact h.rep.apart r t c f d f2
 .rcases old r c o with⟨t,e⟩|e
  .exact h.st.own t c e
  .exact .inr (h.lo e).1
 .by_cases e:j=k
  .subst e;rw[AB,AB];exact⟨rfl,.inl ⟨rfl,rfl⟩⟩
  .rw[Au _ _ e,Au _ _ e];exact h.part j
 .by_cases e:j=k
  .subst e;rw[AB] at n;cases n
  .by_cases d:m=k
   .subst d;rw[AB] at i;cases i
   .rw[Au _ _ e] at n;rw[Au _ _ d] at i;exact h.apart j m c f n i
 .by_cases e:j=k
  .subst e;rw[AB] at v;cases v
  .rw[Au _ _ e] at v;rcases old r c o with⟨t,d⟩|d
   .exact h.out j c v t d
   .exact h.apart j k c e v d
end
end
end Go.Proofs.YtboflajfckfphaaGreatDoor
namespace Go.Proofs.YtboflajfckfphaaGreatDoor
open Go.RowKit Bud Go Go.Proofs.Tryz
set_option maxRecDepth 1000000
def nl:Sh:= .seq (.reg 0) (.seq (.reg 1) (.block 0 (.seq (.reg 3) (.cond (.tmp 21) .skip (.seq (.reg 4) (.cond (.tmp 23) (.reg 5) (.seq (.reg 6) (.cond (.tmp 30) (.seq (.reg 7) (.cond (.tmp 39) (.reg 8) (.seq (.reg 9) (.cond (.tmp 48) (.reg 10) .skip)))) (.reg 2)))))))))
theorem iN:f102.body=some (nl.code f102):=oK
def iO (B:Nat) (p:Px) (t:St) (c:World) (T:Nat->Value) (C:Nat->Cn) (e g:Nat) (f:Ending) (d:World):Prop:=
 f= .returned (.tuple #[])/\∃a b,Loc B a t noS b c d T C []/\b .E=vS e 1 g/\a.proof=p.proof
theorem take_any {B:Nat} {s t:St} {S:Sl} {w0 w:World} {p:Px} {T:Nat->Value} {C:Nat->Cn} {e c0 i:Nat} {V:Value} {l:List Int} {b:Bool} {R act:Int} (h:Loc B p s noS S w0 w T C []) (hB:B<=w0.heap.size) (he:S .E=vS e 1 c0)
 (hk:S (.cl s.K.length)= vS i 0 1) (A:w.heap[i]?=some (.cells #[V,.bool b,I R,I act] 239 (0,0))) (hV:Dj w0 V 1 l.length (l.map I)) (hl:l.length<=lim) (a4:∀x∈l,G3 x 65536=true) (t1:T 1=An) (c1:C 1=F1)
 (a:M6 {s with K:=s.K++[⟨Dd l,b,act⟩]} (Dd l) s.K.length=some t):
 Cg 102 #[vP e 0,vP i 0] w (iO B p t w0 T C e c0):=by
 refine CN iN<|Ad ?_;have o0:w.cell? (ad i 0)=some V:=by rw[cell_of_row _ _ _ _ _ _ A];rfl
 have C0:Aj [(ad i 0,V)] w:= .cons o0 .nil;refine AY [Cu 0 4 [(3,.c 0)],.one 4,AM 5 5]<|DO [0,1,10] [(10,V)] C0<|BW 11 ((Xz (hV.below h.bel) hl a4).mono ?_);rintro u w1 ⟨V1,rfl,p1,b1⟩;refine⟨_,rfl,.inl oK,?_⟩;have h1:=h.gain (h.rep.still b1).1 (h.rep.still b1).2 1 p1 (fun b hb r Z=>by
  have:=(Ax p1 b hb).1;have:=(h.rep.lo Z).2;omega)
 have a5:i<w.heap.size:=(Ak.1 A).1;have z:w1.heap[i]?=some (.cells #[V,.bool b,I R,I act] 239 (0,0)):=(b1.block i a5).trans A;obtain⟨n,j,rfl⟩:=Cr p1;refine AN [0,1,4,5] [(4,.slice n ((Dd l).length) j),(5,.bool (Jp (Dd l)))]<|AK<|Ae (Ad ?_);have o1:w1.cell? (ad i 0)=some V:=by rw[cell_of_row _ _ _ _ _ _ z];rfl
 have⟨a8,a2⟩:=h1.rep.put (.cl s.K.length) hk 0 (.slice n (Dd l).length j) (by simp[cont]) (fun t ht=>rfl);have f1:=h1.rep.free (.cl s.K.length) hk 0;have h2:=h1.E a8 a2;have J:(w1.setCell (ad i 0) (.slice n (Dd l).length j)).heap[i]?=some (.cells #[.slice n (Dd l).length j,.bool b,I R,I act] 239 (0,0)):=by
  unfold World.setCell;simp[z,DN]
 refine AY [AM 0 4,.one 4]<|AN [0,1,4,5,15,17] [(15,.slice n ((Dd l).length) j),qv 17 i]<|Cz (.slice n ((Dd l).length) j) o1 f1<|BG [0,1,4,5] ?_;have g:=h2.adopt hB 1 hk (l:=Dd l) (AB _ _ _) b R act (by rw[AB];exact J);rw[GG,GG,AB,<-t1,<-c1,EZ,EZ] at g;generalize a3:({s with K:=s.K++[⟨Dd l,b,act⟩]}:St)=s3 at g a;have a1:s3.K[s.K.length]?=some ⟨Dd l,b,act⟩:=by rw[<-a3];simp
 have d:EX S s.K.length i (.slice n (Dd l).length j) .E=vS e 1 c0:=he;have H:EX S s.K.length i (.slice n (Dd l).length j) (.lit s.K.length)= .slice n (Dd l).length j:=if_pos rfl;have D:E6 (EX S s.K.length i (.slice n (Dd l).length j)) s.K.length=vP i 0:=NL;have o:(Ko p s.K.length R).proof=p.proof:=rfl;generalize EX S s.K.length i (.slice n (Dd l).length j)=S3 at g d H D;generalize Ko p s.K.length R=Q at g o;generalize(w1.setCell (ad i 0) (.slice n (Dd l).length j))=P at g⊢;generalize s.K.length=k at a1 H D a;generalize Dd l=xs at*;unfold M6 at a;refine Ae (Bd (Ad ?_))
 cases Y:Jp xs with
 |true=>
  rw[Y] at a;rw[if_pos rfl] at a;obtain rfl:=Ah a;refine B8 [] [0,1,4,5,21] [(4,sq n xs j),(5,bT),(21,bT)]<|Ae (Bg rfl (AZ (BN (Fu rfl ⟨rfl,Q,S3,g,d,o⟩))))
 |false=>
  rw[Y] at a;rw[if_neg oS] at a;refine B8 [] [0,1,4,5,21] [(4,sq n xs j),(5,bF),(21,bF)]<|Ae (B1 rfl (Ad ?_))
  match xs,a with
  |[],a=>
   simp only[A0] at a;obtain rfl:=a;refine Be [(2,.T)] [0,1,4,23] [(4,.slice n (([]:List Int).length) j),(23,bT)] (Bo (vR:(.bool (((([]:List Int).length:Nat):Int)==(0:Int)):Value)=bT))<|Ae (Bg rfl ?_);have⟨_,_,_,_,M,fe,_⟩:=g.rep.engF d;have⟨Z,st⟩:=g.rep.putBroken d true;refine AY [AM 0 3,.one 3]<|AN [0,1,4,29] [(29,vP e 15)]<|Cz bT M (fe 15)<|BG []<|BN (Fu rfl ⟨rfl,Q,S3,g.E Z st,d,o⟩)
  |[y],a=>
   refine Be (O:=[(.bool ((([y].length:Nat):Int)==(0:Int)):Value)=bF]) [(2,.F)] [0,1,4,23] [(4,.slice n ([y].length) j),(23,bF)] ⟨(vB oS),trivial⟩<|Ae (B1 rfl (Ad<|Be (O:=[(.bool ((([y].length:Nat):Int)==(1:Int)):Value)=bT]) [(2,.T)] [0,1,4,30] [(30,bT)] ⟨(vB oS),trivial⟩<|Ae (Bg rfl (Ad ?_))));simp only at a;have⟨g1,cap,a0,_,_,a6,_⟩:=g.rep.litA a1 oS;rw[H] at a0;injection a0 with a7 _ hk1;subst a7 hk1;have oy:=a6 0 y oS
   cases v:KK s3 y with
   |none=>rw[v] at a;cases a
   |some r=>
   rw[v] at a;have U:Aj [(ad g1 0,I y)] P:= .cons oy .nil
   match r,a,v with
   |some false,a,v=>
    refine BA (O:=[0<=(0:Int)/\(0:Int)<((1:Nat):Int),(∀f,CR none P f->Cg 110 #[vP e 0,I y] f fun u m=>u=Ending.returned (.int .i8 (-1))/\f=m),(.bool (decide (((-1):Int)<(0:Int))):Value)=bT]) [(3,.c 0),(4,.q (.int .i8 (-1))),(5,.T)] [0,1,4,39] [(4,vS g1 1 j),(39,bT)] ⟨oO,(fun f e=>e▸G7 g.rep d y v),(vB oD),trivial⟩ U ?_;simp only[A0] at a;obtain rfl:=a;refine Ae (Bg rfl ?_);have⟨_,_,_,_,M,fe,_⟩:=g.rep.engF d;have⟨Z,st⟩:=g.rep.putBroken d true;refine AY [AM 0 3,.one 3]<|AN [0,1,4,42] [(42,vP e 15)]<|Cz bT M (fe 15)<|BG []<|BN (Fu rfl ⟨rfl,Q,S3,g.E Z st,d,o⟩)
   |some true,a,v=>
    refine BA (O:=[0<=(0:Int)/\(0:Int)<((1:Nat):Int),(∀f,CR none P f->Cg 110 #[vP e 0,I y] f fun u m=>u=Ending.returned (.int .i8 1)/\f=m),(.bool (decide ((1:Int)<(0:Int))):Value)=bF]) [(3,.c 0),(4,.q (.int .i8 1)),(5,.F)] [0,1,4,39] [(4,vS g1 1 j),(39,bF)] ⟨oO,(fun f e=>e▸G7 g.rep d y v),(vB oD),trivial⟩ U<|Ae (B1 rfl (Ad<|BA (O:=[0<=(0:Int)/\(0:Int)<((1:Nat):Int),(∀f,CR none P f->Cg 110 #[vP e 0,I y] f fun u m=>u=Ending.returned (.int .i8 1)/\f=m),(.bool ((1:Int)==(0:Int)):Value)=bF]) [(3,.c 0),(4,.q (.int .i8 1)),(5,.F)] [0,1,4,48] [(48,bF)] ⟨oO,(fun f e=>e▸G7 g.rep d y v),(vB oD),trivial⟩ U ?_));simp only[A0] at a;obtain rfl:=a;exact Ae (B1 rfl (AZ (BN (Fu rfl ⟨rfl,Q,S3,g,d,o⟩))))
   |none,a,v=>
    refine BA (O:=[0<=(0:Int)/\(0:Int)<((1:Nat):Int),(∀f,CR none P f->Cg 110 #[vP e 0,I y] f fun u m=>u=Ending.returned (.int .i8 0)/\f=m),(.bool (decide ((0:Int)<(0:Int))):Value)=bF]) [(3,.c 0),(4,.q (.int .i8 0)),(5,.F)] [0,1,4,39] [(4,vS g1 1 j),(39,bF)] ⟨oO,(fun f e=>e▸G7 g.rep d y v),(vB oD),trivial⟩ U<|Ae (B1 rfl (Ad<|BA (O:=[0<=(0:Int)/\(0:Int)<((1:Nat):Int),(∀f,CR none P f->Cg 110 #[vP e 0,I y] f fun u m=>u=Ending.returned (.int .i8 0)/\f=m),(.bool ((0:Int)==(0:Int)):Value)=bT]) [(3,.c 0),(4,.q (.int .i8 0)),(5,.T)] [0,1,4,48] [(48,bT)] ⟨oO,(fun f e=>e▸G7 g.rep d y v),(vB oD),trivial⟩ U ?_));simp only at a;have sc:=set_any g.rep d y (some k) a;rw[show IS S3 (some k)=vP i 0 from D] at sc;refine Ae (Bg rfl<|AY [Cu 0 5 [(3,.c 0)],.one 5]<|E3 [0,1,4,49,52,53] [qv 49 e,(52,I y),qv 53 i] (Bo (oO:oX 0 1)) U<|BW 54 (sc.mono ?_));rintro u w4 ⟨rfl,S4,L,r4,G⟩;refine⟨_,rfl,.inl oK,BG []<|BN (Fu rfl ⟨rfl,Q,S4,g.E r4 G,(L .E oS).trans d,o⟩)⟩
  |x::y::r,a=>
   refine Be (O:=[(.bool ((((x::y::r).length:Nat):Int)==(0:Int)):Value)=bF]) [(2,.F)] [0,1,4,23] [(4,.slice n ((x::y::r).length) j),(23,bF)] ⟨(vB oT),trivial⟩<|Ae (B1 rfl (Ad<|Be (O:=[(.bool ((((x::y::r).length:Nat):Int)==(1:Int)):Value)=bF]) [(2,.F)] [0,1,4,30] [(30,bF)] ⟨(vB oT),trivial⟩ ?_));have ac:=Oi g.rep d k a;rw[D] at ac;refine Ae (B1 rfl<|AY [AM 0 2,.one 2]<|AN [0,1,4,18,19] [qv 18 e,qv 19 i]<|BW 20 (ac.mono ?_));rintro u w4 ⟨rfl,S4,L,r4,G⟩;refine⟨_,rfl,.inl oK,BG []<|BN (Fu rfl ⟨rfl,Q,S4,g.E r4 G,(L .E (by rintro⟨_,h⟩;cases h)).trans d,o⟩)⟩
