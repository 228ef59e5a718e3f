/- A part of TopBudgetHonest. -/
import Derived.Test.YtboflajfckfphaaGreatDoorG
set_option linter.all false
namespace Go.Proofs.YtboflajfckfphaaGreatDoor
open Go.RowKit Bud Go Go.Sort Go.Proofs Go.Lib Go.Proofs.Tryz
set_option maxRecDepth 1000000
theorem cP {x:Sv} {ps:List (Int×List Int)} {vG vL vA vO vF vR:Value} {w0 G w:World} {b:Nat} {Q:EO} [BZ Q] (hx:Jw x) (hs:Na w0 x ps vG vL vA vO vF vR) (S:Bl w0 G) (a0:Bl G w) (oc:∀W,Bl G W->∀j u,(svC x vG vL vA vO vF vR)[j]?=some u->W.cell? (ad b j)=some u) (a2:ps.length<=lim)
 (hR:(¬∀q∈ps,1<=q.1/\q.1<=3/\Nk x.n [q.2])->∀W,Bl G W->HN f39 (fun a w=>Q .ret a w) [(2,I 1)] W)
 (hQ:∀W,Bl G W->HN f39 (fun a w=>Q .normal a w) [qv 1 b,(2,I 0)] W):
 HW f39 (.seq (.reg 18) (.block 2 (.loop ix))) Q [qv 1 b,(2,I 0)] w:=by
 have b3:=hx.few;have⟨b2,O,a6⟩:=hs.r;have⟨Ag,kg,J⟩:=O.form;refine Ad ?_;have C0:Aj [(ad b 7,.slice Ag ps.length kg)] w:= .cons (oc w a0 7 _ (by rw[<-J];rfl)) .nil;refine Fi [(1,.c 0)] [1,2,106,107,108] [qv 1 b,(2,I 0),(106,.slice Ag ps.length kg),(107,N ps.length),(108,I 0)] C0<|Ae (Bd<|Ct (fun m L W=>∃i,L=[qv 1 b,(2,I 0),(106,.slice Ag ps.length kg),(107,N ps.length),(108,N i)]/\Bl G W/\i<=ps.length/\m=ps.length-i) (n:=ps.length) ⟨0,rfl,a0,oO,oO⟩ ?_);rintro m L W ⟨i,rfl,hW,hi,rfl⟩;refine Ad ?_;by_cases a3:i<ps.length
 .have q1:(i:Int)<(ps.length:Int):=oO;refine Be [(0,.T)] [1,2,106,107,108,109] [(109,bT)] (Bo (EE q1))<|Ae (Ad<|Bg rfl (AZ (Ae (Ad (Bd (Ad ?_))))));have⟨go,oo,b4,a1,b5,P⟩:=(O.below (Aw S hW)).some_ oO;rw[J] at a1;injection a1 with b1 _ a4;subst a4;rw[b1];obtain⟨⟨k,l⟩,hl⟩:∃v,ps[i]?=some v:=⟨_,Ab a3⟩;have⟨hU,U,b0,z,M⟩:=a6.2 i k l hl;obtain⟨h,g,rfl⟩:=z.form;have p:(k,l)∈ps:=AQ hl;have H:W.rangeAt go (Du oo (i*2)) [I k,.slice h l.length g]:=fun j u o=>by
   rw[DG,Ea]
   match j,o with
   |0,o=>simp at o;rw[<-o];exact P _ _ (by rw[<-hU];congr 1;omega)
   |1,o=>simp at o;rw[<-o];exact P _ _ (by rw[<-b0];congr 1;omega)
  have q2:i<maxLen:=by unfold lim at a2;unfold maxLen;omega
  have pn:=Fr W 133 [I 0,An];have t:=BM [I k,.slice h l.length g] pn rfl;have th:=B4 pn 0 2 oS;have a9:Bl W (W.alloc (.cells #[I 0,An] 133)):=(Below.refl _ _).alloc (Ai _) _;have D:=By (Ai _) [I k,.slice h l.length g] 0 a9;refine AY [AM 0 1,.one 1,.one 2,.one 3]<|G4 [1,2,106,107,108,110] [(106,.slice (some (ad go oo)) ps.length kg),(110,vP go (Du oo (i*2)))] (Bo (oO:oX i ps.length))<|MX (cs:=[I k,.slice h l.length g]) 111 133 H (.inr id)<|CH 10 (vP W.heap.size 0) (W.alloc (.cells #[I 0,An] 133))<|De 133 [I k,.slice h l.length g] (by rfl) th<|BG [1,2,10,106,107,108] ?_;obtain⟨A,d,R,B⟩:∃A d,A=W.heap.size/\d=((W.alloc (.cells #[I 0,An] 133)).setCells W.heap.size 0 [I k,.slice h l.length g]):=⟨_,_,rfl,rfl⟩;rw[<-B,<-R];have t:Ba W.heap.size d (vS A 1 1) (133,2,1,[I k,.slice h l.length g]):=by rw[B,R];exact t
  have D:Bl W d:=by rw[B];exact D
  have s:=Aw hW D;refine Ae (Ad ?_);have C3:Aj [(ad b 0,N x.n),(ad A 0,I k),(ad A 1,.slice h l.length g)] d:= .cons (oc d s 0 _ rfl) (.cons (BE t rfl) (.cons (BE t rfl) .nil));by_cases h1:k<1
  .refine BA [(1,.c 1),(2,.T)] [1,2,10,106,107,108,129] [qv 10 A,(129,bT)] (Bo (EE h1)) C3<|Ae (Bg rfl (Ad<|B8 [] [2] [(2,I 1)]<|Ae (Br (BL (Bc nR (B6 nR (BL (hR (fun f=>absurd (f _ p).1 (by simp only;omega)) d s))))))))
  by_cases h3:(3:Int)<k
  .refine BA [(1,.c 1),(2,.F),(5,.c 1),(6,.T)] [1,2,10,106,107,108,129] [qv 10 A,(129,bT)] (EP (Er h1) (EE h3)) C3<|Ae (Bg rfl (Ad<|B8 [] [2] [(2,I 1)]<|Ae (Br (BL (Bc nR (B6 nR (BL (hR (fun f=>absurd (f _ p).2.1 (by simp only;omega)) d s))))))))
  have C:He (d.alloc (.cells #[.slice h l.length g] 25)) (vS d.heap.size 1 1) [l]:=by
   have a8:Bl d (d.alloc (.cells #[.slice h l.length g] 25)):=(Below.refl _ _).alloc (Ai _) _;refine⟨[.slice h l.length g],(Fr d 25 [.slice h l.length g]).rd,fun j l' o=>?_⟩
   match j,o with
   |0,o=>simp at o;subst o;exact⟨_,rfl,z.below (Aw S (Aw s a8))⟩
  have Z:=Aw s ((Below.refl _ _).alloc (Ai _) (.cells #[.slice h l.length g] 25));have hc:=Of (n:=(x.n:Int)) oO C.w (by unfold lim;simp) (fun y hy=>by simp at hy;rw[hy];exact M);refine AY [Cu 0 13 [(1,.c 1),(2,.F),(5,.c 1),(6,.F),(10,.c 0),(12,.c 2)],.one 13,.one 14,.one 15,AM 16 2]<|E3 [1,2,10,106,107,108,120,122,124] [qv 10 A,(120,bF),(122,N x.n),(124,.slice h l.length g)] (EP (Er h1) (Er h3)) C3<|CH 125 (vS d.heap.size 1 1) (d.alloc (.cells #[.slice h l.length g] 25)) ?_;generalize d.heap.size=b8 at hc⊢;generalize(d.alloc (.cells #[.slice h l.length g] 25))=w5 at hc Z⊢;refine CH 126 (.agg #[N x.n,vS b8 1 1]) w5<|BW 127 (hc.mono ?_);rintro en w6 ⟨k4,rfl,a7,a5⟩;refine⟨_,rfl,.inl oK,?_⟩;have Y:=Aw Z a7;refine AN [1,2,10,106,107,108,129] [(129,.bool ((k4:Int)!=(0:Int)))]<|AK<|Ae ?_;by_cases hk0:k4=0
  .rw[show((k4:Int)!=(0:Int))=false by simp[hk0]];refine B1 rfl (AZ (BN (Ae<|Be [(0,.e (N (i+1)))] [1,2,106,107,108] [(108,N (i+1))] (Bo (vJ (Ec q2 rfl)))<|BV (BF (m:=ps.length-(i+1)) oO ⟨i+1,rfl,Y,oO,rfl⟩))))
  .rw[show((k4:Int)!=(0:Int))=true by simp[hk0]];refine Bg rfl (Ad<|B8 [] [2] [(2,I 1)]<|Ae (Br (BL (Bc nR (B6 nR (BL (hR (fun f=>absurd (a5.2 (f _ p).2.2) hk0) w6 Y)))))))
 .have q1:¬(i:Int)<(ps.length:Int):=oO;refine Be [(0,.F)] [1,2,106,107,108,109] [(109,bF)] (Bo (Er q1))<|Ae (Ad<|B1 rfl (BQ (Bc nX (B6 nX (Ck (BV (hQ W hW)))))))
theorem ZG {x:Sv} {ps:List (Int×List Int)} {vG Y vA vO vF vR:Value} {w:World} (hx:Jw x) (L:Na w x ps vG Y vA vO vF vR) (b2:x.G.length<=lim) (a3:x.Q.length<=lim) (b0:ps.length<=lim):
 Cg 39 #[.agg #[N x.n,vG,Y,vA,vO,I x.J,vF,vR]] w (Err w fun k=>okS x ps->k=0):=by
 have b9:=hx.few;have c0:=hx.X;have c4:=hx.olen;have c3:=hx.F;have⟨U,H,eA⟩:=L.a.form;have⟨AO,D,eO⟩:=L.o.form;have hF:∃g o c,vF= .slice (some (ad g o)) x.F.length c/\g<w.heap.size/\∀(j:Nat) u,(x.F.map Value.bool)[j]?=some u->w.cell? (ad g (o+j))=some u:=L.p.some_ oO;have⟨t,y,Z,eF,b3,b4⟩:=hF;obtain⟨C,z,eG⟩:∃A c,vG= sq A x.G c:=by have⟨_,h,_⟩:=L.g;exact h.form
 have c2:Y.oneCell'=true:=by have⟨_,h,_⟩:=L.l;exact h.one
 have c1:vR.oneCell'=true:=by have⟨_,h,_⟩:=L.r;exact h.one
 obtain⟨f0,a4⟩:∃f0,x.F[0]?=some f0:=⟨_,Ab oO⟩;subst eA eO eF eG;refine CN iy<|Ad<|AY [.one 0,AM 1 1]<|CH 1 (vP w.heap.size 0) (w.alloc (.cells #[N x.n,sq C x.G z,Y,sq U x.X H,sq AO x.O D,I x.J,.slice (some (ad t y)) x.F.length Z,vR] 35)) ?_;have hp:=Fr w 35 [N x.n,sq C x.G z,Y,sq U x.X H,sq AO x.O D,I x.J,.slice (some (ad t y)) x.F.length Z,vR];have d:Bl w (w.alloc (.cells #[N x.n,sq C x.G z,Y,sq U x.X H,sq AO x.O D,I x.J,.slice (some (ad t y)) x.F.length Z,vR] 35)):=(Below.refl _ _).alloc (Ai _) _;obtain⟨b,i,a5,a0⟩:∃b i,b=w.heap.size/\i=(w.alloc (.cells #[N x.n,sq C x.G z,Y,sq U x.X H,sq AO x.O D,I x.J,.slice (some (ad t y)) x.F.length Z,vR] 35)):=⟨_,_,rfl,rfl⟩;rw[<-a0,<-a5];have hp:Ba w.heap.size i (vS b 1 1) (35,8,1,[N x.n,sq C x.G z,Y,sq U x.X H,sq AO x.O D,I x.J,.slice (some (ad t y)) x.F.length Z,vR]):=by rw[a0,a5];exact hp
 have d:Bl w i:=by rw[a0];exact d
 have a9:∀W,Bl i W->Ba w.heap.size W (vS b 1 1) (35,8,1,[N x.n,sq C x.G z,Y,sq U x.X H,sq AO x.O D,I x.J,.slice (some (ad t y)) x.F.length Z,vR]):=fun W B=>A9 hp B
 have m:∀W,Bl i W->∀j u,(svC x (sq C x.G z) Y (sq U x.X H) (sq AO x.O D) (.slice (some (ad t y)) x.F.length Z) vR)[j]?=some u->W.cell? (ad b j)=some u:=fun W B j u hu=>BE (a9 W B) hu
 have a2:∀W,Bl i W->W.cell? ⟨t,Du y 0,none⟩=some (.bool f0):=fun W B=>by
  rw[DG];exact(Gs ((Aw d B).block t b3) _).trans (b4 0 (.bool f0) (by simp[a4]))
 refine AN [1,2] [qv 1 b,(2,I 0)]<|AK<|Ae (Ad (Ad ?_));have C0:Aj [(ad b 0,N x.n),(ad b 1,sq C x.G z),(ad b 3,sq U x.X H),(ad b 4,sq AO x.O D),(ad b 6,.slice (some (ad t y)) x.F.length Z),(⟨t,Du y 0,none⟩,.bool f0)] i:= .cons (m i (Below.refl _ _) 0 _ rfl) (.cons (m i (Below.refl _ _) 1 _ rfl) (.cons (m i (Below.refl _ _) 3 _ rfl) (.cons (m i (Below.refl _ _) 4 _ rfl) (.cons (m i (Below.refl _ _) 6 _ rfl) (.cons (a2 i (Below.refl _ _)) .nil)))));have q1:¬(x.n:Int)<(0:Int):=oO;have q2:¬(65536:Int)<(x.n:Int):=oO;have q3:IntKind.i64.wrap ((x.n:Int)+(1:Int))=((x.n+1:Nat):Int):=Ec (by unfold maxLen;omega) rfl;have q4:((x.X.length:Int)!=((x.n+1:Nat):Int))=false:=oT;have q5:((x.O.length:Int)!=(x.n:Int))=false:=oT;have q6:((x.F.length:Int)!=((x.n+1:Nat):Int))=false:=oT;have hh:=dz (w:=i) (bi:=x.J) (L.a.below d) (L.o.below d) oO (fun v hv=>by have:=hx.orng v hv;omega) oO;refine AY [Cu 0 10 [(1,.c 0),(2,.F),(5,.c 0),(6,.F)],.one 10,.one 11,Cu 12 36 [(12,.T)]]<|E3 [1,2,19,20] [(19,bF),(20,vP b 3)] (EP (Er q1) (Er q2)) C0<|F7 (cs:=[sq U x.X H,sq AO x.O D,I x.J]) 21 31 (Bp hp 3 [sq U x.X H,sq AO x.O D,I x.J] rfl)<|BW 22 (hh.mono ?_);rintro en s ⟨k1,rfl,b8,hk1⟩;refine⟨_,rfl,.inl oK,?_⟩;have f:Bl i s:=b8;have C1:Aj [(ad b 0,N x.n),(ad b 1,sq C x.G z),(ad b 3,sq U x.X H),(ad b 4,sq AO x.O D),(ad b 6,.slice (some (ad t y)) x.F.length Z),(⟨t,Du y 0,none⟩,.bool f0)] s:= .cons (m s f 0 _ rfl) (.cons (m s f 1 _ rfl) (.cons (m s f 3 _ rfl) (.cons (m s f 4 _ rfl) (.cons (m s f 6 _ rfl) (.cons (a2 s f) .nil)))));by_cases hk0:k1=0;rotate_left
 .have q7:((k1:Int)!=(0:Int))=true:=by simp[hk0]
  refine HI [.qs [(12,.T),(13,.p),(14,.p),(15,.p),(16,.p),(17,.p),(18,.p),(19,.p),(20,.p),(21,.p),(22,.p),(23,.p),(24,.p),(25,.p),(26,.p),(27,.p),(28,.p),(29,.p),(30,.p),(31,.p),(32,.p),(33,.p),(34,.p),(35,.p),(36,.p),(37,.p),(38,.p),(39,.p),(40,.p),(41,.p),(42,.p),(43,.p),(44,.p),(45,.p),(46,.p),(47,.p)]] oK<|E3 [1,2,58] [(58,bT)] (Bo (vB q7)) C1<|AK<|Ae (Bg rfl (Ad<|B8 [] [2] [(2,I 1)]<|Ae (Br (Bc nR (Bu rfl (v:=I 1) rfl ⟨1,rfl,Aw d f,fun S=>absurd (hk1 S.1) hk0⟩)))))
 have q7:((k1:Int)!=(0:Int))=false:=by simp[hk0]
 refine HI [.qs [(12,.F),(13,.p),(14,.p),(15,.p),(16,.p),(17,.c 2),(18,.p),(19,.p),(20,.c 0),(21,.e (N (x.n+1))),(22,.F),(23,.p),(24,.p),(25,.p),(26,.p),(27,.c 3),(28,.p),(29,.p),(30,.c 0),(31,.F),(32,.p),(33,.p),(34,.p),(35,.c 4),(36,.p),(37,.p),(38,.c 0),(39,.e (N (x.n+1))),(40,.F),(41,.p),(42,.p),(43,.p),(44,.c 4),(45,.p),(46,.c 5),(47,.p)]] oK<|E3 [1,2,58] [(58,.bool f0)] (fF (vB q7) (vJ q3) (vB q4) (vB q5) (vJ q3) (vB q6) (oO:oX 0 x.F.length)) C1<|AK<|Ae ?_
 cases f0 with
 |true=>
  refine Bg rfl (Ad<|B8 [] [2] [(2,I 1)] ?_);exact Ae (Br (Bc nR (Bu rfl (v:=I 1) rfl ⟨1,rfl,Aw d f,fun S=>by have:=S.2.1;rw[a4] at this;cases this⟩)))
 |false=>
  refine B1 rfl (AZ (Ae (Ad (Ad ?_))));have hc:=Of (w:=s) (n:=(x.n:Int)) (R:=x.G) oO (L.g.below (Aw d f)).w b2 hx.gl;have C2:Aj [(ad b 0,N x.n),(ad b 1,sq C x.G z)] s:= .cons (m s f 0 _ rfl) (.cons (m s f 1 _ rfl) .nil);refine AY [Cu 0 4 [(1,.c 0),(3,.c 1)],.one 4,.one 5,AM 6 1]<|DO [1,2,60,62] [(60,N x.n),(62,sq C x.G z)] C2<|CH 63 (.agg #[N x.n,sq C x.G z]) s<|BW 64 (hc.mono ?_);rintro en w3 ⟨k2,rfl,b7,hk2⟩;refine⟨_,rfl,.inl oK,?_⟩;have a8:=Aw f b7;refine AN [1,2,3] [(3,I k2)]<|AK<|Ae (Ad ?_);by_cases P:k2=0;rotate_left
  .have q8:((k2:Int)!=(0:Int))=true:=by simp[P]
   refine Be [(1,.T)] [1,2,3,66] [(66,bT)] (Bo (vB q8))<|Ae (Bg rfl (Ad<|B8 [] [2] [(2,I k2)]<|Ae (Br (Bc nR (Bu rfl (v:=I k2) rfl ⟨k2,rfl,Aw d a8,fun S=>absurd (hk2.2 S.2.2.1) P⟩)))))
  have q8:((k2:Int)!=(0:Int))=false:=by simp[P]
  refine Be [(1,.F)] [1,2,3,66] [(66,bF)] (Bo (vB q8))<|Ae (B1 rfl (AZ (Ae (Ad<|B8 [] [1,2,4] [(4,.slice none 0 0)]<|Ae (Ad<|B8 [] [1,2,4,5] [(5,.func (.func 97) #[] #[])]<|Ae (Ad (az hx L d a8 m a3 (fun a1 W B=>Bc nR (Bu rfl (v:=I 1) rfl ⟨1,rfl,Aw d B,fun S=>absurd S.2.2.2.1 a1⟩)) fun W V B hV=>Ae (Ad (Ad ?_)))))))));have b5:=Of (w:=W) (n:=(x.n:Int)) oO hV.w (by simpa using a3) (fun l hl=>by obtain⟨q,hq,rfl⟩:=BB.1 hl;exact hx.ll q hq);obtain⟨AV,nV,kV,rfl⟩:∃A n c,V= .slice A n c:=by have⟨_,h,_⟩:=hV;have⟨A,c,e⟩:=h.form;exact⟨_,_,_,e⟩
  have C2:Aj [(ad b 0,N x.n)] W:= .cons (m W B 0 _ rfl) .nil;refine AY [Cu 0 3 [(1,.c 0)],.one 3,.one 4,AM 5 1]<|DO [1,2,4,98,99] [(4,.slice AV nV kV),(98,N x.n),(99,.slice AV nV kV)] C2<|CH 100 (.agg #[N x.n,.slice AV nV kV]) W<|BW 101 (b5.mono ?_);rintro en w4 ⟨k3,rfl,b6,b1⟩;refine⟨_,rfl,.inl oK,?_⟩;have a7:=Aw B b6;refine AN [1,2,4,8] [(8,I k3)]<|AK<|Ae (Ad ?_);by_cases M:k3=0;rotate_left
  .have q8:((k3:Int)!=(0:Int))=true:=by simp[M]
   refine Be [(1,.T)] [1,2,8,103] [(103,bT)] (Bo (vB q8))<|Ae (Bg rfl (Ad<|B8 [] [2] [(2,I k3)]<|Ae (Br (Bc nR (Bu rfl (v:=I k3) rfl ⟨k3,rfl,Aw d a7,fun S=>absurd (b1.2 (by rw[S.2.2.2.1];exact⟨oO,oS,oS⟩)) M⟩)))))
  have q8:((k3:Int)!=(0:Int))=false:=by simp[M]
  refine Be [(1,.F)] [1,2,8,103] [(103,bF)] (Bo (vB q8))<|Ae (B1 rfl (AZ (Ae (Ad<|Eu (L':=[qv 1 b,(2,I 0)])<|cP hx L d a7 m b0 (fun a1 W B=>?_) fun W2 a6=>?_))))
  .exact Bc nR (Bu rfl (v:=I 1) rfl ⟨1,rfl,Aw d B,fun S=>absurd S.2.2.2.2 a1⟩)
  refine Ae (Ad<|B8 [] [2] [(2,I 0)]<|Ae (Br (Bu rfl (v:=I 0) rfl ⟨0,rfl,Aw d a6,fun _=>rfl⟩)))
end Go.Proofs.YtboflajfckfphaaGreatDoor
namespace Go.Proofs.YtboflajfckfphaaGreatDoor
open Go.RowKit Bud Go Go.Proofs.Tryz
set_option maxRecDepth 1000000
def VS (W:World) (c:Nat) (a:List Nat):Prop:=∃n,n<=a.length/\E5 W c n (fun k=>if k∈a.map (fun v:Nat=>(v:Int)) then some bT else none)
theorem VS.made (w:World):VS (w.alloc (.map #[] 0)) w.heap.size []:=⟨0,Ai _,by
 have:=E5.made w;simpa using this⟩
theorem VS.keep {W W':World} {c:Nat} {a:List Nat} (h:VS W c a) (e:W'.heap[c]?=W.heap[c]?):VS W' c a:=by
 have⟨n,g,f⟩:=h;exact⟨n,g,f.keep e⟩
variable{W:World} {c:Nat} {a:List Nat}
theorem VS.set {v:Nat} (h:VS W c a) (q:a.length<=lim) (o:v<=maxLen):∃f,(Instr.mapUpdate 134 (.map (some c)) (N v) bT).run prog W= .ok () f/\VS f c (a++[v])/\W.grownBy f (some c):=by
 have⟨n,t,m⟩:=h;have⟨f,r,l,g⟩:=m.update RN (by unfold lim maxLen at*;omega) (k:=(v:Int)) (wf64 (by unfold B7;omega)) bT;refine⟨f,r,⟨n+1,oT,?_⟩,g⟩;have e:upd (fun k=>if k∈a.map (fun v:Nat=>(v:Int)) then some (Value.bool true) else none) (v:Int) bT=fun k=>if k∈(a++[v]).map (fun v:Nat=>(v:Int)) then some bT else none:=by
  funext j;unfold upd;by_cases i:j=(v:Int)
  .simp[i]
  .simp only[i,if_false,Db,B0,BI,D4,GQ,or_false]
 rw[e] at l;exact l
theorem VS.look {v:Nat} (h:VS W c a) (l:v<=maxLen):(Instr.lookup 134 (.map (some c)) (N v) false).run prog W= .ok (.bool (decide (v∈a))) W:=by
 have⟨n,m,j⟩:=h;have:=j.look1 RN (HZ W) (k:=(v:Int)) (wf64 (by unfold B7;omega));rw[this];have e:((v:Int)∈a.map (fun v:Nat=>(v:Int)))↔v∈a:=by
  rw[BB];constructor
  .rintro⟨u,g,e⟩;have:u=v:=oO;exact this▸g
  .exact fun g=>⟨v,g,rfl⟩
 by_cases f:v∈a
 .rw[if_pos (e.2 f),decide_eq_true f];rfl
 .rw[if_neg (fun i=>f (e.1 i)),decide_eq_false f];rfl
theorem G1 {L:Sts} {o:Oper} {t g off:Nat} {h:List Value} {w:World} (f:gk L o.op=some (t,vP g off)) (m:rowT t h.length=true) (q:w.rangeAt g off h):(execOp (I6 L) o).run prog w= .ok (.value (.agg h.toArray)) w:=by
 have⟨H,z,y,u⟩:=KQ m;have n:=run_loadAt_mid (P:=prog) w g off t h H q z y u;have⟨G,M,j,k,i,guard⟩:=o;unfold gk at f;simp only at f;split at f
 case h_2=>cases f
 rename_i J x;have⟨v,l,e⟩:=Af.1 f;injection e with D A;subst D A;have r:I6 L x=vP g off:=by unfold I6;rw[l];rfl
 simp only[execOp,r,Ay,n,Am,AJ]
theorem I2 {b k:Nat} (e:k≠b):∀(f:List Value) (o:Nat) (w:World),(w.setCells b o f).heap[k]?=w.heap[k]?
 |[],_,_=>rfl
 |y::r,o,w=>(I2 e r (o+1) (w.setCell (ad b o) y)).trans (Below.heap_setCell _ _ _ _ (by exact e))
theorem DT {b:Nat}:∀(e:List Value) (o:Nat) (w:World),(w.setCells b o e).heap.size=w.heap.size/\(w.setCells b o e).os=w.os/\(w.setCells b o e).tape=w.tape/\(w.setCells b o e).output=w.output
 |[],_,_=>⟨rfl,rfl,rfl,rfl⟩
 |y::r,o,w=>by
  have⟨i,h,g,f⟩:=DT (b:=b) r (o+1) (w.setCell (ad b o) y);exact⟨i.trans oS,h.trans (by simp[World.setCell]),g.trans (by simp[World.setCell]),f.trans (by simp[World.setCell])⟩
theorem V0 {b:Nat}:∀(g:List Value) (o:Nat) (w f:World),f.heap[b]?=w.heap[b]?->(f.setCells b o g).heap[b]?=(w.setCells b o g).heap[b]?
 |[],_,_,_,e=>e
 |y::r,o,w,f,e=>V0 r (o+1) (w.setCell (ad b o) y) (f.setCell (ad b o) y) (by
   unfold World.setCell;simp only[DN];rw[e])
section
variable{B b:Nat} {p:Px} {s:St} {S:Sl} {d w w0' w':World} {T:Nat->Value} {C:Nat->Cn}
theorem Loc.old (h:Loc B p s noS S d w T C []) (y:b<d.heap.size) (o:Nat) (ys:List Value):Loc B p s noS S (d.setCells b o ys) (w.setCells b o ys) T C []:=by
 have j:=fun ys o w k (j:k≠b)=>I2 j ys o w
 have g:=fun ys o w=>(DT (b:=b) ys o w).1
 have i:=fun ys o w=>(DT (b:=b) ys o w).2
 have m:=V0 (b:=b);have u:∀r k,(S r).ownBlock=some k->k≠b:=fun r k f e=>by
  rcases h.st.own r k f with⟨t,v⟩|A
  .cases v
  .omega
 have n:∀k c,(T k).ownBlock=some c->c≠b:=fun k c f e=>by have:=(h.lo f).1;omega
 refine⟨⟨fun r=>(h.rep.part r).mono fun k f=>⟨(h.rep.lo f).1,j ys o w k (u r k f)⟩,h.rep.apart,by rw[g];exact h.rep.base⟩,⟨by rw[(i ys o w).1,(i ys o d).1];exact h.st.os,by rw[(i ys o w).2.1,(i ys o d).2.1];exact h.st.tape,by rw[(i ys o w).2.2,(i ys o d).2.2];exact h.st.output,by rw[g,g];exact h.st.size,fun k l z=>?_,fun r k f=>by rw[g];exact h.st.own r k f⟩,fun k=>by rw[g];exact(h.part k).mono fun c f=>⟨(h.lo f).1,j ys o w c (n k c f)⟩,h.apart,h.out,Hq,fun q x=>by cases x⟩;rw[g] at l;by_cases e:k=b
 .rw[e];exact m ys o d w (h.st.keep b y (fun r f=>by cases f))
 .rw[j ys o w k e,j ys o d k e];exact h.st.keep k l (fun r f=>by cases f)
theorem Loc.lower {f:Nat} (h:Loc B p s noS S d w T C []) (e:f<=B):Loc f p s noS S d w T C []:=
 ⟨⟨fun r=>(h.rep.part r).mono fun k g=>⟨Bj e (h.rep.lo g).1,rfl⟩,h.rep.apart,Bj e h.rep.base⟩,h.st,h.part,h.apart,h.out,h.mks⟩
end
def iC:Sh:= .seq (.reg 6) (.seq (.cond (.tmp 25) .skip (.exit 0)) (.seq (.block 1 (.seq (.reg 7) (.seq (.seq (.reg 8) (.cond (.tmp 48) (.seq (.reg 9) .ret) .skip)) (.reg 10)))) (.reg 11)))
def sv0:Sh:= .seq (.reg 0) (.seq (.seq (.reg 1) (.seq (.reg 2) (.cond (.tmp 17) (.seq (.reg 3) .ret) .skip))) (.seq (.reg 4) (.seq (.seq (.reg 5) (.block 0 (.loop iC))) (.seq (.seq (.reg 12) (.cond (.tmp 60) (.seq (.reg 13) .ret) .skip)) (.seq (.reg 14) (.seq (.reg 15) (.seq (.reg 16) .ret)))))))
theorem iD:f16.body=some (sv0.code f16):=oK
structure FE (Y:Nat->Prop) (w:World) (v:Value) (x:Sv) (ps:List (Int×List Int)):Prop where
 ok:Jw x
 gl:x.G.length<=lim
 ll:x.Q.length<=lim
 pl:ps.length<=lim
 at_:∃vG vL vA vO vF vR,v= .agg #[N x.n,vG,vL,vA,vO,I x.J,vF,vR]/\Wx Y w x ps vG vL vA vO vF vR
theorem FE.step {Y:Nat->Prop} {w g:World} {v:Value} {x:Sv} {ps:List (Int×List Int)} (h:FE Y w v x ps) (i:F8 Y w g):FE Y g v x ps:=by
 have⟨o,n,m,l,a,b,c,d,e,f,k,j⟩:=h;exact⟨o,n,m,l,a,b,c,d,e,f,k,j.step i⟩
def X1 (Y:Nat->Prop) (x:Sv) (ps:List (Int×List Int)) (g:List Int) (k:Int) (m C:Nat) (w:World) (j:Ending) (d:World):Prop:=
 Bl w d/\∃v a e,j= .returned (.tuple #[v,a,I e])/\(okS x ps->e=0)/\((e≠0/\v= .agg #[I 0,An,An,An,An,I 0,An,An]/\a= .agg #[I 0,An,An,I 0])∨
  (e=0/\∃c b h i,∃f:List Int,FE Y d v c b/\c.n=x.n/\c.G=x.G/\c.Q.length<=C/\b.length<=ps.length+m/\a= .agg #[I k,h,i,N m]/\h.oneCell'=true/\Ie Y d i 1 f.length (f.map I)/\f.Sublist g))
theorem aK {x:Sv} {w B:World} {b:List Int} {P:Int} {s:Option Addr} {l u S R h:Nat} {Q:EO} [BZ Q] (hn:x.n<=10) (Z:Dj w (sq s b l) 1 b.length (b.map I)) (a6:b.length<=lim) (A:∀y∈b,Bud.Lit x.n y) (a0:(b.map B7).Nodup)
 (hb:Bl w B) (t:VS B h []) (d:World) (r:Bl d B) (hw:Bl w d) (b2:d.heap.size<=h) (o3:∀W,Bl d W->W.cell? (ad u 0)=some (N x.n))
 (hQ:∀W,Bl d W->HN f16 (fun a w=>Q .normal a w) [(1,sq s b l),(2,I P),qv 3 u,qv 6 S,qv 7 R,(8,I 0)] W):
 HW f16 (.seq (.reg 5) (.block 0 (.loop iC))) Q [(1,sq s b l),(2,I P),qv 3 u,qv 6 S,qv 7 R,(8,I 0),(10,.map (some h))] B:=by
 refine Ad<|B8 [] [1,2,3,6,7,8,10,22,23,24] [(1,sq s b l),(2,I P),qv 3 u,qv 6 S,qv 7 R,(8,I 0),(10,.map (some h)),(22,sq s b l),(23,N b.length),(24,I 0)]<|Ae (Bd<|Ct (fun m L W=>∃i,L=[(1,sq s b l),(2,I P),qv 3 u,qv 6 S,qv 7 R,(8,I 0),(10,.map (some h)),(22,sq s b l),(23,N b.length),(24,N i)]/\Bl d W/\VS W h ((b.take i).map B7)/\i<=b.length/\m=b.length-i) (n:=b.length) ⟨0,rfl,r,t,oO,oO⟩ ?_);rintro m L W ⟨i,rfl,H,t,hi,rfl⟩;refine Ad ?_;by_cases a2:i<b.length
 .have q1:(i:Int)<(b.length:Int):=oO;refine Be [(0,.T)] [1,2,3,6,7,8,10,22,23,24,25] [(25,bT)] (Bo (EE q1))<|Ae (Ad<|Bg rfl (AZ (Ae (Ad (Bd (Ad ?_))))));have⟨M,C,k',a8,b1,a5⟩:=(Z.below (Aw hw H)).some_ oO;injection a8 with hA b0 hk1;subst hk1;obtain⟨y,D⟩:∃v,b[i]?=some v:=⟨_,Ab a2⟩;have ov:W.cell? ⟨M,Du C i,none⟩=some (I y):=by rw[DG];exact a5 i _ (by simp[D])
  rw[hA];have⟨Y,U⟩:=A y (AQ D);have o:B7 y<=maxLen:=by unfold maxLen;omega
  have a9:-(x.n:Int)<=y/\y<=x.n:=by unfold B7 at U;omega
  have q2:i<maxLen:=by unfold lim at a6;unfold maxLen;omega
  have e1:((y:Int)==(0:Int))=false:=beq_eq_false_iff_ne.2 Y;have e2:¬(x.n:Int)<(y:Int):=oO;have e3:IntKind.i64.wrap (-(x.n:Int))=-(x.n:Int):=Bb _ oO;have e4:¬(y:Int)<(-(x.n:Int):Int):=oO;have z:B7 y∉(b.take i).map B7:=by
   rw[DZ];intro t;have⟨j,G⟩:=Bw.1 t;rw[Ce] at G;split at G
   .rename_i a3;have h1:=Aa.1 G;have J:(b.map B7)[i]?=some (B7 y):=by simp[D]
    have J:=Aa.1 J;exact(Cc.1 a0 j i h1.1 J.1 a3) (h1.2.trans J.2.symm)
   .cases G
  have g:=t.look o;rw[decide_eq_false z] at g;have C1:Aj [(⟨M,Du C i,none⟩,I y)] W:= .cons ov .nil;refine BA [(1,.c 0)] [1,2,3,6,7,8,10,12,22,23,24] [(1,.slice (some (ad M C)) b.length l),(12,I y),(22,.slice (some (ad M C)) b.length l)] (Bo (oO:oX i b.length)) C1<|Ae (Ad (Ad ?_));have C2:Aj [(ad u 0,N x.n)] W:= .cons (o3 W H) .nil;refine AY [Cu 0 19 [(1,.F),(5,.c 0),(6,.F),(11,.c 0),(12,.e (I (-(x.n:Int)))),(13,.F),(18,.q (N (B7 y)))],.one 19,AM 20 1]<|E3 (O:=[(.bool ((y:Int)==(0:Int)):Value)=bF,(.bool (decide ((x.n:Int)<(y:Int))):Value)=bF,(I (IntKind.i64.wrap (-(x.n:Int))):Value)=I (-(x.n:Int)),(.bool (decide ((y:Int)<((-(x.n:Int)):Int))):Value)=bF,(∀f,CR none W f->Cg 43 #[I y] f fun en p=>en=Ending.returned (N (B7 y))/\f=p)]) [1,2,3,6,7,8,10,12,22,23,24,43,44,46] [(43,bF),(44,.map (some h)),(46,N (B7 y))] ⟨(vB e1),(Er e2),(vI e3),(Er e4),(fun f e=>FT y o f),trivial⟩ C2<|LF 47 134 (.map (some h)) (N (B7 y)) bF false oK oK oK oK g (.inl oK)<|AN [1,2,3,6,7,8,10,12,22,23,24,48] [(48,bF)]<|AK<|Ae (B1 rfl (AZ (Ae ?_)));have⟨W2,up,a1,a4⟩:=t.set (by rw[CJ,Ca];omega) o;have a7:=below_grown H a4 fun k hk=>by injection hk with hk;omega
  refine AY [Cu 0 3 [(2,.q (N (B7 y)))],.one 3]<|G4 (O:=[(∀f,CR none W f->Cg 43 #[I y] f fun en p=>en=Ending.returned (N (B7 y))/\f=p)]) [1,2,3,6,7,8,10,12,22,23,24,51,53] [(51,.map (some h)),(53,N (B7 y))] ⟨(fun f e=>FT y o f),trivial⟩<|I9 134 (.map (some h)) (N (B7 y)) bT oK oK oK up (.inl oK)<|BG [1,2,3,6,7,8,10,12,22,23,24]<|BN (Ae<|Be [(0,.e (N (i+1)))] [1,2,3,6,7,8,10,22,23,24] [(24,N (i+1))] (Bo (vJ (Ec q2 rfl))) ?_);exact BV (BF (m:=b.length-(i+1)) oO ⟨i+1,rfl,a7,by rw[CK,D];simpa using a1,oO,rfl⟩)
 .have q1:¬(i:Int)<(b.length:Int):=oO;refine Be [(0,.F)] [1,2,3,6,7,8,10,22,23,24,25] [(25,bF)] (Bo (Er q1))<|Ae (Ad<|B1 rfl (BQ (Bc nX (B6 nX (Ck (BV (hQ W H)))))))
section
variable{Y:Nat->Prop} {w:World} {V:Value} {n:Nat}
theorem Ie.low {z:Nat} {d:List Value} (h:Ie Y w V z n d):Ie (fun g=>Y g/\g<w.heap.size) w V z n d:=⟨h.1,fun g o f c e=>by
 refine⟨h.2 g o f c e,?_⟩;rcases h.1.2 with⟨m,a,_⟩|⟨k,j,l,a,i,_⟩
 .rw[e] at a;cases a
 .rw[e] at a;injection a with a _ _;injection a with a;injection a with a _ _;rw[a];exact i⟩
theorem Ie.cap {Y:Nat->Prop} {w:World} {A:Option Addr} {z n c:Nat} {a:List Value} (h:Ie Y w (.slice A n c) z n a) (d:Nat):Ie Y w (.slice A n d) z n a:=⟨h.1.cap d,fun g o i k e=>by
 injection e with f j _;exact h.2 g o n c (by rw[f])⟩
variable{ps:List (Int×List Int)} {v:Value}
theorem Pf.fresh {W:World} {T:Nat->Value} {C:Nat->Cn} {x:Sv} {g f i e h vR:Value} (j:Wx Y w x ps g f i e h vR) (d:F8 Y w W) (k:fb vR ps v) (t99:T 99=An/\C 99=F1):Pf Y W T C v ps:=by
 obtain⟨A,c,rfl,rfl⟩:=k;have⟨a,q,p⟩:=j.r;exact⟨a,p.mono fun V l m=> .inl (m.step d),.inr ⟨t99.1,t99.2,⟨A,rfl⟩,(q.cap _).step d⟩⟩
variable{b o:Nat} {ys:List Value}
theorem F8.set {a:World} (h:F8 Y w a) (f:¬Y b):F8 Y w (a.setCells b o ys):=⟨by rw[(DT ys o a).1];exact h.1,fun k d c=>(I2 (fun e=>f (by rw[<-e];exact c)) ys o a).trans (h.2 k d c)⟩
theorem Pf.old {c:World} {T:Nat->Value} {C:Nat->Cn} (h:Pf Y c T C v ps) (g:¬Y b):Pf Y (c.setCells b o ys) T C v ps:=by
 have⟨f,i,d⟩:=h;have e:=(F8.refl Y c).set (o:=o) (ys:=ys) g;refine⟨f,i.mono fun V l a=>?_,?_⟩
 .rcases a with a|a
  .exact .inl (a.step e)
  .exact .inr a
 .rcases d with d|⟨p,m,k,j⟩
  .exact .inl d
  .exact .inr ⟨p,m,k,j.step e⟩
variable{B:Nat} {x:Cn}
theorem DQ (h:Ba B w V x) (c:V.ownBlock≠some b):Ba B (w.setCells b o ys) V x:=h.mono fun k a=>⟨(Ax h k a).1,I2 (fun e=>c (by rw[<-e];exact a)) ys o w⟩
theorem BD {g c:Nat} (h:Ba B w (vS g n c) x) (a:g≠b):Ba B (w.setCells b o ys) (vS g n c) x:=DQ h (fun e=>a (Ah e))
theorem CQ {B':Nat} (h:Ba B w V x) (c:B'<=B):Ba B' w V x:=h.mono fun k a=>⟨Bj c (Ax h k a).1,rfl⟩
theorem Yx {x:Sv} {VA:Value} {z:List Int} {bu:Int} {s t:St} {f m e0:Nat} {k:Kd} (g1:FE Y w v x ps) (hY:∀b,w.heap.size<=b->Y b) (c0:Dj w VA 1 z.length (z.map I)) (h2:z.length<=lim) (b2:∀y∈z,Bud.Lit x.n y) (j2:(z.map B7).Nodup)
 (k1:0<=bu/\bu<=1099511627776) (k0:ps.length+m<=1000000000) (i7:Hd x=some s) (i8:D5 z bu f ⟨s,1,32,0⟩=some (t,k,m)) (hE:Km x.n e0 t) (hC:e0<=lim):
 Cg 16 #[v,VA,I bu] w (X1 Y x ps z (DH k) m e0 w):=by
 obtain⟨hx,c5,g7,j0,vG,vL,vA,vO,vF,vR,rfl,g2⟩:=g1;have hs:=g2.sv;have g3:Wx (fun g=>Y g/\g<w.heap.size) w x ps vG vL vA vO vF vR:=g2.map fun r=>r.low
 have g8:=hx.few;obtain⟨u,q,rfl⟩:∃A c,vG= sq A x.G c:=by have⟨_,h,_⟩:=hs.g;exact h.form
 obtain⟨AL,kL,rfl⟩:∃A c,vL= sq A x.Q c:=by have⟨_,h,_⟩:=hs.l;exact h.form
 obtain⟨AA,kA,rfl⟩:=hs.a.form;obtain⟨AO,kO,rfl⟩:=hs.o.form;obtain⟨AF,kF,rfl⟩:=hs.p.form;obtain⟨AR,Z,rfl⟩:∃A c,vR= sq A ps c:=by have⟨_,h,_⟩:=hs.r;exact h.form
 obtain⟨AX,kX,rfl⟩:=c0.form;have⟨t0,j6,a9⟩:=zeroE hE;refine CN iD<|Ad<|AY [.one 0,.one 1,.one 2,AM 3 1]<|DB 3 35 [N x.n,sq u x.G q,sq AL x.Q kL,sq AA x.X kA,sq AO x.O kO,I x.J,sq AF x.F kF,sq AR ps Z] fun b3 w1 e3 a5 i6=>DB 6 35 [I 0,An,An,An,An,I 0,An,An] fun b6 w2 e2 a4 i5=>DB 7 37 [I 0,An,An,I 0] fun j w3 e1 R i4=>AN [1,2,3,6,7,8] [qv 3 b3,qv 6 b6,qv 7 j,(8,I 0)]<|AK ?_
 have h4:=Aw a5 a4;have h3:=Aw h4 R;have p3:=A9 (A9 e3 a4) R;have p6:=CQ (A9 e2 R) a5.size;have p7:=CQ e1 h4.size;refine Ae (Ad (Ad ?_));have sc:=ZG hx (hs.below h3) c5 g7 j0;refine AY [.one 0,.one 1,AM 2 1]<|F7 (cs:=[N x.n,sq u x.G q,sq AL x.Q kL,sq AA x.X kA,sq AO x.O kO,I x.J,sq AF x.F kF,sq AR ps Z]) 14 35 (Bp p3 0 _ rfl)<|BW 15 (sc.mono ?_);rintro en w4 ⟨ck,rfl,a6,j5⟩;refine⟨_,rfl,.inl oK,?_⟩;have b0:=Aw h3 a6;have p3:=A9 p3 a6;have p6:=A9 p6 a6;have p7:=A9 p7 a6;refine AN [1,2,3,6,7,8,9] [(9,I ck)]<|AK<|Ae (Ad ?_);by_cases hk0:ck=0;rotate_left
 .have q8:((ck:Int)!=(0:Int))=true:=by simp[hk0]
  refine Be [(1,.T)] [1,2,3,6,7,8,9,17] [(17,bT)] (Bo (vB q8))<|Ae (Bg rfl (Ad ?_));have i1:=BM [I 0,An,An,An,An,I 0,An,An] p6 rfl;have a2:=BD (b:=b6) (o:=0) (ys:=[I 0,An,An,An,An,I 0,An,An]) p7 oO;have a1:=BM [I 0,An,An,I 0] a2 rfl;have b5:=BD (b:=j) (o:=0) (ys:=[I 0,An,An,I 0]) i1 oO;have c8:=By (a:=w) (g:=j) oO [I 0,An,An,I 0] 0 (By (a:=w) (g:=b6) oO [I 0,An,An,An,An,I 0,An,An] 0 b0);refine AY [.one 0,.one 1,AM 2 1,.one 3,.one 4,AM 5 1]<|CH 18 (.agg #[I 0,An,An,An,An,I 0,An,An]) w4<|CH 19 (.agg #[I 0,An,An,I 0]) w4<|AN [1,2,3,6,7,8,9,18,19,20] [(18,.agg #[I 0,An,An,An,An,I 0,An,An]),(19,.agg #[I 0,An,An,I 0]),(20,I ck)]<|De 35 [I 0,An,An,An,An,I 0,An,An] (by rfl) (B4 p6 0 8 oD)<|De 37 [I 0,An,An,I 0] (by rfl) (B4 a2 0 4 oD)<|AN [6,7,8] [(8,I ck)]<|AK<|Ae (Br (Bc nR (Kk (g:=b6) (g':=j) (cs:=[I 0,An,An,An,An,I 0,An,An]) (cs':=[I 0,An,An,I 0]) (v:=I ck) rfl rfl rfl rfl oK oK (Bp b5 0 _ rfl) (Bp a1 0 _ rfl) ⟨c8,_,_,ck,rfl,j5,.inl ⟨hk0,rfl,rfl⟩⟩)))
 have q8:((ck:Int)!=(0:Int))=false:=by simp[hk0]
 refine Be [(1,.F)] [1,2,3,6,7,8,9,17] [(17,bF)] (Bo (vB q8))<|Ae (B1 rfl (AZ (Ae (Ad<|AY [.one 0,AM 1 1]<|CH 21 (.map (some w4.heap.size)) (w4.alloc (.map #[] 0)) ?_))));have e9:=VS.made w4;have c9:Bl w4 (w4.alloc (.map #[] 0)):=(Below.refl _ _).alloc (Ai _) _;obtain⟨bm,w5,h0,b9⟩:∃b_ w_,b_=w4.heap.size/\w_=(w4.alloc (.map #[] 0)):=⟨_,_,rfl,rfl⟩;rw[<-b9,<-h0];rw[<-b9,<-h0] at e9;rw[<-b9] at c9;refine AN [1,2,3,6,7,8,10] [(10,.map (some bm))]<|AK<|Ae (Ad<|aK g8 c0 h2 b2 j2 (Aw b0 c9) e9 w4 c9 b0 oO (fun W hW=>BE (A9 p3 hW) rfl) fun W hW=>?_);have a0:=Aw b0 hW;have p3:=A9 p3 hW;have p6:=A9 p6 hW;have p7:=A9 p7 hW;have l7:j<W.heap.size:=by have:=a6.size;have:=hW.size;omega
 refine Ae (Ad (Ad ?_));have c1:¬bu<(0:Int):=oO;have c2:¬(1099511627776:Int)<bu:=oO;refine Be [(1,.F),(4,.F)] [1,2,3,6,7,8,60] [(1,sq AX z kX),(2,I bu),qv 3 b3,qv 6 b6,qv 7 j,(8,I 0),(60,bF)] (EP (Er c1) (Er c2))<|Ae (B1 rfl (AZ (Ae (Ad ?_))));have sc:=Wy hx (hs.below a0) c5 hx.gl g7 hx.ll i7;refine AY [.one 0,.one 1,AM 2 1]<|F7 (cs:=[N x.n,sq u x.G q,sq AL x.Q kL,sq AA x.X kA,sq AO x.O kO,I x.J,sq AF x.F kF,sq AR ps Z]) 63 35 (Bp p3 0 _ rfl)<|BW 64 (sc.mono ?_);rintro en w6 ⟨e,p,S,T,C,rfl,h,he,i9,c3⟩;refine⟨_,rfl,.inl oK,?_⟩;have h:=h.lower a0.size;have j1:=Pf.fresh g3 (F8.below a0) i9 (c3 99 oD oD);have sr:=UF (n0:=0) h a0.size he j1 oO (c3 4 oD oD).1 (c3 4 oD oD).2 (c0.below a0) h2 (fun y hy=>(b2 y hy).1) i8;refine AN [1,2,3,6,7,8,13] [qv 13 e]<|AK<|Ae (Ad<|AY [AM 0 3,.one 3,.one 4]<|AN [1,2,3,6,7,8,13,65,66,67] [qv 65 e,(66,sq AX z kX),(67,I bu)]<|BW 68 (sr.mono ?_));rintro en w7 ⟨j9,S7,T7,C7,c7,h5,d,i,cs,rfl,h7,j3,g5,g4,c4,g9,t47,j7,j4⟩;refine⟨_,rfl,.inl oK,?_⟩;have e4:=A9 p7 h7.bel;have h6:=Ez [I (DH k),d,i,N m] 0 e4;have b4:=Ez [I (DH k),d,i,N m] 0 p7;have e7:EQ [I 0,An,An,I 0] 0 [I (DH k),d,i,N m]=[I (DH k),d,i,N m]:=rfl;have b8:=BD (b:=j) (o:=0) (ys:=[I (DH k),d,i,N m]) p3 oO;have e6:=BD (b:=j) (o:=0) (ys:=[I (DH k),d,i,N m]) p6 oO;have h8:=(h7.old l7 0 [I (DH k),d,i,N m]).drew;have b1:=Pf.old (o:=0) (ys:=[I (DH k),d,i,N m]) g5 (b:=j) (fun hh=>oO);have a7:=By (a:=w) (g:=j) oO [I (DH k),d,i,N m] 0 a0;have s8:=(DT (b:=j) [I (DH k),d,i,N m] 0 W).1;refine De 37 [I (DH k),d,i,N m] (by simp only[BS,Cw,c4,g9];rfl) (B4 e4 0 4 oD)<|BG [3,6,7,13] ?_;generalize j8:W.setCells j 0 [I (DH k),d,i,N m]=W8 at h8 b1 a7 b4 b8 e6 s8;generalize w7.setCells j 0 [I (DH k),d,i,N m]=w8 at h8 h6⊢;have ec:=am (wB:=w) (Y':=fun g=>(Y g/\g<w.heap.size)∨W8.heap.size<=g) h8 j3 b1 hx (g3.step (F8.below a7)) (fun b h=> .inl h) (fun b h=> .inr h) j6 a9 hC;have h1:=h8.bel;have r3:=Bp (A9 b8 h1) 0 [N x.n,sq u x.G q,sq AL x.Q kL,sq AA x.X kA,sq AO x.O kO,I x.J,sq AF x.F kF,sq AR ps Z] rfl;have r7:=Bp (A9 b4 h1) 0 [I (DH k),d,i,N m] rfl;refine Ae (Ad<|VQ [5] (fun W9=>W9.rangeAt b3 0 [N x.n,sq u x.G q,sq AL x.Q kL,sq AA x.X kA,sq AO x.O kO,I x.J,sq AF x.F kF,sq AR ps Z]/\W9.rangeAt j 0 [I (DH k),d,i,N m]) [.qs [(0,.p),(1,.r (.agg #[N x.n,sq u x.G q,sq AL x.Q kL,sq AA x.X kA,sq AO x.O kO,I x.J,sq AF x.F kF,sq AR ps Z])),(3,.r (.agg #[I (DH k),d,i,N m]))],.one 2,.one 4,.one 5,.ps [(6,.p)]]<|FW (O:=[(∀U,CR (some (fun W9=>W9.rangeAt b3 0 [N x.n,sq u x.G q,sq AL x.Q kL,sq AA x.X kA,sq AO x.O kO,I x.J,sq AF x.F kF,sq AR ps Z]/\W9.rangeAt j 0 [I (DH k),d,i,N m])) w8.drew U->(execOp (I6 [qv 69 e,qv 3 b3,qv 6 b6,qv 7 j,qv 13 e]) (B5 (Bt f16 16) 1)).run prog U= .ok (.value (.agg #[N x.n,sq u x.G q,sq AL x.Q kL,sq AA x.X kA,sq AO x.O kO,I x.J,sq AF x.F kF,sq AR ps Z])) U),(∀U,CR (some (fun W9=>W9.rangeAt b3 0 [N x.n,sq u x.G q,sq AL x.Q kL,sq AA x.X kA,sq AO x.O kO,I x.J,sq AF x.F kF,sq AR ps Z]/\W9.rangeAt j 0 [I (DH k),d,i,N m])) w8.drew U->(execOp (I6 [(70,.agg #[N x.n,sq u x.G q,sq AL x.Q kL,sq AA x.X kA,sq AO x.O kO,I x.J,sq AF x.F kF,sq AR ps Z]),qv 69 e,qv 3 b3,qv 6 b6,qv 7 j,qv 13 e]) (B5 (Bt f16 16) 3)).run prog U= .ok (.value (.agg #[I (DH k),d,i,N m])) U)]) [] [3,6,7,13,69,70,72] [qv 69 e,(70,.agg #[N x.n,sq u x.G q,sq AL x.Q kL,sq AA x.X kA,sq AO x.O kO,I x.J,sq AF x.F kF,sq AR ps Z]),(72,.agg #[I (DH k),d,i,N m])] ⟨(fun U hS=>G1 (t:=35) (g:=b3) (off:=0) oK oK (And.left (show World.rangeAt U b3 0 [N x.n,sq u x.G q,sq AL x.Q kL,sq AA x.X kA,sq AO x.O kO,I x.J,sq AF x.F kF,sq AR ps Z]/\World.rangeAt U j 0 [I (DH k),d,i,N m] from hS))),(fun U hS=>G1 (t:=37) (g:=j) (off:=0) oK oK (And.right (show World.rangeAt U b3 0 [N x.n,sq u x.G q,sq AL x.Q kL,sq AA x.X kA,sq AO x.O kO,I x.J,sq AF x.F kF,sq AR ps Z]/\World.rangeAt U j 0 [I (DH k),d,i,N m] from hS))),trivial⟩ ⟨r3,r7⟩ (fun _ _=> .nil)<|BW 71 (ec.mono ?_));rintro en w9 ⟨lv,i3,H,P,L,M,D,rfl,g6,g0,a8,c6⟩;have e8:=A9 b8 a8;have e5:=A9 e6 a8;have a2:=A9 b4 a8;refine⟨_,rfl,.inr (fun _=>⟨Bp e8 0 _ rfl,Bp a2 0 _ rfl⟩),?_⟩;have a3:=g0.sv;have o1:H.oneCell'=true:=by have⟨_,h,_⟩:=a3.l;exact h.one
 have o2:=a3.a.one;have o3:=a3.o.one;have o4:=a3.p.one;have o5:D.oneCell'=true:=by have⟨_,h,_⟩:=a3.r;exact h.one
 have b5:=BM [N x.n,sq u x.G q,H,P,L,I t0.J,M,D] e5 rfl;have i2:=BD (b:=b6) (o:=0) (ys:=[N x.n,sq u x.G q,H,P,L,I t0.J,M,D]) e8 oO;have a1:=BD (b:=b6) (o:=0) (ys:=[N x.n,sq u x.G q,H,P,L,I t0.J,M,D]) a2 oO;refine ZZ 35 [N x.n,sq u x.G q,H,P,L,I t0.J,M,D] (by simp only[BS,Cw,o1,o2,o3,o4,o5];rfl) (B4 e5 0 8 oD) (.inr (fun _=>⟨Bp i2 0 _ rfl,Bp a1 0 _ rfl⟩))<|De 37 [I (DH k),d,i,N m] (by simp only[BS,Cw,c4,g9];rfl) (B4 a1 0 4 (Ai 4))<|Fh (O:=[]) [6,7,8] [(8,I 0)] trivial<|AK ?_;have h9:=BM [I (DH k),d,i,N m] a1 rfl;have i0:=BD (b:=j) (o:=0) (ys:=[I (DH k),d,i,N m]) b5 oO;have ha:F8 (fun g=>(Y g/\g<w.heap.size)∨W8.heap.size<=g) w9 ((w9.setCells b6 0 [N x.n,sq u x.G q,H,P,L,I t0.J,M,D]).setCells j 0 [I (DH k),d,i,N m]):=((F8.refl _ _).set (fun hh=>oO)).set (fun hh=>oO);have c8:=By (a:=w) (g:=j) oO [I (DH k),d,i,N m] 0 (By (a:=w) (g:=b6) oO [N x.n,sq u x.G q,H,P,L,I t0.J,M,D] 0 (Aw a7 a8));have k3:=a9.len;have k2:=a9.ll;refine Ae (Br (Kk (g:=b6) (g':=j) (cs:=[N x.n,sq u x.G q,H,P,L,I t0.J,M,D]) (cs':=[I (DH k),d,i,N m]) (v:=I 0) rfl rfl rfl rfl oK oK (Bp i0 0 _ rfl) (Bp h9 0 _ rfl) ⟨c8,_,_,0,rfl,fun _=>rfl,.inr ⟨rfl,Sc x t0 lv i3,h5,d,i,cs,⟨ex hx a9 g6,c5,by rw[Ka];omega,by unfold lim;omega,_,_,_,_,_,_,rfl,(g0.step ha).map fun r=>r.imp fun b hb=>hb.elim (fun h=>h.1) (fun h=>hY b (by have:=a7.size;omega))⟩,rfl,rfl,by rw[Ka];omega,g4,rfl,c4,?_,j4⟩⟩));have:=(c6 _ _ j7).step ha;rw[t47] at this;exact this.imp fun b hb=>hb.elim (fun h=>h.1) (fun h=>hY b (by have:=a7.size;omega))
end
def mH:Sh:= .seq (.reg 5) (.seq (.cond (.tmp 19) .skip (.exit 0)) (.seq (.block 1 (.seq (.reg 6) (.reg 7))) (.reg 8)))
def hn0:Sh:= .seq (.reg 0) (.seq (.seq (.reg 1) (.cond (.tmp 11) (.seq (.reg 2) .ret) .skip)) (.seq (.reg 3) (.seq (.seq (.reg 4) (.block 0 (.loop mH))) (.seq (.reg 9) .ret))))
theorem dB:f38.body=some (hn0.code f38):=oK
theorem eU {n:Int} (k:n<0) (w:World):Cg 38 #[I n] w fun l i=>l= .returned (.tuple #[.agg #[An,An,I 0],I 1])/\Bl w i:=by
 refine CN dB<|Ad<|AY [.one 0,AM 1 1]<|DB 2 31 [An,An,I 0] fun f h b c d=>AN [0,2,3] [qv 2 f,(3,I 0)]<|AK<|Ae (Ad (Ad<|Be [(1,.T)] [0,2,3,11] [(11,bT)] (Bo (EE k))<|Ae (Bg rfl (Ad ?_))))
 have j:=BM [An,An,I 0] b rfl;have e:=By (a:=w) (g:=f) oO [An,An,I 0] 0 c;refine AY [.one 0,.one 1,AM 2 1]<|CH 12 (.agg #[An,An,I 0]) h<|De 31 [An,An,I 0] (by rfl) (B4 b 0 3 oD)<|AN [2,3] [(3,I 1)]<|AK<|Ae (Br (Bc nR (EG (g:=f) (cs:=[An,An,I 0]) (v:=I 1) rfl rfl rfl oK (Bp j 0 _ rfl) ⟨rfl,e⟩)))
def iz (n:Nat) (w:World) (d:Ending) (a:World):Prop:=∃c b,d= .returned (.tuple #[.agg #[c,b,I 1],I 0])/\Bl w a/\Ba w.heap.size a c (3,1,n+1,List.replicate (n+1) (I 0))/\Ba w.heap.size a b (3,1,n,(List.range' 1 n).map N)
theorem eV {n:Nat} (hn:n<=10) (w:World):Cg 38 #[N n] w (iz n w):=by
 refine CN dB<|Ad ?_;have q1:¬(n:Int)<(0:Int):=oO;have q2:¬(65536:Int)<(n:Int):=oO;have q3:IntKind.i64.wrap ((n:Int)+(1:Int))=((n+1:Nat):Int):=Ec (by unfold maxLen;omega) rfl;refine AY [.one 0,AM 1 1]<|DB 2 31 [An,An,I 0] fun J w1 O f a4=>AN [0,2,3] [qv 2 J,(3,I 0)]<|AK<|Ae (Ad (Ad<|Be [(1,.F),(4,.F)] [0,2,3,11] [(11,bF)] (EP (Er q1) (Er q2))<|Ae (B1 rfl (AZ (Ae (Ad ?_))))))
 have⟨H,mr,pA,Y⟩:=FM w1 u25 Ek rfl (n:=n+1) (by unfold lim;omega) oD;refine AY [Cu 0 2 [(1,.e (N (n+1)))],.one 2,.one 3,.one 4,.one 5]<|G4 [0,2,3,14] [(14,N (n+1))] (Bo (vJ q3))<|VP 15 25 (n+1) oK oK oK oK mr (.inl oK) ?_;obtain⟨d,b0⟩:∃g,g=w1.heap.size:=⟨_,rfl⟩;rw[<-b0] at pA⊢;have b9:=(Ax pA d rfl).2;refine CH 16 (.agg #[vS d (n+1) (n+1),An,I 1]) H<|DB 4 31 [An,An,I 0] fun l w3 t C a3=>?_
 have th:=B4 t 0 3 oD;have x:=BM [vS d (n+1) (n+1),An,I 1] t rfl;have D:=By (a:=H) (g:=l) oO [vS d (n+1) (n+1),An,I 1] 0 C;have a6:=(DT (b:=l) [vS d (n+1) (n+1),An,I 1] 0 w3).1;refine De 31 [vS d (n+1) (n+1),An,I 1] (by rfl) th<|BG [0,2,3,4] ?_;generalize(w3.setCells l 0 [vS d (n+1) (n+1),An,I 1])=G at x D a6⊢;refine Ae (Ad (Ad<|B8 [] [0,2,3,4,17,18] [(17,N n),(18,I 0)]<|Ae (Bd<|Ct (fun m L W=>∃i VL,L=[(0,N n),qv 2 J,(3,I 0),qv 4 l,(17,N n),(18,N i)]/\Bl H W/\G.heap.size<=W.heap.size/\Ba H.heap.size W (vS l 1 1) (31,3,1,[vS d (n+1) (n+1),VL,I 1])/\Ba G.heap.size W VL (3,1,i,(List.range' 1 i).map N)/\i<=n/\m=n-i) (n:=n) ⟨0,An,rfl,D,Ai _,x,⟨rfl,.inl ⟨rfl,rfl⟩⟩,oO,oO⟩ ?_)));rintro m L W ⟨i,VL,rfl,hW,a7,x,pL,hi,rfl⟩;obtain⟨p,h,rfl⟩:=Cr pL;refine Ad ?_;by_cases b8:i<n
 .have q4:(i:Int)<(n:Int):=oO;refine Be [(0,.T)] [0,2,3,4,17,18,19] [(19,bT)] (Bo (EE q4))<|Ae (Ad<|Bg rfl (AZ (Ae (Ad (Bd (Ad ?_))))));have q5:i<maxLen:=by unfold maxLen;omega
  refine B8 [] [0,2,3,4,5,17,18] [(5,N i)]<|Ae ?_;have⟨b6,a9,hz⟩:=Af.1 Ek;injection hz with hz z;injection z with z a5;have s:W.ownsRow G.heap.size 3 1 (.slice p i h) i ((List.range' 1 i).map N):=pL;have⟨r,q,M,er,U,B,c0⟩:=GH (P:=prog) W G.heap.size 25 25 3 u25 a9 hz z a5 rfl s 3 (u:=N (i+1)) rfl (by unfold maxLen;omega) oO a7;have S:∀k,(Value.slice p i h).ownBlock=some k->G.heap.size<=k:=fun k A=>(Ax s k A).1
  have b5:=below_grown hW B fun k A=>by have:=S k A;omega
  have y:Ba H.heap.size M (vS l 1 1) (31,3,1,[vS d (n+1) (n+1),.slice p i h,I 1]):=x.mono fun k A=>⟨(Ax x k A).1,B.block k (Ax x k A).2 (fun e=>by have e1:l=k:=Ah A;have:=S k e.symm;omega)⟩
  have C1:Aj [(ad l 1,.slice p i h)] W:= .cons (BE x rfl) .nil;refine AY [Cu 0 4 [(1,.c 0),(3,.e (N (i+1)))],.one 4,.one 5,AM 6 1,.one 7]<|E3 [0,2,3,4,5,17,18,22,24] [(22,.slice p i h),(24,N (i+1))] (Bo (vJ (Ec q5 rfl))) C1<|Fa 25 25 3 (N (i+1)) (.int .i64 0) oK oK oK oK oK oK (.inr rfl) rfl (.inl oK)<|DY 26 25 25 (.slice p i h) (vS W.heap.size 1 1) oK oK oK oK er (.inl oK)<|AN [0,2,3,4,5,17,18,26,27] [(26,.slice r (i+1) q),(27,vP l 1)]<|Cz (.slice r (i+1) q) (BE y (j:=1) rfl) (DE y 1)<|BG [0,2,3,4,5,17,18] ?_;have R:=Ez [.slice r (i+1) q] 1 y;have e6:EQ [vS d (n+1) (n+1),.slice p i h,I 1] 1 [.slice r (i+1) q]=[vS d (n+1) (n+1),.slice r (i+1) q,I 1]:=rfl;have Q:=DQ (b:=l) (o:=1) (ys:=[.slice r (i+1) q]) (show Ba G.heap.size M (.slice r (i+1) q) (3,1,i+1,(List.range' 1 i).map N++[N (i+1)]) from U) (fun e=>by have:=(Ax U _ e).1;omega);have b3:=By (a:=H) (g:=l) oO [.slice r (i+1) q] 1 b5;have a8:=(DT (b:=l) [.slice r (i+1) q] 1 M).1;have b7:=B.size;change Ba _ (M.setCell (ad l 1) (.slice r (i+1) q)) _ _ at R Q;change(M.setCell (ad l 1) (.slice r (i+1) q)).heap.size=_ at a8;refine BN (Ae<|Be [(0,.e (N (i+1)))] [0,2,3,4,17,18] [(18,N (i+1))] (Bo (vJ (Ec q5 rfl))) ?_);exact BV (BF (m:=n-(i+1)) oO ⟨i+1,.slice r (i+1) q,rfl,b3,oO,R,by rw[List.range'_1_concat];simpa[Nat.add_comm] using Q,oO,rfl⟩)
 .have q4:¬(i:Int)<(n:Int):=oO;refine Be [(0,.F)] [0,2,3,4,17,18,19] [(19,bF)] (Bo (Er q4))<|Ae (Ad ?_);obtain rfl:n=i:=oO;refine B1 rfl (BQ (Bc nX (B6 nX (Ck (Ae (Ad ?_))))));have Z:=Aw Y hW;have a1:=A9 pA hW;have p2:=A9 O Z;have a2:=BM [vS d (n+1) (n+1),.slice p n h,I 1] p2 rfl;have s:=DQ (b:=J) (o:=0) (ys:=[vS d (n+1) (n+1),.slice p n h,I 1]) pL (fun e=>by have:=(Ax pL _ e).1;omega);have a0:=BD (b:=J) (o:=0) (ys:=[vS d (n+1) (n+1),.slice p n h,I 1]) a1 oO;have b1:=By (a:=w) (g:=J) oO [vS d (n+1) (n+1),.slice p n h,I 1] 0 (Aw f Z);refine AY [.one 0,.one 1,AM 2 1]<|F7 (cs:=[vS d (n+1) (n+1),.slice p n h,I 1]) 29 31 (Bp x 0 _ rfl)<|De 31 [vS d (n+1) (n+1),.slice p n h,I 1] (by rfl) (B4 p2 0 3 oD)<|AN [2,3] []<|AK<|Ae (Br (EG (g:=J) (cs:=[vS d (n+1) (n+1),.slice p n h,I 1]) (v:=I 0) rfl rfl rfl oK (Bp a2 0 _ rfl) ⟨_,_,rfl,b1,CQ a0 (by have:=f.size;omega),CQ s (by have:=f.size;have:=Y.size;have:=D.size;omega)⟩))
def oL:Sh:= .seq (.reg 0) (.seq (.reg 1) (.seq (.seq (.reg 2) (.cond (.tmp 12) (.seq (.reg 3) .ret) .skip)) (.seq (.reg 4) .ret)))
theorem dE:f14.body=some (oL.code f14):=oK
def Fq (n:Nat):Sv:=⟨n,[],[],List.replicate (n+1) 0,List.range' 1 n,1,List.replicate (n+1) false⟩
theorem Sp {n:Nat} (c:n<=10):Jw (Fq n):=by
 refine⟨c,fun l a=>?_,fun l a=>?_,fun l a=>?_,fun l a=>?_,?_,?_,List.nodup_range',fun w b=>?_,?_⟩
 .simp[Fq] at a
 .simp[Fq] at a
 .simp[Fq] at a
 .simp[Fq] at a
 .simp[Fq]
 .simp[Fq]
 .have:=List.mem_range'_1.1 b;exact⟨oO,by show w<=n;omega⟩
 .simp[Fq]
theorem QE (Y:Nat->Prop) (w:World) (z:Nat):Ie Y w An z 0 []:=⟨⟨oS,.inl ⟨0,rfl,rfl⟩⟩,fun g o a c e=>by cases e⟩
def dF (k:Int) (w:World) (b:Ending) (a:World):Prop:=b= .returned (.tuple #[.agg #[I 0,An,An,An,An,I 0,An,An],I k])/\Bl w a
def jP (Y:Nat->Prop) (n:Nat) (w:World) (b:Ending) (a:World):Prop:=∃v,b= .returned (.tuple #[v,I 0])/\Bl w a/\FE Y a v (Fq n) []
theorem fK {n:Int} (z:n<0) (w:World):Cg 14 #[I n] w (dF 1 w):=by
 refine CN dE<|Ad<|AY [.one 0,AM 1 1]<|DB 2 35 [I 0,An,An,An,An,I 0,An,An] fun q x e d k=>AN [0,2,3] [qv 2 q,(3,I 0)]<|AK<|Ae (Ad<|AY [AM 0 1,.one 1,AM 2 3,.one 5,.one 6,AM 7 1]<|AN [0,2,3,7] [(7,I n)]<|BW 8 ((eU z x).mono ?_))
 rintro A u ⟨rfl,m⟩;refine⟨_,rfl,.inl oK,AN [0,2,3,9,10] [(9,.agg #[An,An,I 0]),(10,I 1)]<|DB 4 31 [An,An,I 0] fun p t b c j=>?_⟩;have y:=BM [An,An,I 0] b rfl;have f:=By (a:=u) (g:=p) oO [An,An,I 0] 0 c;refine De 31 [An,An,I 0] (by rfl) (B4 b 0 3 (Ai 3))<|AN [0,2,3,4,5] [qv 4 p,(5,I 1)]<|AK ?_;generalize(t.setCells p 0 [An,An,I 0])=s at y f⊢;have h:=Aw m f;have o:=Aw d h;have r:=A9 e h;refine Ae (Ad (Ad<|Be [(1,.T)] [0,2,3,5,12] [(12,bT)] (Bo (vR:(.bool ((1:Int)!=(0:Int)):Value)=bT))<|Ae (Bg rfl (Ad ?_))));have i:=BM [I 0,An,An,An,An,I 0,An,An] r rfl;have l:=By (a:=w) (g:=q) oO [I 0,An,An,An,An,I 0,An,An] 0 o;refine AY [.one 0,AM 1 1,.one 2,AM 3 1]<|CH 13 (.agg #[I 0,An,An,An,An,I 0,An,An]) s<|AN [0,2,3,5,13,14] [(13,.agg #[I 0,An,An,An,An,I 0,An,An]),(14,I 1)]<|De 35 [I 0,An,An,An,An,I 0,An,An] (by rfl) (B4 r 0 8 (Ai 8))<|AN [2,3] [(3,I 1)]<|AK<|Ae (Br (Bc nR (EG (g:=q) (cs:=[I 0,An,An,An,An,I 0,An,An]) (v:=I 1) rfl rfl rfl oK (Bp i 0 _ rfl) ⟨rfl,l⟩)))
theorem YA {Y:Nat->Prop} {n:Nat} (hn:n<=10) (w:World) (hY:∀b,w.heap.size<=b->Y b):Cg 14 #[N n] w (jP Y n w):=by
 refine CN dE<|Ad<|AY [.one 0,AM 1 1]<|DB 2 35 [I 0,An,An,An,An,I 0,An,An] fun A w1 B j a1=>AN [0,2,3] [qv 2 A,(3,I 0)]<|AK<|Ae (Ad<|AY [AM 0 1,.one 1,AM 2 3,.one 5,.one 6,AM 7 1]<|AN [0,2,3,7] [(7,N n)]<|BW 8 ((eV hn w1).mono ?_))
 rintro en w2 ⟨VA,VL,rfl,G,S,P⟩;refine⟨_,rfl,.inl oK,?_⟩;obtain⟨f,d,rfl⟩:=Cr S;obtain⟨AO,c,rfl⟩:=Cr P;refine AN [0,2,3,9,10] [(9,.agg #[.slice f (n+1) d,.slice AO n c,I 1]),(10,I 0)]<|DB 4 31 [An,An,I 0] fun z w3 u y a0=>?_
 have U:=BM [.slice f (n+1) d,.slice AO n c,I 1] u rfl;have m:=By (a:=w2) (g:=z) oO [.slice f (n+1) d,.slice AO n c,I 1] 0 y;refine De 31 [.slice f (n+1) d,.slice AO n c,I 1] (by rfl) (B4 u 0 3 (Ai 3))<|AN [0,2,3,4,5] [qv 4 z,(5,I 0)]<|AK ?_;generalize(w3.setCells z 0 [.slice f (n+1) d,.slice AO n c,I 1])=q at U m⊢;have H:=Aw G m;have J:=Aw j H;have p2:=A9 B H;refine Ae (Ad (Ad<|Be [(1,.F)] [0,2,3,4,5,12] [(12,bF)] (Bo (vR:(.bool ((0:Int)!=(0:Int)):Value)=bF))<|Ae (B1 rfl (AZ (Ae (Ad ?_))))));have q3:IntKind.i64.wrap ((n:Int)+(1:Int))=((n+1:Nat):Int):=Ec (by unfold maxLen;omega) rfl;have⟨w5,mr,pF,D⟩:=FM q.drew u32 LQ rfl (n:=n+1) (by unfold lim;omega) oD;have rg:=Bp U 0 [.slice f (n+1) d,.slice AO n c,I 1] rfl;refine VQ [6] (fun W9=>W9.rangeAt z 0 [.slice f (n+1) d,.slice AO n c,I 1]) [.qs [(0,.p),(1,.r (.agg #[.slice f (n+1) d,.slice AO n c,I 1])),(2,.p),(3,.e (N (n+1)))],.one 4,.one 5,.one 6,.ps [(7,.p)]]<|FW (O:=[(∀L,CR (some (fun W9=>W9.rangeAt z 0 [.slice f (n+1) d,.slice AO n c,I 1])) q.drew L->(execOp (I6 [(15,N n),(0,N n),qv 2 A,(3,I 0),qv 4 z]) (B5 (Bt f14 4) 1)).run prog L= .ok (.value (.agg #[.slice f (n+1) d,.slice AO n c,I 1])) L),(I (IntKind.i64.wrap ((n:Int)+(1:Int))):Value)=N (n+1)]) [] [0,2,3,4,15,16,18] [(15,N n),(16,.agg #[.slice f (n+1) d,.slice AO n c,I 1]),(18,N (n+1))] ⟨(fun L hS=>G1 (t:=31) (g:=z) (off:=0) oK oK hS),(vI q3),trivial⟩ rg (fun _ _=> .nil)<|VP 19 32 (n+1) oK oK oK oK mr (.inr (fun _=>Bp (A9 (A9 U (Da q 1)) D) 0 _ rfl)) ?_;obtain⟨x,a2⟩:∃g,g=q.drew.heap.size:=⟨_,rfl⟩;rw[<-a2] at pF⊢;refine Il 20 (v:= .agg #[N n,An,An,.slice f (n+1) d,.slice AO n c,I 1,vS x (n+1) (n+1),An]) (w':=w5) oK oK oK oK oK (.inr id) ?_;have s:=Aw (Da q 1) D;have C:=A9 p2 s;have a4:=Aw J s;have Z:=BM [N n,An,An,.slice f (n+1) d,.slice AO n c,I 1,vS x (n+1) (n+1),An] C rfl;have a3:=By (a:=w) (g:=A) oO [N n,An,An,.slice f (n+1) d,.slice AO n c,I 1,vS x (n+1) (n+1),An] 0 a4;have R:=(DQ (b:=A) (o:=0) (ys:=[N n,An,An,.slice f (n+1) d,.slice AO n c,I 1,vS x (n+1) (n+1),An]) (A9 S (Aw m s)) (fun e=>by have:=(Ax S _ e).1;omega)).rdo (Y:=Y) (fun b hb=>hY b (by have:=j.size;omega));have M:=(DQ (b:=A) (o:=0) (ys:=[N n,An,An,.slice f (n+1) d,.slice AO n c,I 1,vS x (n+1) (n+1),An]) (A9 P (Aw m s)) (fun e=>by have:=(Ax P _ e).1;omega)).rdo (Y:=Y) (fun b hb=>hY b (by have:=j.size;omega));have Q:=(BD (b:=A) (o:=0) (ys:=[N n,An,An,.slice f (n+1) d,.slice AO n c,I 1,vS x (n+1) (n+1),An]) pF (by have:=m.size;have:=G.size;have:q.drew.heap.size=q.heap.size:=rfl;omega)).rdo (Y:=Y) (fun b hb=>hY b (by have:=J.size;have:q.drew.heap.size=q.heap.size:=rfl;omega));refine De 35 [N n,An,An,.slice f (n+1) d,.slice AO n c,I 1,vS x (n+1) (n+1),An] (by rfl) (B4 C 0 8 (Ai 8))<|Fh (O:=[]) [2,3] [] trivial<|AK<|Ae (Br (EG (g:=A) (cs:=[N n,An,An,.slice f (n+1) d,.slice AO n c,I 1,vS x (n+1) (n+1),An]) (v:=I 0) rfl rfl rfl oK (Bp Z 0 _ rfl) ⟨_,rfl,a3,Sp hn,by simp[Fq],by simp[Fq],oS,_,_,_,_,_,_,rfl,⟨⟨[],QE _ _ _,fun i l h=>by simp[Fq] at h⟩,⟨[],QE _ _ _,fun i l lv a h=>by simp[Fq] at h⟩,?_,?_,?_,⟨[],QE _ _ _,rfl,fun i k l h=>by simp at h⟩,⟨none,0,rfl,Ai _⟩,⟨none,0,rfl,Ai _⟩⟩⟩))
 .simpa[Fq] using R
 .simpa[Fq] using M
 .simpa[Fq] using Q
def ad0:Sh:= .seq (.reg 0) (.seq (.seq (.reg 1) (.seq (.reg 2) (.cond (.tmp 10) (.seq (.reg 3) .ret) .skip))) (.seq (.seq (.reg 4) (.cond (.tmp 19) (.seq (.reg 5) .ret) .skip)) (.seq (.seq (.reg 6) (.cond (.tmp 24) (.seq (.reg 7) .ret) .skip)) (.seq (.reg 8) (.seq (.reg 9) (.seq (.reg 10) (.seq (.reg 11) .ret)))))))
theorem iU:f15.body=some (ad0.code f15):=oK
def RC (x:Sv) (l:List Int):Sv:={x with G:=x.G++[l]}
def iV (Y:Nat->Prop) (x:Sv) (ps:List (Int×List Int)) (l:List Int) (w:World) (b:Ending) (a:World):Prop:=
 (Nk x.n [l]/\∃v,b= .returned (.tuple #[v,I 0])/\Bl w a/\FE Y a v (RC x l) (ps++[(1,l)]))∨(¬Nk x.n [l]/\dF 140 w b a)
theorem UU {n:Nat} {l:List Int} (h:Nk n [l]):∀y∈l,Bud.Lit n y:=fun y a=>by
 have:=h.2.1 l oS;have:=List.any_eq_false.1 this y a;unfold G3 at this;have:=of_decide_eq_true (by simpa using this);unfold Bud.Lit B7;omega
theorem XK {Y:Nat->Prop} {x:Sv} {ps:List (Int×List Int)} {w:World} {v VX:Value} {l:List Int} (g2:FE Y w v x ps) (hY:∀b,w.heap.size<=b->Y b) (i9:okS x ps) (c5:aH w VX 1 l.length (l.map I)) (b5:l.length<=lim) (k7:x.G.length<=100) (k6:ps.length<=100):
 Cg 15 #[v,VX] w (iV Y x ps l w):=by
 obtain⟨hx,j6,b9,i8,vG,vL,vA,vO,vF,vR,rfl,b3⟩:=g2;have hs:=b3.sv;have k5:=hx.few;obtain⟨AG,kG,rfl,j3⟩:=hs.cg;obtain⟨AL,kL,rfl⟩:∃A c,vL= .slice A x.Q.length c:=by have⟨_,h,_⟩:=hs.l;exact h.form
 obtain⟨AA,kA,rfl⟩:=hs.a.form;obtain⟨AO,Z,rfl⟩:=hs.o.form;obtain⟨AF,kF,rfl⟩:=hs.p.form;obtain⟨AR,kR,rfl,j2⟩:=hs.cr;obtain⟨AX,kX,rfl⟩:=c5.form;refine CN iU<|Ad<|AY [.one 0,.one 1,AM 2 1]<|DB 2 35 [N x.n,.slice AG x.G.length kG,.slice AL x.Q.length kL,.slice AA x.X.length kA,.slice AO x.O.length Z,I x.J,.slice AF x.F.length kF,.slice AR ps.length kR] fun t w1 e9 a5 h9=>DB 4 35 [I 0,An,An,An,An,I 0,An,An] fun b4 w2 e8 a4 h8=>AN [1,2,4,5] [qv 2 t,qv 4 b4,(5,I 0)]<|AK ?_
 have e6:=Aw a5 a4;have k:=A9 e9 a4;have B:=CQ e8 a5.size;have lb:w.heap.size<=t/\t<b4/\b4<w2.heap.size:=oO;refine Ae (Ad (Ad ?_));have sc:=ZG hx (hs.below e6) j6 b9 i8;refine AY [.one 0,.one 1,AM 2 1]<|F7 (cs:=[N x.n,.slice AG x.G.length kG,.slice AL x.Q.length kL,.slice AA x.X.length kA,.slice AO x.O.length Z,I x.J,.slice AF x.F.length kF,.slice AR ps.length kR]) 7 35 (Bp k 0 [N x.n,.slice AG x.G.length kG,.slice AL x.Q.length kL,.slice AA x.X.length kA,.slice AO x.O.length Z,I x.J,.slice AF x.F.length kF,.slice AR ps.length kR] rfl)<|BW 8 (sc.mono ?_);rintro en w3 ⟨ck,rfl,M,j7⟩;obtain rfl:=j7 i9;refine⟨_,rfl,.inl oK,?_⟩;have h0:=Aw e6 M;have k:=A9 k M;have B:=A9 B M;refine AN [1,2,4,5,6] [(6,I 0)]<|AK<|Ae (Ad<|Be [(1,.F)] [1,2,4,5,6,10] [(10,bF)] (Bo (vR:(.bool ((0:Int)!=(0:Int)):Value)=bF))<|Ae (B1 rfl (AZ (Ae (Ad (Ad ?_))))));have a7:Bl w3 (w3.alloc (.cells #[.slice AX l.length kX] 25)):=(Below.refl _ _).alloc (Ai _) _;have c4:Hf (w3.alloc (.cells #[.slice AX l.length kX] 25)) (vS w3.heap.size 1 1) [l]:=⟨[.slice AX l.length kX],(Fr w3 25 [.slice AX l.length kX]).rd,fun j l' hj=>by
  match j,hj with
  |0,hj=>simp at hj;subst hj;exact⟨_,rfl,c5.below (Aw h0 a7)⟩⟩
 have hc:=Of (n:=(x.n:Int)) oO c4 (by unfold lim;simp) (fun y hy=>by simp at hy;rw[hy];exact b5);have C0:Aj [(ad t 0,N x.n)] w3:= .cons (BE k rfl) .nil;refine AY [Cu 0 3 [(1,.c 0)],.one 3,.one 4,.one 5,AM 6 1]<|DO [1,2,4,5,14,15] [(14,N x.n),(15,.slice AX l.length kX)] C0<|CH 16 (vS w3.heap.size 1 1) (w3.alloc (.cells #[.slice AX l.length kX] 25)) ?_;obtain⟨b8,w4,j8,g1⟩:∃b_ w_,b_=w3.heap.size/\w_=(w3.alloc (.cells #[.slice AX l.length kX] 25)):=⟨_,_,rfl,rfl⟩;rw[<-g1,<-j8] at hc⊢;rw[<-g1] at a7;refine CH 17 (.agg #[N x.n,vS b8 1 1]) w4<|BW 18 (hc.mono ?_);rintro en w5 ⟨k4,rfl,k0,g8⟩;refine⟨_,rfl,.inl oK,?_⟩;have R:=Aw a7 k0;have b0:=Aw h0 R;have k:=A9 k R;have B:=A9 B R;refine AN [1,2,4,5,19] [(19,.bool ((k4:Int)!=(0:Int)))]<|AK<|Ae ?_;by_cases hk0:k4=0;rotate_left
 .rw[show((k4:Int)!=(0:Int))=true by simp[hk0]];refine Bg rfl (Ad ?_);have c1:=BM [I 0,An,An,An,An,I 0,An,An] B rfl;have a0:=By (a:=w) (g:=b4) oO [I 0,An,An,An,An,I 0,An,An] 0 b0;refine AY [.one 0,.one 1,AM 2 1]<|CH 20 (.agg #[I 0,An,An,An,An,I 0,An,An]) w5<|De 35 [I 0,An,An,An,An,I 0,An,An] (by rfl) (B4 B 0 8 (Ai 8))<|AN [4,5] [(5,I 140)]<|AK<|Ae (Br (Bc nR (EG (g:=b4) (cs:=[I 0,An,An,An,An,I 0,An,An]) (v:=I 140) rfl rfl rfl oK (Bp c1 0 _ rfl) (.inr ⟨fun hh=>hk0 (g8.2 hh),rfl,a0⟩))))
 rw[show((k4:Int)!=(0:Int))=false by simp[hk0]];have b7:=g8.1 hk0;refine B1 rfl (AZ (Ae (Ad (Ad ?_))));have q1:¬(65536:Int)<=(x.G.length:Int):=oO;have C1:Aj [(ad t 1,.slice AG x.G.length kG)] w5:= .cons (BE k rfl) .nil;refine BA [(1,.c 0),(3,.F)] [1,2,4,5,24] [(24,bF)] (Bo (Er q1)) C1<|Ae (B1 rfl (AZ (Ae (Ad ?_))));have mc:=dl (c5.below b0) b5;refine AY [AM 0 1,.one 1,AM 2 1]<|AN [1,2,4,5,26] [(26,.slice AX l.length kX)]<|BW 27 (mc.mono ?_);rintro en w6 ⟨VC,rfl,C,a6⟩;obtain⟨H,D,rfl⟩:=Cr C;refine⟨_,rfl,.inl oK,?_⟩;have e0:=Aw b0 a6;have k:=A9 k a6;have B:=A9 B a6;refine AN [1,2,4,5] [(1,.slice H l.length D)]<|AK<|Ae (Ad ?_);have⟨a2,g4,i5⟩:=b3.g;have g5:=g4.1;have⟨i0,j5,hz⟩:=Af.1 i25;injection hz with hz c2;injection c2 with c2 i1;have c9:Bl w6 (w6.alloc (.cells #[.slice H l.length D] 25)):=(Below.refl _ _).alloc (Ai _) _;have e1:=Is w6 25 (.slice H l.length D);have⟨s,m,w8,k2,j0,j9⟩:=G5 (P:=prog) (w6.alloc (.cells #[.slice H l.length D] 25)) 22 22 25 i0 _ 1 24 u22 j5 hz c2 i1 rfl ((g5.below (Aw e0 c9)).cap x.G.length) (ad w6.heap.size 0) 1 1 [.slice H l.length D] rfl (fun j u hu=>by
  have⟨ad,e3,_,e4⟩:=e1.2 oO;injection e3 with e3;subst e3;exact e4 j u hu) oO (by unfold maxLen;omega) oO
 have L:=Aw c9 j9;have S:Ba w6.heap.size w8 (.slice s (x.G.length+1) m) (25,1,x.G.length+1,a2++[.slice H l.length D]):=CQ j0 c9.size;have k1:=Aw e0 L;have h6:=(EV S).1;have C2:Aj [(ad t 1,.slice AG x.G.length kG)] w6:= .cons (BE k rfl) .nil;have k:=A9 k L;have B:=A9 B L;have C:=A9 C L;refine AY [Cu 0 4 [(1,.c 0),(2,.q (.slice AG x.G.length x.G.length))],.one 4,.one 5,AM 6 1,.one 7]<|E3 (O:=[(∀w',CR none w6 w'->Cg 41 #[.slice AG x.G.length kG] w' fun en c0=>en=Ending.returned (.slice AG x.G.length x.G.length)/\w'=c0)]) [1,2,4,5,30,31] [(30,.slice AG x.G.length x.G.length),(31,.slice H l.length D)] ⟨(fun w' e=>WJ AG x.G.length kG j3 w'),trivial⟩ C2<|CH 32 (vS w6.heap.size 1 1) (w6.alloc (.cells #[.slice H l.length D] 25))<|DY 33 22 22 (.slice AG x.G.length x.G.length) (vS w6.heap.size 1 1) oK oK oK oK k2 (.inl oK)<|AN [1,2,4,5,33,34] [(33,.slice s (x.G.length+1) m),(34,vP t 1)]<|Cz (.slice s (x.G.length+1) m) (BE k (j:=1) rfl) (DE k 1)<|BG [1,2,4,5] ?_;have k:=Ez [.slice s (x.G.length+1) m] 1 k;have e2:EQ [N x.n,.slice AG x.G.length kG,.slice AL x.Q.length kL,.slice AA x.X.length kA,.slice AO x.O.length Z,I x.J,.slice AF x.F.length kF,.slice AR ps.length kR] 1 [.slice s (x.G.length+1) m]=[N x.n,.slice s (x.G.length+1) m,.slice AL x.Q.length kL,.slice AA x.X.length kA,.slice AO x.O.length Z,I x.J,.slice AF x.F.length kF,.slice AR ps.length kR]:=rfl;rw[e2] at k;have B:=BD (b:=t) (o:=1) (ys:=[.slice s (x.G.length+1) m]) B oO;have k3:=e0.size;have C:=DQ (b:=t) (o:=1) (ys:=[.slice s (x.G.length+1) m]) C (fun e=>by have:=(Ax C _ e).1;have:=b0.size;have:=e6.size;have:=M.size;have:=R.size;omega);have S:=DQ (b:=t) (o:=1) (ys:=[.slice s (x.G.length+1) m]) S (fun e=>by have:=(Ax S _ e).1;have:=M.size;have:=R.size;have:=a6.size;omega);have a9:=By (a:=w) (g:=t) oO [.slice s (x.G.length+1) m] 1 k1;have g3:w6.heap.size<=(w8.setCells t 1 [.slice s (x.G.length+1) m]).heap.size:=by rw[(DT (b:=t) [.slice s (x.G.length+1) m] 1 w8).1];exact L.size
 change Ba _ (w8.setCell (ad t 1) (.slice s (x.G.length+1) m)) _ _ at k B C S;change Below _ _ (w8.setCell (ad t 1) (.slice s (x.G.length+1) m)) at a9;change _<=(w8.setCell (ad t 1) (.slice s (x.G.length+1) m)).heap.size at g3;generalize(w8.setCell (ad t 1) (.slice s (x.G.length+1) m))=w9 at k B C S a9 g3⊢;refine Ae (Ad ?_);have⟨a1,g6,i6⟩:=b3.r;have i7:=g6.1;have⟨g0,j4,hy⟩:=Af.1 PS;injection hy with hy c3;injection c3 with c3 i2;have a8:Bl w9 (w9.alloc (.cells #[I 1,.slice H l.length D] 133)):=(Below.refl _ _).alloc (Ai _) _;have e3:=Mc w9 133 (I 1) (.slice H l.length D);have⟨f,d,h7,h5,g7,g9⟩:=G5 (P:=prog) (w9.alloc (.cells #[I 1,.slice H l.length D] 133)) 33 33 133 g0 _ 2 32 u33 j4 hy c3 i2 (by rfl) ((i7.below (Aw a9 a8)).cap ps.length) (ad w9.heap.size 0) 1 1 [I 1,.slice H l.length D] rfl (fun j u hu=>by
  have⟨ad,e4,_,e5⟩:=e3.2 oO;injection e4 with e4;subst e4;exact e5 j u hu) oO (by unfold maxLen;omega) oO
 have z:=Aw a8 g9;have pP:Ba w9.heap.size h7 (.slice f (ps.length+1) d) (133,2,ps.length+1,a1++[I 1,.slice H l.length D]):=CQ g7 a8.size;have h4:=Aw a9 z;have e7:=(EV pP).1;have C3:Aj [(ad t 7,.slice AR ps.length kR)] w9:= .cons (BE k rfl) .nil;have k:=A9 k z;have B:=A9 B z;have C:=A9 C z;have S:=A9 S z;refine AY [Cu 0 4 [(1,.c 0),(2,.q (.slice AR ps.length ps.length))],.one 4,.one 5,.one 6,AM 7 1,.one 8]<|E3 (O:=[(∀w',CR none w9 w'->Cg 42 #[.slice AR ps.length kR] w' fun en c0=>en=Ending.returned (.slice AR ps.length ps.length)/\w'=c0)]) [1,2,4,5,37,38] [(37,.slice AR ps.length ps.length),(38,.slice H l.length D)] ⟨(fun w' e=>RZ AR ps.length kR j2 w'),trivial⟩ C3<|CH 39 (.agg #[I 1,.slice H l.length D]) w9<|CH 40 (vS w9.heap.size 1 1) (w9.alloc (.cells #[I 1,.slice H l.length D] 133))<|DY 41 33 33 (.slice AR ps.length ps.length) (vS w9.heap.size 1 1) oK oK oK oK h5 (.inl oK)<|AN [1,2,4,5,41,42] [(41,.slice f (ps.length+1) d),(42,vP t 7)]<|Cz (.slice f (ps.length+1) d) (BE k (j:=7) rfl) (DE k 7)<|BG [1,2,4,5] ?_;have k:=Ez [.slice f (ps.length+1) d] 7 k;have e2:EQ [N x.n,.slice s (x.G.length+1) m,.slice AL x.Q.length kL,.slice AA x.X.length kA,.slice AO x.O.length Z,I x.J,.slice AF x.F.length kF,.slice AR ps.length kR] 7 [.slice f (ps.length+1) d]=[N x.n,.slice s (x.G.length+1) m,.slice AL x.Q.length kL,.slice AA x.X.length kA,.slice AO x.O.length Z,I x.J,.slice AF x.F.length kF,.slice f (ps.length+1) d]:=rfl;have B:=BD (b:=t) (o:=7) (ys:=[.slice f (ps.length+1) d]) B oO;have l6:w2.heap.size<=w6.heap.size:=by have:=M.size;have:=R.size;have:=a6.size;omega
 have C:=DQ (b:=t) (o:=7) (ys:=[.slice f (ps.length+1) d]) C (fun e=>by have:=(Ax C _ e).1;have:=M.size;have:=R.size;omega);have S:=DQ (b:=t) (o:=7) (ys:=[.slice f (ps.length+1) d]) S (fun e=>by have:=(Ax S _ e).1;omega);have pP:=DQ (b:=t) (o:=7) (ys:=[.slice f (ps.length+1) d]) pP (fun e=>by have:=(Ax pP _ e).1;omega);have h3:=By (a:=w) (g:=t) oO [.slice f (ps.length+1) d] 7 h4;refine Ae (Ad ?_);have c1:=BM [N x.n,.slice s (x.G.length+1) m,.slice AL x.Q.length kL,.slice AA x.X.length kA,.slice AO x.O.length Z,I x.J,.slice AF x.F.length kF,.slice f (ps.length+1) d] B rfl;have C:=(DQ (b:=b4) (o:=0) (ys:=[N x.n,.slice s (x.G.length+1) m,.slice AL x.Q.length kL,.slice AA x.X.length kA,.slice AO x.O.length Z,I x.J,.slice AF x.F.length kF,.slice f (ps.length+1) d]) C (fun e=>by have:=(Ax C _ e).1;have:=M.size;have:=R.size;omega)).rdo (Y:=Y) (fun b hb=>hY b (by have:=b0.size;omega));have S:=(DQ (b:=b4) (o:=0) (ys:=[N x.n,.slice s (x.G.length+1) m,.slice AL x.Q.length kL,.slice AA x.X.length kA,.slice AO x.O.length Z,I x.J,.slice AF x.F.length kF,.slice f (ps.length+1) d]) S (fun e=>by have:=(Ax S _ e).1;omega)).rdo (Y:=Y) (fun b hb=>hY b oO);have pP:=(DQ (b:=b4) (o:=0) (ys:=[N x.n,.slice s (x.G.length+1) m,.slice AL x.Q.length kL,.slice AA x.X.length kA,.slice AO x.O.length Z,I x.J,.slice AF x.F.length kF,.slice f (ps.length+1) d]) pP (fun e=>by have:=(Ax pP _ e).1;omega)).rdo (Y:=Y) (fun b hb=>hY b (by have:=a9.size;omega));have a0:=By (a:=w) (g:=b4) oO [N x.n,.slice s (x.G.length+1) m,.slice AL x.Q.length kL,.slice AA x.X.length kA,.slice AO x.O.length Z,I x.J,.slice AF x.F.length kF,.slice f (ps.length+1) d] 0 h3;refine AY [.one 0,.one 1,AM 2 1]<|F7 (cs:=[N x.n,.slice s (x.G.length+1) m,.slice AL x.Q.length kL,.slice AA x.X.length kA,.slice AO x.O.length Z,I x.J,.slice AF x.F.length kF,.slice f (ps.length+1) d]) 43 35 (Bp k 0 _ rfl)<|De 35 [N x.n,.slice s (x.G.length+1) m,.slice AL x.Q.length kL,.slice AA x.X.length kA,.slice AO x.O.length Z,I x.J,.slice AF x.F.length kF,.slice f (ps.length+1) d] (by rfl) (B4 B 0 8 (Ai 8))<|AN [4,5] []<|AK ?_;have c6:=UU b7;have i3:Jw (RC x l):=⟨hx.few,fun l' c7=>by
  rcases B0.1 c7 with h|h
  .exact hx.G l' h
  .simp at h;rw[h];exact c6,hx.Q,fun l' c7=>by
  rcases B0.1 c7 with h|h
  .exact hx.gl l' h
  .simp at h;rw[h];exact b5,hx.ll,hx.X,hx.olen,hx.ond,hx.orng,hx.F⟩
 have b6:(RC x l).G.length=x.G.length+1:=by simp[RC]
 have b1:(ps++[((1:Int),l)]).length=ps.length+1:=oS;have hf:=b3.step (F8.below a0);refine Ae (Br (EG (g:=b4) (cs:=[N x.n,.slice s (x.G.length+1) m,.slice AL x.Q.length kL,.slice AA x.X.length kA,.slice AO x.O.length Z,I x.J,.slice AF x.F.length kF,.slice f (ps.length+1) d]) (v:=I 0) rfl rfl rfl oK (Bp c1 0 _ rfl) (.inl ⟨b7,_,rfl,a0,i3,by rw[b6];unfold lim;omega,b9,by rw[b1];unfold lim;omega,_,_,_,_,_,_,rfl,⟨a2++[.slice H l.length D],?_,fun i l' hi=>?_⟩,hf.l,hf.a,hf.o,hf.p,⟨a1++[I 1,.slice H l.length D],?_,?_⟩,?_,?_⟩)))
 .rw[b6];exact S
 .have i4:a2.length=x.G.length:=by have:=g5.1;omega
  by_cases j1:i<x.G.length
  .have a3:x.G[i]?=some l':=by
    have:(x.G++[l])[i]?=some l':=hi
    rwa [AW j1] at this
   have⟨U,h1,h2⟩:=i5 i l' a3;exact⟨U,by rw[AW oO];exact h1,h2.step (F8.below a0)⟩
  .have a3:(x.G++[l])[i]?=some l':=hi;have:=(Aa.1 a3).1;simp at this;obtain rfl:i=x.G.length:=oO;simp at a3;subst a3;exact⟨_,by rw[BR oO,i4];simp,C⟩
 .rw[b1];exact pP
 .exact(i6.mono fun V l' h=>h.step (F8.below a0)).push C b5
 .exact⟨s,m,by unfold sq;rw[b6],by rw[b6];exact h6⟩
 .exact⟨f,d,by unfold sq;rw[b1],by rw[b1];exact e7⟩
set_option maxHeartbeats 4000000 in
theorem cO (x:Int) (c:B7 x<=maxLen) (w:World):Cg 119 #[.int .i64 x] w fun e a=>e= .returned (.int .i64 (B7 x:Int))/\w=a:=by
 have⟨f,b⟩:=S9 c;have d:(B7 x:Int)=max x (-x):=by unfold B7;omega
 rw[d];go_enter func119,ntmps119;go_wp2;go_ret;exact⟨rfl,rfl⟩
def nF:Sh:= .seq (.reg 6) (.seq (.cond (.tmp 21) .skip (.exit 2)) (.seq (.block 3 (.seq (.reg 7) (.seq (.reg 8) (.seq (.seq (.reg 9) (.cond (.tmp 37) (.seq (.reg 10) .ret) .skip)) (.reg 11))))) (.reg 12)))
def nG:Sh:= .seq (.reg 3) (.seq (.cond (.tmp 15) .skip (.exit 0)) (.seq (.block 1 (.seq (.reg 4) (.seq (.reg 5) (.block 2 (.loop nF))))) (.reg 13)))
def oe:Sh:= .seq (.reg 0) (.seq (.reg 1) (.seq (.seq (.reg 2) (.block 0 (.loop nG))) (.seq (.reg 14) .ret)))
theorem kJ:f47.body=some (oe.code f47):=oK
theorem Xm {a:List Int} {i:Nat} {y:Int} (d:(a.map B7).Nodup) (g:a[i]?=some y):B7 y∉(a.take i).map B7:=by
 rw[DZ];intro h;have⟨j,b⟩:=Bw.1 h;rw[Ce] at b;split at b
 .rename_i e;have f:=Aa.1 b;have c:(a.map B7)[i]?=some (B7 y):=by simp[g]
  have c:=Aa.1 c;exact(Cc.1 d j i f.1 c.1 e) (f.2.trans c.2.symm)
 .cases b
def kK (w:World) (b:Ending) (a:World):Prop:=b= .returned bT/\Bl w a
theorem Xn {n:Nat} {w:World} {V:Value} {a:List Int} (hn:n<=10) (hR:He w V [a]) (a4:a.length<=lim) (A:∀y∈a,Bud.Lit n y) (Y:(a.map B7).Nodup):Cg 47 #[N n,V] w (kK w):=by
 have⟨a9,C,a1⟩:=hR;obtain⟨AG,M,rfl⟩:=C.form;refine CN kJ<|Ad<|B8 [] [0,1,4] [(4,bF)]<|Ae (Ad<|AY [.one 0,AM 1 1]<|CH 11 (.map (some w.heap.size)) (w.alloc (.map #[] 0)) ?_);have x:=VS.made w;have G:Bl w (w.alloc (.map #[] 0)):=(Below.refl _ _).alloc (Ai _) _;obtain⟨d,w1,D,g⟩:∃b_ w_,b_=w.heap.size/\w_=(w.alloc (.map #[] 0)):=⟨_,_,rfl,rfl⟩;rw[<-g,<-D];rw[<-g,<-D] at x;rw[<-g] at G;refine AN [0,1,4,5] [(5,.map (some d))]<|AK<|Ae (Ad (Ad<|B8 [] [0,4,5,12,13,14] [(12,.slice AG 1 M),(13,N 1),(14,I 0)]<|Ae (Bd<|Ct (fun m L W=>∃i,L=[(0,N n),(4,bF),(5,.map (some d)),(12,.slice AG 1 M),(13,N 1),(14,N i)]/\Bl w W/\(i=0->VS W d [])/\i<=1/\m=1-i) (n:=1) ⟨0,rfl,G,fun _=>x,oO,oO⟩ ?_)));rintro m L W ⟨i,rfl,hW,r,hi,rfl⟩;refine Ad ?_;by_cases b4:i<1
 .have q1:(i:Int)<((1:Nat):Int):=oO;refine Be [(0,.T)] [0,4,5,12,13,14,15] [(15,bT)] (Bo (EE q1))<|Ae (Ad ?_);obtain rfl:i=0:=oO;have r:=r rfl;refine Bg rfl (AZ (Ae (Ad (Bd (Ad ?_)))));have⟨go,J,b0,a7,b5,a2⟩:=(C.below hW).some_ (Nat.one_pos);injection a7 with a8 _ a0;subst a0;have⟨U,hU,f⟩:=a1 0 a rfl;obtain⟨H,p,rfl⟩:=f.form;have R:W.cell? ⟨go,Du J 0,none⟩=some (sq H a p):=by rw[DG];exact a2 0 _ hU
  rw[a8];have C1:Aj [(⟨go,Du J 0,none⟩,sq H a p)] W:= .cons R .nil;refine BA [(1,.c 0)] [0,4,5,7,12,13,14] [(7,sq H a p),(12,.slice (some (ad go J)) 1 M),(14,N 0)] (Bo (oO:oX 0 1)) C1<|Ae (Ad<|B8 [] [0,4,5,12,13,14,18,19,20] [(18,sq H a p),(19,N a.length),(20,I 0)]<|Ae (Bd<|Ct (fun m L s=>∃j,L=[(0,N n),(4,bF),(5,.map (some d)),(12,.slice (some (ad go J)) 1 M),(13,N 1),(14,N 0),(18,sq H a p),(19,N a.length),(20,N j)]/\Bl w s/\VS s d ((a.take j).map B7)/\j<=a.length/\m=a.length-j) (n:=a.length) ⟨0,rfl,hW,r,oO,oO⟩ ?_));rintro m L s ⟨j,rfl,o,r,hj,rfl⟩;refine Ad ?_;by_cases z:j<a.length
  .have q2:(j:Int)<(a.length:Int):=oO;refine Be [(0,.T)] [0,4,5,12,13,14,18,19,20,21] [(21,bT)] (Bo (EE q2))<|Ae (Ad<|Bg rfl (AZ (Ae (Ad (Bd (Ad ?_))))));have⟨ga,S,k',a6,b6,a3⟩:=(f.below o).some_ oO;injection a6 with hA b3 hk1;subst hk1;obtain⟨y,P⟩:∃v,a[j]?=some v:=⟨_,Ab z⟩;have R:s.cell? ⟨ga,Du S j,none⟩=some (I y):=by rw[DG];exact a3 j _ (by simp[P])
   rw[hA];have⟨b2,b1⟩:=A y (AQ P);have l:B7 y<=maxLen:=by unfold maxLen;omega
   have q3:j<maxLen:=by unfold lim at a4;unfold maxLen;omega
   have e1:¬((B7 y:Nat):Int)<(1:Int):=by unfold B7;omega
   have e2:¬(n:Int)<((B7 y:Nat):Int):=oO;have b:=r.look l;rw[decide_eq_false (Xm Y P)] at b;have C2:Aj [(⟨ga,Du S j,none⟩,I y)] s:= .cons R .nil;refine BA [(1,.c 0)] [0,4,5,9,12,13,14,18,19,20] [(9,I y),(18,.slice (some (ad ga S)) a.length p)] (Bo (oO:oX j a.length)) C2<|Ae (Ad<|Be (O:=[(∀t,CR none s t->Cg 119 #[I y] t fun en Q=>en=Ending.returned (N (B7 y))/\t=Q)]) [(1,.q (N (B7 y)))] [0,4,5,9,10,12,13,14,18,19,20] [(10,N (B7 y))] ⟨(fun t e=>cO y l t),trivial⟩<|Ae (Ad (Ad<|AY [Cu 0 10 [(1,.F),(5,.F)],.one 10,AM 11 1]<|G4 [0,4,5,9,10,12,13,14,18,19,20,33,34,35] [(33,bF),(34,.map (some d)),(35,N (B7 y))] (EP (Er e1) (Er e2))<|LF 36 134 (.map (some d)) (N (B7 y)) bF false oK oK oK oK b (.inl oK)<|AN [0,4,5,9,10,12,13,14,18,19,20,37] [(37,bF)]<|AK<|Ae (B1 rfl (AZ (Ae ?_))))));have⟨W3,u,Z,B⟩:=r.set (by rw[CJ,Ca];omega) l;have a5:=below_grown o B fun k hk=>by injection hk with hk;omega
   refine AY [AM 0 2,.one 2]<|AN [0,4,5,9,10,12,13,14,18,19,20,38,39] [(38,.map (some d)),(39,N (B7 y))]<|I9 134 (.map (some d)) (N (B7 y)) bT oK oK oK u (.inl oK)<|BG [0,4,5,9,10,12,13,14,18,19,20]<|BN (Ae<|Be [(0,.e (N (j+1)))] [0,4,5,12,13,14,18,19,20] [(20,N (j+1))] (Bo (vJ (Ec q3 rfl))) ?_);exact BV (BF (m:=a.length-(j+1)) oO ⟨j+1,rfl,a5,by rw[CK,P];simpa using Z,oO,rfl⟩)
  .have q2:¬(j:Int)<(a.length:Int):=oO;refine Be [(0,.F)] [0,4,5,12,13,14,18,19,20,21] [(21,bF)] (Bo (Er q2))<|Ae (Ad<|B1 rfl (BQ (Bc nX (B6 nX (Ck (BN (Ae<|Be (O:=[(I (IntKind.i64.wrap (((0:Nat):Int)+(1:Int))):Value)=N 1]) [(0,.e (N 1))] [0,4,5,12,13,14] [(14,N 1)] ⟨(vI oD),trivial⟩<|BV (BF (m:=0) oO ⟨1,rfl,o,fun h=>absurd h oD,oO,oO⟩))))))))
 .have q1:¬(i:Int)<((1:Nat):Int):=oO;refine Be [(0,.F)] [0,4,5,12,13,14,15] [(15,bF)] (Bo (Er q1))<|Ae (Ad<|B1 rfl (BQ (Bc nX (B6 nX (Ck (Ae (Ad<|B8 [] [4] [(4,bT)]<|Ae (Br (Bu rfl (v:=bT) rfl ⟨rfl,hW⟩)))))))))
def lf0:Sh:= .seq (.reg 0) (.seq (.reg 1) .ret)
theorem jU:f48.body=some (lf0.code f48):=oK
def jV (v:Int) (w:World) (b:Ending) (a:World):Prop:=b= .returned (I v)/\Bl w a
theorem ff {b s:Int} (i:IntKind.i64.wrap (b-s)=b-s) (w:World):Cg 48 #[.agg #[I b,I s]] w (jV (b-s) w):=by
 refine CN jU<|Ad<|AY [.one 0,AM 1 1]<|DB 1 142 [I b,I s] fun g h a d f=>AN [1,2] [qv 1 g,(2,I 0)]<|AK<|Ae (Ad ?_)
 have j:Aj [(ad g 0,I b),(ad g 1,I s)] h:= .cons (BE a rfl) (.cons (BE a rfl) .nil);refine BA [(1,.c 0),(3,.c 1),(4,.e (I (b-s)))] [1,2] [(2,I (b-s))] (Bo (vJ i)) j<|Ae (Br (Bu rfl (v:=I (b-s)) rfl ⟨rfl,d⟩))
def oN:Sh:= .seq (.reg 0) (.seq (.reg 1) (.seq (.seq (.reg 2) (.cond (.tmp 17) (.reg 3) .skip)) (.seq (.reg 4) .ret)))
theorem jW:f19.body=some (oN.code f19):=oK
def dH (a:Int) (d f:Value) (w:World) (e:Ending) (b:World):Prop:=∃c:Int,e= .returned (.tuple #[.agg #[I a,d,f,I c],I 0])/\Bl w b
variable{w:World}
theorem Uo {k kX nX cX:Nat} {kind l j:Int} {mv:Value} {AX:Option Addr} (o:w.cell? (ad k 8)=some (I l)) (n:w.cell? (ad k 9)=some (I j)) (f:k<w.heap.size) (d:mv.oneCell'=true):
 Cg 19 #[vP k 0,I kind,mv,.slice AX nX cX] w (dH kind mv (.slice AX nX cX) w):=by
 refine CN jW<|Ad<|AY [.one 0,AM 1 1]<|DB 8 37 [I 0,An,An,I 0] fun p i e b m=>AN [0,1,2,3,8,9] [qv 8 p,(9,I 0)]<|AK ?_
 have u:=(Gs (b.block k f) 8).trans o;have t:=(Gs (b.block k f) 9).trans n;refine Ae (Ad ?_);have y:Aj [(ad k 9,I j)] i:= .cons t .nil;refine Fi [(4,.c 0)] [0,1,2,3,8,9,10] [(10,I j)] y ?_;have h:∀a:Int,HW f19 (.seq (.reg 4) .ret) (bodyPost prog f19 (dH kind mv (.slice AX nX cX) w)) [(1,I kind),(2,mv),(3,.slice AX nX cX),qv 8 p,(9,I 0),(10,I a)] i:=by
  intro a;refine Ad<|AY [AM 0 4,.one 4,.one 5,AM 6 1]<|AN [1,2,3,8,9,10,23,24,25,26] [(10,I a),(23,I kind),(24,mv),(25,.slice AX nX cX),(26,I a)] ?_;refine Il 27 (v:= .agg #[I kind,mv,.slice AX nX cX,I a]) (w':=i) oK oK oK oK (by revert d;cases mv<;>intro d<;>first|(exact absurd d Bool.false_ne_true)|kernel_rfl) (.inl oK)<|De 37 [I kind,mv,.slice AX nX cX,I a] (by simp only[BS,Cw,d];rfl) (B4 e 0 4 (Ai 4))<|AN [8,9] []<|AK ?_;have s:=BM [I kind,mv,.slice AX nX cX,I a] e rfl;exact Ae (Br (EG (g:=p) (cs:=[I kind,mv,.slice AX nX cX,I a]) (v:=I 0) rfl rfl rfl oK (Bp s 0 _ rfl) ⟨a,rfl,By oO [I kind,mv,.slice AX nX cX,I a] 0 b⟩))
 refine Ae (Ad (Ad ?_));by_cases r:kind=3
 .have q:((kind:Int)==(3:Int))=true:=by simp[r]
  refine Be [(1,.T)] [0,1,2,3,8,9,10,17] [(17,bT)] (Bo (vB q))<|Ae (Bg rfl ?_);have x:Aj [(ad k 8,I l)] i:= .cons u .nil;refine Fi [(4,.c 0)] [1,2,3,8,9,10] [(10,I l)] x<|Ae (h l)
 .have q:((kind:Int)==(3:Int))=false:=by simp[r]
  refine Be [(1,.F)] [0,1,2,3,8,9,10,17] [(17,bF)] (Bo (vB q))<|Ae (B1 rfl (AZ (Ae (Eu (h j)))))
def oP:Sh:= .seq (.reg 0) (.seq (.reg 1) .ret)
theorem jX:f20.body=some (oP.code f20):=oK
theorem Dj.own_lt {V:Value} {z n b:Nat} {d:List Value} (h:Dj w V z n d) (a:V.ownBlock=some b):b<w.heap.size:=by
 rcases h.2 with⟨c,rfl,_⟩|⟨g,o,c,rfl,e,_⟩
 .cases a
 .have:g=b:=by
   first|exact Ah a|(split at a<;>first|exact Ah a|cases a)
  exact this▸e
def jY (b a:List Int) (w:World) (e:Ending) (c:World):Prop:=∃d,e= .returned d/\Ba w.heap.size c d (3,1,(b.filter fun x=>decide (x∈a)).length,(b.filter fun x=>decide (x∈a)).map I)/\Bl w c
theorem YU {L J:Value} {b d:List Int} (H:Dj w L 1 b.length (b.map I)) (t:Dj w J 1 d.length (d.map I)) (U:b.length<=lim) (S:d.length<=maxLen):Cg 20 #[L,J] w (jY b d w):=by
 obtain⟨A1,R,rfl⟩:=H.form;obtain⟨A2,Q,rfl⟩:=t.form;refine CN jX<|Ad<|AY [.one 0,AM 1 1]<|DB 3 25 [.slice A2 d.length Q] fun h M j a q=>AN [0,3,4] [qv 3 h,(4,.slice none 0 0)]<|AK<|Ae (Ad ?_)
 have P:=KR (H.below a) U;refine AY [AM 0 1,.one 1,AM 2 1,.one 3,AM 4 1]<|AN [0,3,4,5] [(5,.slice A1 b.length R)]<|BW 6 (P.mono ?_);rintro n p ⟨VC,rfl,f,l⟩;refine⟨_,rfl,.inl oK,?_⟩;have D:=A9 j l;have m:=Aw a l;obtain⟨C,r,rfl⟩:=Cr f;have Y:=a.size;refine AN [0,3,4,6,7] [(6,.slice C b.length r),(7,.func (.func 50) #[] #[vP h 0])] ?_;have dc:Cg 49 #[.slice C b.length r,.func (.func 50) #[] #[vP h 0]] p fun n o=>∃i,n= .returned i/\Ba M.heap.size o i (3,1,(b.filter fun x=>decide (x∈d)).length,(b.filter fun x=>decide (x∈d)).map I)/\p.grownBy o (Value.slice C b.length r).ownBlock:=by
  have ef:(b.filter fun x=>!(!decide (x∈d)))=b.filter fun x=>decide (x∈d):=by congr 1;funext x;simp
  rcases Fz f with⟨e,hn,s⟩|⟨g,c,e,hg⟩
  .injection e with B e2 A;subst B A;subst s;exact(Tq none 0 _ p).mono fun n o ⟨z,g2⟩=>g2▸⟨_,z,f,World.grownBy.refl _ _⟩
  .injection e with B e2 A;subst B A;have a0:=(Ax f g rfl).1;rw[<-ef];refine(Ov f (fun x=>!decide (x∈d)) 50 #[vP h 0] (enters_of func50 oK rfl) fun W G x=>?_).mono fun n o ⟨z,g2,y⟩=>⟨_,z,g2,y⟩
   exact Xa ((G.2 h 0 (Ax D h rfl).2 oO).trans (BE D rfl)) ((t.below m).oth G (fun hh=>by have:=t.own_lt hh;omega)) S
 refine BW 8 (dc.mono ?_);rintro n w3 ⟨i,rfl,O,y⟩;refine⟨_,rfl,.inl oK,?_⟩;have u:=below_grown m y fun k Z=>by have:=(Ax f k Z).1;omega
 refine AN [0,3,4] [(4,i)]<|AK<|Ae (Br (Bu rfl (v:=i) rfl ⟨i,rfl,CQ O Y,u⟩))
def nH:Sh:= .seq (.seq (.reg 2) (.cond (.tmp 16) .skip (.exit 0))) (.seq (.block 1 (.seq (.reg 4) (.cond (.tmp 25) (.seq (.reg 5) .ret) .skip))) (.reg 3))
def oh:Sh:= .seq (.reg 0) (.seq (.seq (.reg 1) (.block 0 (.loop nH))) (.seq (.reg 6) .ret))
theorem kN:f5.body=some (oh.code f5):=oK
def dR (n:Int) (R:List (List Int)) (c:Nat) (w:World) (d:Ending) (a:World):Prop:=∃b:Bool,d= .returned (.bool b)/\Bl w a/\(b=true->n<=10/\R.length<=60/\(∀l∈R,l.length<=30)/\c<=20)
theorem gV {n:Int} {R:List (List Int)} {V:Value} {A1 A2:Option Addr} {n1 c1 n2 c2:Nat} {w:World} (hR:Hf w V R):Cg 5 #[.agg #[I n,V],.slice A1 n1 c1,.slice A2 n2 c2] w (dR n R n1 w):=by
 have⟨a0,r,M⟩:=hR;obtain⟨z,f,rfl⟩:=r.form;refine CN kN<|Ad<|AY [.one 0,AM 1 1]<|DB 3 24 [I n,sq z R f] fun b w1 d a C=>AN [1,2,3,6] [qv 3 b,(6,bF)]<|AK<|Ae (Ad (Ad<|B8 [] [1,2,3,6,7] [(7,I 0)]<|Ae (Bd<|Ct (fun m L W=>∃i,L=[(1,.slice A1 n1 c1),(2,.slice A2 n2 c2),qv 3 b,(6,bF),(7,N i)]/\W=w1/\(∀l∈R.take i,l.length<=30)/\i<=60/\m=60-i) (n:=60) ⟨0,rfl,rfl,oS,oO,oO⟩ ?_)))
 rintro m L W ⟨i,rfl,rfl,G,hi,rfl⟩;have k:W.cell? (ad b 1)=some (sq z R f):=BE d rfl;have o0:W.cell? (ad b 0)=some (I n):=BE d rfl;have q2:i<maxLen:=by unfold maxLen;omega
 refine Ad (Ad ?_);have u:(i<R.length->60<=i)->HW f5 (.seq (.reg 6) .ret) (bodyPost prog f5 (dR n R n1 w)) [(1,.slice A1 n1 c1),(2,.slice A2 n2 c2),qv 3 b,(6,bF)] W:=by
  intro j;have s:R.length<=60->∀l∈R,l.length<=30:=fun a5=>by
   by_cases h:i<R.length
   .have:=j h;omega
   .rw[CX oO] at G;exact G
  refine Ad ?_;have x:Aj [(ad b 0,I n),(ad b 1,sq z R f)] W:= .cons o0 (.cons k .nil);by_cases o:(n:Int)<=(10:Int);rotate_left
  .refine BA [(1,.c 0),(2,.F)] [6] [] (Bo (Er o)) x<|Ae (Br (Bu rfl (v:=bF) rfl ⟨false,rfl,a,fun h=>by cases h⟩))
  by_cases A:(R.length:Int)<=(60:Int);rotate_left
  .refine BA [(1,.c 0),(2,.T),(5,.c 1),(7,.F)] [6] [] (EP (EE o) (Er A)) x<|Ae (Br (Bu rfl (v:=bF) rfl ⟨false,rfl,a,fun h=>by cases h⟩))
  by_cases S:(n1:Int)<=(20:Int);rotate_left
  .refine BA [(1,.c 0),(2,.T),(5,.c 1),(7,.T),(12,.F)] [6] [] (NW (EE o) (EE A) (Er S)) x<|Ae (Br (Bu rfl (v:=bF) rfl ⟨false,rfl,a,fun h=>by cases h⟩))
  by_cases a4:(n2:Int)<=(20:Int);rotate_left
  .refine BA [(1,.c 0),(2,.T),(5,.c 1),(7,.T),(12,.T),(17,.F)] [6] [] (Sm (EE o) (EE A) (EE S) (Er a4)) x<|Ae (Br (Bu rfl (v:=bF) rfl ⟨false,rfl,a,fun h=>by cases h⟩))
  refine BA [(1,.c 0),(2,.T),(5,.c 1),(7,.T),(12,.T),(17,.T)] [6] [(6,bT)] (Sm (EE o) (EE A) (EE S) (EE a4)) x<|Ae (Br (Bu rfl (v:=bT) rfl ⟨true,rfl,a,fun _=>⟨o,oO,s oO,oO⟩⟩))
 by_cases H:i<R.length;rotate_left
 .have q1:¬(i:Int)<(R.length:Int):=oO;have B:Aj [(ad b 1,sq z R f)] W:= .cons k .nil;refine BA [(2,.c 0),(4,.F)] [1,2,3,6,7,16] [(16,bF)] (Bo (Er q1)) B<|Ae (B1 rfl (BQ (Bc nX (B6 nX (Ck (Ae (Eu (u (fun h=>oO)))))))))
 have q1:(i:Int)<(R.length:Int):=oO;have B:Aj [(ad b 1,sq z R f)] W:= .cons k .nil;by_cases a8:i<60;rotate_left
 .have q3:¬(i:Int)<(60:Int):=oO;refine BA [(2,.c 0),(4,.T),(7,.F)] [1,2,3,6,7,16] [(16,bF)] (EP (EE q1) (Er q3)) B<|Ae (B1 rfl (BQ (Bc nX (B6 nX (Ck (Ae (Eu (u (fun h=>oO)))))))))
 have q3:(i:Int)<(60:Int):=oO;refine BA [(2,.c 0),(4,.T),(7,.T)] [1,2,3,6,7,16] [(16,bT)] (EP (EE q1) (EE q3)) B<|Ae (Bg rfl (AZ (Ae (Ad (Bd (Ad ?_))))));have⟨go,p,a6,P,a7,O⟩:=(r.below a).some_ oO;injection P with Q _ J;subst J;obtain⟨l,hl⟩:∃v,R[i]?=some v:=⟨_,Ab H⟩;have⟨U,hU,q⟩:=M i l hl;obtain⟨Z,D,rfl⟩:=q.form;have ov:W.cell? ⟨go,Du p i,none⟩=some (sq Z l D):=by rw[DG];exact O i _ hU
 rw[Q] at k;by_cases t:(30:Int)<(l.length:Int)
 .have Y:Aj [(ad b 1,.slice (some (ad go p)) R.length f),(⟨go,Du p i,none⟩,sq Z l D)] W:= .cons k (.cons ov .nil);refine BA [(1,.c 0),(4,.c 1),(6,.T)] [1,2,3,6,7,25] [(25,bT)] (EP (oO:oX i R.length) (EE t)) Y<|Ae (Bg rfl (Ad<|B8 [] [6] []<|Ae (Br (BL (Bc nR (B6 nR (BL (Bc nR (Bu rfl (v:=bF) rfl ⟨false,rfl,a,fun h=>by cases h⟩)))))))))
 .have Y:Aj [(ad b 1,.slice (some (ad go p)) R.length f),(⟨go,Du p i,none⟩,sq Z l D)] W:= .cons k (.cons ov .nil);refine BA [(1,.c 0),(4,.c 1),(6,.F)] [1,2,3,6,7,25] [(25,bF)] (EP (oO:oX i R.length) (Er t)) Y<|Ae (B1 rfl (AZ (BN (Ae<|Be [(1,.e (N (i+1)))] [1,2,3,6,7] [(7,N (i+1))] (Bo (vJ (Ec q2 rfl))) ?_))));exact BV (BF (m:=60-(i+1)) oO ⟨i+1,rfl,rfl,fun y g=>by
    rw[CK,hl] at g;rcases B0.1 g with g|g
    .exact G y g
    .simp at g;rw[g];omega,oO,rfl⟩)
def iE (L:Sts) (o:Oper):Option (Int×Int):=
 match o.op with
 | .call ⟨.builtin .max,args,tys⟩=>match args.toList,tys.toList with
  |[x,y],[3,3]=>match ev L x,ev L y with
   |some (.int .i64 u),some (.int .i64 v)=>some (u,v)
   |_,_=>none
  |_,_=>none
 |_=>none
theorem dZ {L:Sts} {o:Oper} {x y:Int} {w:World} (c:iE L o=some (x,y)):(execOp (I6 L) o).run prog w= .ok (.value (I (max x y))) w:=by
 have⟨t,z,i,j,h,guard⟩:=o;unfold iE at c;simp only at c;split at c
 case h_2=>cases c
 rename_i f g;split at c
 case h_2=>cases c
 rename_i a b d e;split at c
 case h_2=>cases c
 rename_i u v l k;injection c with c;injection c with s r;subst s r;have n:f=#[a,b]:=by
  apply Ch;simpa using d
 have m:g=#[3,3]:=by
  apply Ch;simpa using e
 subst n m;have q:I6 L a=I u:=by unfold I6;rw[l];rfl
 have p:I6 L b=I v:=by unfold I6;rw[k];rfl
 simp[execOp,resolve,q,p,invoke,builtin,Ay];rw[run_max_int2];simp only[Am];congr 3;split<;>omega
def lS:Sh:= .seq (.seq (.reg 8) (.cond (.tmp 33) .skip (.exit 2))) (.seq (.block 3 (.seq (.reg 10) (.cond (.tmp 50) (.seq (.reg 11) .ret) .skip))) (.reg 9))
def lT:Sh:= .seq (.seq (.reg 2) (.cond (.tmp 11) .skip (.exit 0))) (.seq (.block 1 (.seq (.reg 4) (.seq (.seq (.reg 5) (.cond (.tmp 30) (.seq (.reg 6) .ret) .skip)) (.seq (.reg 7) (.block 2 (.loop lS)))))) (.reg 3))
def lU:Sh:= .seq (.reg 0) (.seq (.seq (.reg 1) (.block 0 (.loop lT))) (.seq (.reg 12) .ret))
theorem iF:f6.body=some (lU.code f6):=oK
def LL (l:List Int) (n:Int):Prop:=(∀y∈l,1<=n/\Bud.Lit n.toNat y)/\(l.map B7).Nodup
def iG (l:List Int) (n:Int) (w:World) (c:Ending) (a:World):Prop:=∃b:Bool,c= .returned (.bool b)/\Bl w a/\(b=true->LL l n)
theorem db {l:List Int} {n:Int} {V:Value} {w:World} (hn:n<=10) (U:Dj w V 1 l.length (l.map I)) (hl:l.length<=100) (S:∀y∈l,-9223372036854775808<=y/\y<9223372036854775808):Cg 6 #[V,I n] w (iG l n w):=by
 obtain⟨AX,t,rfl⟩:=U.form;refine CN iF<|Ad<|B8 [] [0,1,4] [(4,bF)]<|Ae (Ad (Ad<|B8 [] [0,1,4,5] [(5,I 0)]<|Ae (Bd<|Ct (fun m L W=>∃i,L=[(0,sq AX l t),(1,I n),(4,bF),(5,N i)]/\Bl w W/\LL (l.take i) n/\i<=l.length/\m=l.length-i) (n:=l.length) ⟨0,rfl,Below.refl _ _,⟨oS,oS⟩,oO,oO⟩ ?_)));rintro m L W ⟨i,rfl,hW,Q,hi,rfl⟩;have q2:i<maxLen:=by unfold maxLen;omega
 refine Ad (Ad ?_);by_cases Y:i<l.length;rotate_left
 .have q1:¬(i:Int)<(l.length:Int):=oO;refine Be [(3,.F)] [0,1,4,5,11] [(11,bF)] (Bo (Er q1)) ?_;obtain rfl:l.length=i:=oO;rw[IB] at Q;refine Ae (B1 rfl (BQ (Bc nX (B6 nX (Ck (Ae (Ad<|B8 [] [4] [(4,bT)]<|Ae (Br (Bu rfl (v:=bT) rfl ⟨true,rfl,hW,fun _=>Q⟩)))))))))
 have q1:(i:Int)<(l.length:Int):=oO;refine Be [(3,.T)] [0,1,4,5,11] [(11,bT)] (Bo (EE q1))<|Ae (Bg rfl (AZ (Ae (Ad (Bd (Ad ?_))))));have⟨o,f,k',a1,a9,a0⟩:=(U.below hW).some_ oO;injection a1 with hA a7 hk1;subst hk1;obtain⟨y,P⟩:∃v,l[i]?=some v:=⟨_,Ab Y⟩;have ov:W.cell? ⟨o,Du f i,none⟩=some (I y):=by rw[DG];exact a0 i _ (by simp[P])
 rw[hA];have a6:=S y (AQ P);generalize s:IntKind.i64.wrap (-(y:Int))=p;have a2:p=-y∨(y=-9223372036854775808/\p<0):=by
  by_cases he:y=-9223372036854775808
  .exact .inr ⟨he,by rw[<-s,he];decide⟩
  .exact .inl (s.symm.trans (Bb _ oO))
 have C1:Aj [(⟨o,Du f i,none⟩,I y)] W.drew:= .cons ov .nil;refine Dr (O:=[0<=(i:Int)/\(i:Int)<(l.length:Int),0<=(i:Int)/\(i:Int)<(l.length:Int),(I (IntKind.i64.wrap (-(y:Int))):Value)=I p,(∀J,CR (some (Aj [(⟨o,Du f i,none⟩,I y)])) W.drew J->(execOp (I6 [(22,I p),(21,I y),(20,vP o (Du f i)),(19,N i),(18,.slice (some (ad o f)) l.length t),(17,I y),(16,vP o (Du f i)),(15,N i),(14,.slice (some (ad o f)) l.length t),(0,.slice (some (ad o f)) l.length t),(1,I n),(4,bF),(5,N i)]) (B5 (Bt f6 4) 9)).run prog J= .ok (.value (I (max y p))) J)]) [] (Gi [(3,.c 0),(7,.c 0),(8,.e (I p)),(9,.r (I (max y p)))] 0 11) [] [0,1,4,5,6] [(0,.slice (some (ad o f)) l.length t),(6,I (max y p))] ⟨oO,oO,(vI s),(fun J _=>dZ oK),trivial⟩ C1<|AK ?_;have d:Bl w W.drew:=hW.drew;generalize W.drew=W1 at d⊢;generalize a8:max y p=v;refine Ae (Ad (Ad ?_));by_cases h1:v<1
 .refine Be [(1,.T)] [0,1,4,5,6,30] [(6,I v),(30,bT)] (Bo (EE h1))<|Ae (Bg rfl (Ad<|B8 [] [4] []<|Ae (Br (Bc nR (BL (Bc nR (B6 nR (BL (Bc nR (Bu rfl (v:=bF) rfl ⟨false,rfl,d,fun h=>by cases h⟩))))))))))
 by_cases h2:n<v
 .refine Be [(1,.F),(5,.T)] [0,1,4,5,6,30] [(6,I v),(30,bT)] (EP (Er h1) (EE h2))<|Ae (Bg rfl (Ad<|B8 [] [4] []<|Ae (Br (Bc nR (BL (Bc nR (B6 nR (BL (Bc nR (Bu rfl (v:=bF) rfl ⟨false,rfl,d,fun h=>by cases h⟩))))))))))
 refine Be [(1,.F),(5,.F)] [0,1,4,5,6,30] [(6,I v),(30,bF)] (EP (Er h1) (Er h2)) ?_;have B:(B7 y:Int)=v/\y≠0:=by unfold B7;omega
 refine Ae (B1 rfl (AZ (Ae (Ad<|B8 [] [0,1,4,5,6,7] [(7,I 0)]<|Ae (Bd<|Ct (fun m L W=>∃k,L=[(0,.slice (some (ad o f)) l.length t),(1,I n),(4,bF),(5,N i),(6,I v),(7,N k)]/\W=W1/\(∀(j:Nat) z,j<k->l[j]?=some z->B7 z≠B7 y)/\k<=i/\m=i-k) (n:=i) ⟨0,rfl,rfl,fun j z u=>oO,oO,oO⟩ ?_)))));rintro m L W2 ⟨k,rfl,rfl,C,hk,rfl⟩;have q4:k<maxLen:=oO;refine Ad (Ad ?_);by_cases hk2:k<i;rotate_left
 .have q3:¬(k:Int)<(i:Int):=oO;refine Be [(2,.F)] [0,1,4,5,6,7,33] [(33,bF)] (Bo (Er q3)) ?_;obtain rfl:i=k:=oO;refine Ae (B1 rfl (BQ (Bc nX (B6 nX (Ck (BN (Ae<|Be [(1,.e (N (i+1)))] [0,1,4,5] [(5,N (i+1))] (Bo (vJ (Ec q2 rfl)))<|BV (BF (m:=l.length-(i+1)) oO ⟨i+1,rfl,d,⟨fun z g=>?_,?_⟩,oO,rfl⟩))))))))
  .rw[CK,P] at g;rcases B0.1 g with g|g
   .exact Q.1 z g
   .simp at g;rw[g];exact⟨oO,B.2,oO⟩
  .rw[CK,P,Db,CB];refine⟨Q.2,oS,fun a ha b hb=>?_⟩;obtain⟨z,g,rfl⟩:=BB.1 ha;simp at hb;have⟨j,u⟩:=Bw.1 g;rw[Ce] at u;split at u
   .rename_i Z;rw[hb];exact C j z Z u
   .cases u
 have q3:(k:Int)<(i:Int):=oO;refine Be [(2,.T)] [0,1,4,5,6,7,33] [(33,bT)] (Bo (EE q3))<|Ae (Bg rfl (AZ (Ae (Ad (Bd (Ad ?_))))));have⟨b0,a4,a5,G,a3,D⟩:=(U.below d).some_ oO;rw[hA] at G;injection G with H _ _;injection H with H;injection H with H e2 _;subst H e2;obtain⟨z,g⟩:∃v,l[k]?=some v:=⟨_,Ab oO⟩;have oz:W2.cell? ⟨o,Du f k,none⟩=some (I z):=by rw[DG];exact D k _ (by simp[g])
 have q5:IntKind.i64.wrap (-(v:Int))=-v:=Bb _ oO;have C3:Aj [(⟨o,Du f k,none⟩,I z)] W2:= .cons oz .nil;by_cases A:z=v
 .have M:((z:Int)==(v:Int))=true:=by simp[A]
  refine BA [(3,.c 0),(5,.T)] [0,1,4,5,6,7,50] [(50,bT)] (EP (oO:oX k l.length) (vB M)) C3<|Ae (Bg rfl (Ad<|B8 [] [4] []<|Ae (Br (BL (Bc nR (B6 nR (BL (BL (Bc nR (B6 nR (BL (Bc nR (Bu rfl (v:=bF) rfl ⟨false,rfl,d,fun h=>by cases h⟩)))))))))))))
 have M:((z:Int)==(v:Int))=false:=by simp[A]
 by_cases x:z=-v
 .have R:((z:Int)==(-v:Int))=true:=by simp[x]
  refine BA [(3,.c 0),(5,.F),(10,.c 0),(12,.e (I (-v))),(13,.T)] [0,1,4,5,6,7,50] [(50,bT)] (fE (oO:oX k l.length) (vB M) (oO:oX k l.length) (vJ q5) (vB R)) C3<|Ae (Bg rfl (Ad<|B8 [] [4] []<|Ae (Br (BL (Bc nR (B6 nR (BL (BL (Bc nR (B6 nR (BL (Bc nR (Bu rfl (v:=bF) rfl ⟨false,rfl,d,fun h=>by cases h⟩)))))))))))))
 have R:((z:Int)==(-v:Int))=false:=by simp[x]
 refine BA [(3,.c 0),(5,.F),(10,.c 0),(12,.e (I (-v))),(13,.F)] [0,1,4,5,6,7,50] [(50,bF)] (fE (oO:oX k l.length) (vB M) (oO:oX k l.length) (vJ q5) (vB R)) C3<|Ae (B1 rfl (AZ (BN (Ae<|Be [(1,.e (N (k+1)))] [0,1,4,5,6,7] [(7,N (k+1))] (Bo (vJ (Ec q4 rfl))) ?_))));exact BV (BF (m:=i-(k+1)) oO ⟨k+1,rfl,rfl,fun j z' u q=>by
  by_cases e:j<k
  .exact C j z' e q
  .obtain rfl:j=k:=oO;rw[g] at q;obtain rfl:=Ah q;intro ho;have:(B7 z:Int)=v:=by rw[ho];exact B.1
   unfold B7 at this;omega,oO,rfl⟩)


open Go.Lib

def Pk (n:Nat) (G:List (List Int)):Sv:={Fq n with G:=G}
theorem Qn (m:Nat) (x:Int):Ey (List.replicate m 0) x=0:=by
 unfold Ey;rw[D9];split<;>rfl
theorem aM (n:Nat):lE (Fq n).X (Fq n).O (Fq n).J:=by
 refine⟨Qn _ _,?_,(oD:(1:Int)≠0),(oD:Je 1=false),fun i u v b a=>?_⟩
 .rw[List.any_eq_false];intro y d;have:=List.eq_of_mem_replicate d;rw[this];decide
 .have b:(List.range' 1 n)[i]?=some u:=b;have a:(List.range' 1 n)[i+1]?=some v:=a;have⟨h,f⟩:=Aa.1 b;have⟨g,e⟩:=Aa.1 a;simp at f e;have c:(u:Int)<v:=oO;show dL (List.replicate (n+1) 0) u v<0;unfold dL;rw[Qn,Qn];unfold RS compareInt;simp[RS,c]
theorem Nc {n:Nat} {G:List (List Int)} (b:∀l∈G,Nk n [l]) (d:G.length<=65536):okS (Pk n G) (G.map fun l=>((1:Int),l)):=by
 refine⟨aM n,by simp[Pk,Fq],⟨by show(0:Int)<=(n:Int);omega,fun l a=>(b l a).2.1 l oS,d⟩,rfl,fun q c=>?_⟩;obtain⟨l,a,rfl⟩:=BB.1 c;exact⟨oS,oS,b l a⟩




def iR:Sh:= .seq (.seq (.reg 3) (.cond (.tmp 29) .skip (.exit 0))) (.seq (.block 1 (.reg 5)) (.reg 4))
def as0:Sh:= .seq (.reg 0) (.seq (.reg 1) (.seq (.seq (.reg 2) (.block 0 (.loop iR))) (.seq (.seq (.reg 6) (.cond (.tmp 43) (.seq (.reg 7) .ret) .skip)) (.seq (.reg 8) (.seq (.reg 9) .ret)))))
theorem iS:f7.body=some (as0.code f7):=oK
def RA (l:List Value):Prop:=l.length=8/\l.all (·.oneCell')=true
def Io (n:Int) (R:List (List Int)):Prop:=0<=n/\∀l∈R,Nk n [l]
def gu (n:Int) (R:List (List Int)) (m:World) (o i:Nat) (e:Int) (W:World):Prop:=
 ∃k j h f d c b a,Bl m W/\Ba m.heap.size W (vS o 1 1) (35,8,1,[k,j,h,f,d,c,b,a])/\RA [k,j,h,f,d,c,b,a]/\((e=0/\0<=n/\FE (fun g=>g≠o) W (.agg #[k,j,h,f,d,c,b,a]) (Pk n.toNat (R.take i)) ((R.take i).map fun l=>((1:Int),l))/\∀l∈R.take i,Nk n [l])∨(e≠0/\¬Io n R))
theorem aW {n:Int} {R:List (List Int)} {AG:Option Addr} {x j b6 b7 d:Nat} {VX:Value} {bu e0:Int} {w u W0:World} {Q:EO} [BZ Q] (hn:n<=10) (hR:Hf w (sq AG R x) R) (e1:R.length<=60) (a9:∀l∈R,l.length<=30) (hb:Bl w u) (p3:Ba w.heap.size u (vS j 1 1) (24,2,1,[I n,sq AG R x])) (h9:u.heap.size<=d) (h0:gu n R u d 0 e0 W0)
 (hQ:∀W i e,gu n R u d i e W->(e=0->i=R.length)->HN f7 (fun a w=>Q .normal a w) [(1,VX),(2,I bu),qv 3 j,qv 6 b6,qv 7 b7,(8,bF),qv 9 d,(10,I e)] W):
 HW f7 (.seq (.reg 2) (.block 0 (.loop iR))) Q [(1,VX),(2,I bu),qv 3 j,qv 6 b6,qv 7 b7,(8,bF),qv 9 d,(10,I e0)] W0:=by
 have⟨c7,b8,b5⟩:=hR;refine Ad<|B8 [] [1,2,3,6,7,8,9,10,11] [(1,VX),(2,I bu),qv 3 j,qv 6 b6,qv 7 b7,(8,bF),qv 9 d,(10,I e0),(11,I 0)]<|Ae (Bd<|Ct (fun m L W=>∃i e,L=[(1,VX),(2,I bu),qv 3 j,qv 6 b6,qv 7 b7,(8,bF),qv 9 d,(10,I e),(11,N i)]/\gu n R u d i e W/\i<=R.length/\m=R.length-i) (n:=R.length) ⟨0,e0,rfl,h0,oO,oO⟩ ?_);rintro m L W ⟨i,e,rfl,hJ,hi,rfl⟩;have q2:i<maxLen:=by unfold maxLen;omega
 refine Ad (Ad ?_);have⟨M,J,H,D,C,B,A,z,hW,p9,ho,hc⟩:=hJ;have hJ:gu n R u d i e W:=⟨M,J,H,D,C,B,A,z,hW,p9,ho,hc⟩;have o1:W.cell? (ad j 1)=some (sq AG R x):=BE (A9 p3 hW) rfl;have C1:Aj [(ad j 1,sq AG R x)] W:= .cons o1 .nil;by_cases b1:i<R.length;rotate_left
 .have q1:¬(i:Int)<(R.length:Int):=oO;refine BA [(2,.c 0),(4,.F)] [1,2,3,6,7,8,9,10,11,29] [(29,bF)] (Bo (Er q1)) C1<|Ae (B1 rfl (BQ (Bc nX (B6 nX (Ck (BV (hQ W i e hJ (fun _=>oO))))))))
 have q1:(i:Int)<(R.length:Int):=oO;by_cases he:e=0;rotate_left
 .have q3:((e:Int)==(0:Int))=false:=by simp[he]
  refine BA [(2,.c 0),(4,.T),(7,.F)] [1,2,3,6,7,8,9,10,11,29] [(29,bF)] (EP (EE q1) (vB q3)) C1<|Ae (B1 rfl (BQ (Bc nX (B6 nX (Ck (BV (hQ W i e hJ (fun h=>absurd h he))))))))
 have q3:((e:Int)==(0:Int))=true:=by simp[he]
 refine BA [(2,.c 0),(4,.T),(7,.T)] [1,2,3,6,7,8,9,10,11,29] [(29,bT)] (EP (EE q1) (vB q3)) C1<|Ae (Bg rfl (AZ (Ae (Ad (Bd ?_)))));have⟨_,hn0,hs,Z⟩:=hc.resolve_right (fun h=>h.1 he);obtain⟨n,rfl⟩:∃k:Nat,n=(k:Int):=⟨n.toNat,oO⟩;have⟨go,q,c8,c4,c9,c0⟩:=(b8.below (Aw hb hW)).some_ oO;injection c4 with c5 _ b2;subst b2;obtain⟨l,hl⟩:∃v,R[i]?=some v:=⟨_,Ab b1⟩;have a4:l∈R:=AQ hl;have⟨U,hU,Y⟩:=b5 i l hl;obtain⟨AU,S,rfl⟩:=Y.form;have ov:W.cell? ⟨go,Du q i,none⟩=some (sq AU l S):=by rw[DG];exact c0 i _ hU
 rw[c5] at o1;have e2:d<W.heap.size:=(Ax p9 d rfl).2;have s:=Da W 1;have rg:=Bp (A9 p9 s) 0 [M,J,H,D,C,B,A,z] rfl;have b4:(Pk n (R.take i)).G.length<=100:=by show(R.take i).length<=100;rw[Ca];omega
 have ac:=XK (hs.step (F8.below s)) (fun b hb=>by have h1:W.drew.heap.size=W.heap.size:=rfl;have:W.heap.size<=b:=hb;show b≠d;omega) (Nc Z (by rw[Ca];omega)) (Y.below (Aw (Aw hb hW) s)) (by have:=a9 l a4;unfold lim;omega) b4 (by rw[CJ,Ca];omega);have C5:Aj [(ad j 1,.slice (some (ad go q)) R.length x),(⟨go,Du q i,none⟩,sq AU l S)] W.drew:= .cons o1 (.cons ov .nil);refine VQ [10] (fun W9=>W9.rangeAt d 0 [M,J,H,D,C,B,A,z]/\Aj [(ad j 1,.slice (some (ad go q)) R.length x),(⟨go,Du q i,none⟩,sq AU l S)] W9) [.qs [(0,.r (.agg #[M,J,H,D,C,B,A,z])),(1,.p),(2,.c 0),(3,.p),(4,.p),(5,.c 1)],.one 6,.qs [(7,.p),(8,.p)],.ps [(9,.p)],.one 10,.ps [(11,.p)]]<|FW (O:=[(∀w',CR (some (fun W9=>W9.rangeAt d 0 [M,J,H,D,C,B,A,z]/\Aj [(ad j 1,.slice (some (ad go q)) R.length x),(⟨go,Du q i,none⟩,sq AU l S)] W9)) W.drew w'->(execOp (I6 [(1,VX),(2,I bu),qv 3 j,qv 6 b6,qv 7 b7,(8,bF),qv 9 d,(10,I e),(11,N i)]) (B5 (Bt f7 5) 0)).run prog w'= .ok (.value (.agg #[M,J,H,D,C,B,A,z])) w'),0<=(i:Int)/\(i:Int)<(R.length:Int)]) [(ad j 1,.slice (some (ad go q)) R.length x),(⟨go,Du q i,none⟩,sq AU l S)] [1,2,3,6,7,8,9,10,11,33,38] [(33,.agg #[M,J,H,D,C,B,A,z]),(38,sq AU l S)] ⟨(fun w' hS=>G1 (t:=35) (g:=d) (off:=0) oK oK (And.left (show World.rangeAt w' d 0 [M,J,H,D,C,B,A,z]/\Aj [(ad j 1,.slice (some (ad go q)) R.length x),(⟨go,Du q i,none⟩,sq AU l S)] w' from hS))),oO,trivial⟩ ⟨rg,C5⟩ (fun _ h=>h.2)<|BW 39 (ac.mono ?_);rintro en w5 hA;obtain⟨t0,t1,t2,t3,t4,t5,t6,t7,P,rfl,f,a3,c1⟩:∃t0 t1 t2 t3 t4 t5 t6 t7 P,en= .returned (.tuple #[.agg #[t0,t1,t2,t3,t4,t5,t6,t7],I P])/\Bl W.drew w5/\RA [t0,t1,t2,t3,t4,t5,t6,t7]/\((P=0/\Nk n [l]/\FE (fun g=>g≠d) w5 (.agg #[t0,t1,t2,t3,t4,t5,t6,t7]) (RC (Pk n (R.take i)) l) ((R.take i).map (fun l=>((1:Int),l))++[(1,l)]))∨(P≠0/\¬Nk n [l])):=by
  rcases hA with⟨b0,v',rfl,f,a8⟩|⟨a5,rfl,f⟩
  .obtain⟨s1,s2,s3,s4,vG,vL,vA,vO,vF,vR,rfl,a2⟩:=a8;have hv:=a2.sv;have z1:vG.oneCell'=true:=by have⟨_,h,_⟩:=hv.g;exact h.one
   have z2:vL.oneCell'=true:=by have⟨_,h,_⟩:=hv.l;exact h.one
   have z3:=hv.a.one;have z4:=hv.o.one;have z5:=hv.p.one;have z6:vR.oneCell'=true:=by have⟨_,h,_⟩:=hv.r;exact h.one
   exact⟨_,_,_,_,_,_,_,_,0,rfl,f,⟨rfl,by simp only[BS,Cw,z1,z2,z3,z4,z5,z6];rfl⟩,.inl ⟨rfl,b0,s1,s2,s3,s4,_,_,_,_,_,_,rfl,a2⟩⟩
  .exact⟨_,_,_,_,_,_,_,_,140,rfl,f,⟨rfl,rfl⟩,.inr ⟨oD,a5⟩⟩
 have c6:Bl u w5:=Aw (Aw hW s) f;have a0:=A9 (A9 p9 s) f;have a6:Aj [(ad j 1,.slice (some (ad go q)) R.length x),(⟨go,Du q i,none⟩,sq AU l S)] w5:=Aj.below C5 f;have a1:=Bp a0 0 [M,J,H,D,C,B,A,z] rfl;refine⟨_,rfl,.inr (fun _=>⟨a1,a6⟩),FW (O:=[]) [] [1,2,3,6,7,8,9,10,11,32,40] [(32,.tuple #[.agg #[t0,t1,t2,t3,t4,t5,t6,t7],I P]),(40,.agg #[t0,t1,t2,t3,t4,t5,t6,t7])] trivial ⟨a1,a6⟩ (fun _ _=> .nil)<|Fh (O:=[]) [1,2,3,6,7,8,9,10,11,40,41] [(41,I P)] trivial<|De 35 [t0,t1,t2,t3,t4,t5,t6,t7] a3.2 (B4 a0 0 8 (Ai 8))<|Fh (O:=[]) [1,2,3,6,7,8,9,10,11] [(10,I P)] trivial<|AK ?_⟩;have a7:=BM [t0,t1,t2,t3,t4,t5,t6,t7] a0 rfl;have c2:=By (a:=u) (g:=d) h9 [t0,t1,t2,t3,t4,t5,t6,t7] 0 c6;have c3:gu n R u d (i+1) P (w5.setCells d 0 [t0,t1,t2,t3,t4,t5,t6,t7]):=by
  refine⟨t0,t1,t2,t3,t4,t5,t6,t7,c2,a7,a3,?_⟩;rcases c1 with⟨h1,h2,h3⟩|⟨h1,h2⟩
  .refine .inl ⟨h1,hn0,?_,fun y hy=>?_⟩
   .have h4:=h3.step ((F8.refl _ _).set (b:=d) (o:=0) (ys:=[t0,t1,t2,t3,t4,t5,t6,t7]) (fun h=>h rfl));rw[CK,hl,Db];exact h4
   .rw[CK,hl] at hy;rcases B0.1 hy with hy|hy
    .exact Z y hy
    .simp at hy;rw[hy];exact h2
  .exact .inr ⟨h1,fun hh=>h2 (hh.2 l a4)⟩
 refine BN (Ae<|Be [(1,.e (N (i+1)))] [1,2,3,6,7,8,9,10,11] [(11,N (i+1))] (Bo (vJ (Ec q2 rfl)))<|BV (BF (m:=R.length-(i+1)) oO ⟨i+1,P,rfl,c3,oO,rfl⟩))
section
def iW:Sh:= .seq (.reg 8) (.seq (.cond (.tmp 41) .skip (.exit 0)) (.seq (.block 1 (.seq (.reg 9) (.seq (.reg 10) (.cond (.tmp 45) (.reg 11) .skip)))) (.reg 12)))
def ns:Sh:= .seq (.reg 0) (.seq (.seq (.reg 1) (.seq (.reg 2) (.cond (.tmp 16) (.seq (.reg 3) .ret) .skip))) (.seq (.seq (.reg 4) (.cond (.tmp 30) (.seq (.reg 5) .ret) .skip)) (.seq (.reg 6) (.seq (.seq (.reg 7) (.block 0 (.loop iW))) (.seq (.reg 13) .ret)))))
theorem iX:f17.body=some (ns.code f17):=oK
variable{R:List (List Int)}
theorem Qt {n:Int} (h:Nk n R):∀l∈R,Nk n [l]:=fun l b=>⟨h.1,fun y a=>by rw[GQ.1 a];exact h.2.1 l b,by show 1<=65536;decide⟩
theorem TL {n:Int} (b:R.length<=60):Nk n R↔Io n R:=⟨fun h=>⟨h.1,Qt h⟩,fun h=>⟨h.1,fun l a=>(h.2 l a).2.1 l oS,oO⟩⟩
def K8 (Y:Nat->Prop) (B:Nat) (w:World) (k:Nat) (x:Sv) (ps:List (Int×List Int)) (j i:Int):Prop:=
 ∃h g f e d c b a,Ba B w (vS k 1 1) (144,10,1,[h,g,f,e,d,c,b,a,I j,I i])/\RA [h,g,f,e,d,c,b,a]/\FE Y w (.agg #[h,g,f,e,d,c,b,a]) x ps
def gx (Y:Nat->Prop) (n:Nat) (R:List (List Int)) (k:World) (m i:Nat) (W:World):Prop:=
 ∃j h f e d c b a,Bl k W/\Ba k.heap.size W (vS m 1 1) (35,8,1,[j,h,f,e,d,c,b,a])/\RA [j,h,f,e,d,c,b,a]/\FE (fun g=>Y g/\g≠m) W (.agg #[j,h,f,e,d,c,b,a]) (Pk n (R.take i)) ((R.take i).map fun l=>((1:Int),l))
theorem Nf {Y:Nat->Prop} {w:World} {v:Value} {x:Sv} {ps:List (Int×List Int)} (h:FE Y w v x ps):∃n m k j i f e d,v= .agg #[n,m,k,j,i,f,e,d]/\RA [n,m,k,j,i,f,e,d]:=by
  obtain⟨_,_,_,_,B,A,G,C,D,vR,rfl,c⟩:=h;have b:=c.sv;have z:B.oneCell'=true:=by have⟨_,h,_⟩:=b.g;exact h.one
  have y:A.oneCell'=true:=by have⟨_,h,_⟩:=b.l;exact h.one
  have u:=b.a.one;have t:=b.o.one;have s:=b.p.one;have q:vR.oneCell'=true:=by have⟨_,h,_⟩:=b.r;exact h.one
  exact⟨_,_,_,_,_,_,_,_,rfl,rfl,by simp only[BS,Cw,z,y,u,t,s,q];rfl⟩
theorem ah {Y:Nat->Prop} {n:Nat} {s:Option Addr} {p r d:Nat} {bu:Int} {w f D:World} {Q:EO} [BZ Q] (hn:n<=10) (hR:Hf w (sq s R p) R) (b8:R.length<=60) (a1:∀l∈R,l.length<=30) (a2:Nk n R) (C:Bl w f) (p3:Ba w.heap.size f (vS r 1 1) (24,2,1,[N n,sq s R p])) (h9:f.heap.size<=d) (hY:∀b,w.heap.size<=b->Y b) (h0:gx Y n R f d 0 D)
 (hQ:∀W,gx Y n R f d R.length W->HN f17 (fun a w=>Q .normal a w) [(1,I bu),qv 3 r,(6,.pointer none),(7,I 0),qv 9 d,(10,I 0)] W):
 HW f17 (.seq (.reg 7) (.block 0 (.loop iW))) Q [(1,I bu),qv 3 r,(6,.pointer none),(7,I 0),qv 9 d,(10,I 0)] D:=by
 have⟨b5,a7,a6⟩:=hR;have k:=Qt a2;have o0:D.cell? (ad r 1)=some (sq s R p):=by have⟨_,_,_,_,_,_,_,_,q,_⟩:=h0;exact BE (A9 p3 q) rfl
 refine Ad ?_;have C1:Aj [(ad r 1,sq s R p)] D:= .cons o0 .nil;refine Fi [(1,.c 0)] [1,3,6,7,9,10,38,39,40] [(1,I bu),qv 3 r,(6,.pointer none),(7,I 0),qv 9 d,(10,I 0),(38,sq s R p),(39,N R.length),(40,I 0)] C1<|Ae (Bd<|Ct (fun m L W=>∃i,L=[(1,I bu),qv 3 r,(6,.pointer none),(7,I 0),qv 9 d,(10,I 0),(38,sq s R p),(39,N R.length),(40,N i)]/\gx Y n R f d i W/\i<=R.length/\m=R.length-i) (n:=R.length) ⟨0,rfl,h0,oO,oO⟩ ?_);rintro m L W ⟨i,rfl,hJ,hi,rfl⟩;have q2:i<maxLen:=by unfold maxLen;omega
 refine Ad ?_;have⟨u0,u1,Z,S,P,O,M,J,q,p9,ho,hs⟩:=hJ;have hJ:gx Y n R f d i W:=⟨u0,u1,Z,S,P,O,M,J,q,p9,ho,hs⟩;by_cases a3:i<R.length;rotate_left
 .have q1:¬(i:Int)<(R.length:Int):=oO;refine Be [(0,.F)] [1,3,6,7,9,10,38,39,40,41] [(41,bF)] (Bo (Er q1)) ?_;have hi:i=R.length:=oO;subst hi;exact Ae (Ad (B1 rfl (BQ (Bc nX (B6 nX (Ck (BV (hQ W hJ))))))))
 have q1:(i:Int)<(R.length:Int):=oO;refine Be [(0,.T)] [1,3,6,7,9,10,38,39,40,41] [(41,bT)] (Bo (EE q1)) ?_;have⟨go,oo,b6,b2,b7,a8⟩:=(a7.below (Aw C q)).some_ oO;injection b2 with b4 _ a4;subst a4;subst b4;obtain⟨l,hl⟩:∃v,R[i]?=some v:=⟨_,Ab a3⟩;have z:l∈R:=AQ hl;have⟨U,hU,j⟩:=a6 i l hl;obtain⟨H,B,rfl⟩:=j.form;have ov:W.cell? ⟨go,Du oo i,none⟩=some (sq H l B):=by rw[DG];exact a8 i _ hU
 have c0:d<W.heap.size:=(Ax p9 d rfl).2;have a5:(Pk n (R.take i)).G.length<=100:=by show(R.take i).length<=100;rw[Ca];omega
 have a9:∀y∈R.take i,Nk n [y]:=fun y hy=>k y (Jo hy)
 have sW:=(Aw C q).size;have ac:=XK hs (fun b C=>⟨hY b oO,by show b≠d;omega⟩) (Nc a9 (by rw[Ca];omega)) (j.below (Aw C q)) (by have:=a1 l z;unfold lim;omega) a5 (by rw[CJ,Ca];omega);refine Ae (Ad (Bg rfl (AZ (Ae (Ad (Bd (Ad ?_)))))));have C5:Aj [(⟨go,Du oo i,none⟩,sq H l B)] W:= .cons ov .nil;refine BA [(1,.c 0)] [1,3,6,7,9,10,12,38,39,40] [(12,sq H l B),(38,.slice (some (ad go oo)) R.length p)] (Bo (oO:oX i R.length)) C5<|Ae (Ad<|Be [(1,.T)] [1,3,6,7,9,10,12,38,39,40,45] [(45,bT)] (Bo (rfl:(.bool ((0:Int)==(0:Int)):Value)=bT))<|Ae (Bg rfl<|AY [.one 0,AM 1 1,.one 2,AM 3 3,.one 6,AM 7 1]<|F7 (cs:=[u0,u1,Z,S,P,O,M,J]) 47 35 (Bp p9 0 _ rfl)<|AN [1,3,6,7,9,10,12,38,39,40,47,48] [(47,.agg #[u0,u1,Z,S,P,O,M,J]),(48,sq H l B)]<|BW 49 (ac.mono ?_)));rintro en w5 hA;obtain⟨_,v5,rfl,A,u⟩:=hA.resolve_right (fun h=>h.1 (k l z));obtain⟨t0,t1,t2,t3,t4,t5,t6,t7,rfl,x⟩:=Nf u;have t:=A9 p9 A;refine⟨_,rfl,.inl oK,AN [1,3,6,7,9,10,12,38,39,40,50,51] [(50,.agg #[t0,t1,t2,t3,t4,t5,t6,t7]),(51,I 0)]<|De 35 [t0,t1,t2,t3,t4,t5,t6,t7] x.2 (B4 t 0 8 (Ai 8))<|AN [1,3,6,7,9,10,12,38,39,40] []<|AK ?_⟩;have a0:=BM [t0,t1,t2,t3,t4,t5,t6,t7] t rfl;have b0:=By (a:=f) (g:=d) h9 [t0,t1,t2,t3,t4,t5,t6,t7] 0 (Aw q A);have b1:gx Y n R f d (i+1) (w5.setCells d 0 [t0,t1,t2,t3,t4,t5,t6,t7]):=by
  refine⟨t0,t1,t2,t3,t4,t5,t6,t7,b0,a0,x,?_⟩;have h4:=u.step ((F8.refl _ _).set (b:=d) (o:=0) (ys:=[t0,t1,t2,t3,t4,t5,t6,t7]) (fun h=>h.2 rfl));rw[CK,hl,Db];exact h4
 refine Ae<|Be [(0,.e (N (i+1)))] [1,3,6,7,9,10,12,38,39,40] [(40,N (i+1))] (Bo (vJ (Ec q2 rfl)))<|BV (BF (m:=R.length-(i+1)) oO ⟨i+1,rfl,b1,oO,rfl⟩)
end




section
abbrev zS:List Value:=[I 0,An,An,An,An,I 0,An,An]
abbrev zA:List Value:=[I 0,An,An,I 0]
abbrev SU (v a:List Value) (e:Int):Value:= .tuple #[.agg v.toArray,.agg a.toArray,I e]
def YB (h:Nat->Prop) (d15 d16:Option Value) (g:Nat):Prop:=h g/\(∀b,d15=some (vP b 0)->g≠b)/\(∀b,d16=some (vP b 0)->g≠b)
def QM (x:Sv) (ps:List (Int×List Int)) (c:List Int) (d:Int) (m C:Nat) (Y:Nat->Prop) (W:World) (v a:List Value) (e:Int):Prop:=
 RA v/\a.length=4/\a.all (·.oneCell')=true/\(okS x ps->e=0)/\(e≠0∨(e=0/\∃i h o l,∃j:List Int,FE Y W (.agg v.toArray) i h/\i.n=x.n/\i.G=x.G/\i.Q.length<=C/\h.length<=ps.length+m/\a=[I d,o,l,N m]/\Ie Y W l 1 j.length (j.map I)/\j.Sublist c))
section
variable{x:Sv} {ps:List (Int×List Int)} {c:List Int} {d left e e':Int} {m C b:Nat} {k Y Y':Nat->Prop} {w f W g:World} {v a v' a':List Value} {d9 d10 d11 d12 d13 d14 d15 d16 d17 d18:Option Value} {u:Value} {en:Ending}
theorem FE.map {v:Value} (h:FE Y W v x ps) (j:∀{V z n i},Ie Y W V z n i->Ie Y' g V z n i):FE Y' g v x ps:=by
 have⟨s,r,q,p,a,b,c,d,e,f,o,l⟩:=h;exact⟨s,r,q,p,a,b,c,d,e,f,o,l.map j⟩
theorem QM.map (h:QM x ps c d m C Y W v a e) (l:∀{V z n j},Ie Y W V z n j->Ie Y' g V z n j):QM x ps c d m C Y' g v a e:=by
 have⟨y,t,s,r,q⟩:=h;refine⟨y,t,s,r,q.imp_right ?_⟩;rintro⟨A,o,i,p,P,Q,O,M,L,J,H,G,D,B⟩;exact⟨A,o,i,p,P,Q,O.map l,M,L,J,H,G,l D,B⟩
theorem QM.of (h:X1 Y x ps c d m C w en W):∃v a e,en= .returned (SU v a e)/\Bl w W/\QM x ps c d m C Y W v a e:=by
 obtain⟨o,v,a,e,rfl,n,z⟩:=h;rcases z with⟨j,rfl,rfl⟩|⟨j,t,i,l,r,L,q,J,H,G,D,rfl,B,p,A⟩
 .exact⟨zS,zA,e,rfl,o,⟨rfl,rfl⟩,rfl,rfl,n,.inl j⟩
 .obtain⟨t0,t1,t2,t3,t4,t5,t6,t7,rfl,y⟩:=Nf q;have s:=p.1.one;exact⟨[t0,t1,t2,t3,t4,t5,t6,t7],[I d,l,r,N m],e,rfl,o,y,rfl,by simp only[BS,Cw,B,s];rfl,n,.inr ⟨j,t,i,l,r,L,q,J,H,G,D,rfl,p,A⟩⟩
structure JC (x:Sv) (ps:List (Int×List Int)) (c:List Int) (d:Int) (m C:Nat) (k:Nat->Prop) (left:Int) (f:World) (v a:List Value) (e:Int) (d9 d10 d11 d12 d13 d14 d15 d16 d17 d18:Option Value) (W:World):Prop where
 bel:Bl f W
 l:∀u,d9=some u->u=I left
 t:∀u,d10=some u->u=SU v a e/\QM x ps c d m C (YB k d15 d16) W v a e
 o:d10=none->d11=none/\d12=none/\d13=none/\d14=none/\d17=none/\d18=none
 e11:∀u,d11=some u->u=SU v a e
 e12:∀u,d12=some u->u= .agg v.toArray
 e13:∀u,d13=some u->u= .agg a.toArray
 e14:∀u,d14=some u->u=I e
 b5:∀u,d15=some u->∃b,u=vP b 0/\Ba f.heap.size W (vS b 1 1) (35,8,1,if d17.isSome=true then v else zS)
 b6:∀u,d16=some u->∃b,u=vP b 0/\Ba f.heap.size W (vS b 1 1) (37,4,1,if d18.isSome=true then a else zA)
 ne:∀b b',d15=some (vP b 0)->d16=some (vP b' 0)->b≠b'
 o15:d15=none->d17=none
 o16:d16=none->d18=none
def oW (x:Sv) (ps:List (Int×List Int)) (c:List Int) (d:Int) (m C:Nat) (k:Nat->Prop) (left:Int) (f:World) (D:Dn) (W:World):Prop:=∃v a e,JC x ps c d m C k left f v a e (D 9) (D 10) (D 11) (D 12) (D 13) (D 14) (D 15) (D 16) (D 17) (D 18) W
def lI (k:Nat) (u:List Value) (i h:Int) (W:World):Prop:=W.rangeAt k 0 u/\W.rangeAt k 8 [I i,I h]
theorem JC.below (h:JC x ps c d m C k left f v a e d9 d10 d11 d12 d13 d14 d15 d16 d17 d18 W) (j:Bl W g):JC x ps c d m C k left f v a e d9 d10 d11 d12 d13 d14 d15 d16 d17 d18 g:=
 {h with bel:=Aw h.bel j,t:=fun u i=>⟨(h.t u i).1,(h.t u i).2.map fun r=>r.step (F8.below j)⟩,b5:=fun u i=>by have⟨b,e,p⟩:=h.b5 u i;exact⟨b,e,A9 p j⟩,b6:=fun u i=>by have⟨b,e,p⟩:=h.b6 u i;exact⟨b,e,A9 p j⟩}
theorem JC.p9 (h:JC x ps c d m C k left f v a e d9 d10 d11 d12 d13 d14 d15 d16 d17 d18 W):JC x ps c d m C k left f v a e (some (I left)) d10 d11 d12 d13 d14 d15 d16 d17 d18 W:=
 {h with l:=fun u i=>(Ah i).symm}
theorem JC.p10 (h:JC x ps c d m C k left f v a e d9 none d11 d12 d13 d14 d15 d16 d17 d18 W) (l:Bl W g) (j:QM x ps c d m C (YB k d15 d16) g v' a' e'):JC x ps c d m C k left f v' a' e' d9 (some (SU v' a' e')) d11 d12 d13 d14 d15 d16 d17 d18 g:=by
 obtain⟨rfl,rfl,rfl,rfl,rfl,rfl⟩:=h.o rfl;have h:=h.below l;exact{h with t:=fun u i=>⟨(Ah i).symm,j⟩,o:=(fun i=>by cases i),e11:=(fun u i=>by cases i),e12:=(fun u i=>by cases i),e13:=(fun u i=>by cases i),e14:=(fun u i=>by cases i),b5:=h.b5,b6:=h.b6}
theorem JC.got (h:JC x ps c d m C k left f v a e d9 d10 d11 d12 d13 d14 d15 d16 d17 d18 W) (i:d10.isSome=true):d10=some (SU v a e):=by
 have⟨u,j⟩:=Bq.1 i;rw[j,(h.t u j).1]
theorem JC.got11 (h:JC x ps c d m C k left f v a e d9 d10 d11 d12 d13 d14 d15 d16 d17 d18 W) (j:d11.isSome=true):d11=some (SU v a e)/\d10=some (SU v a e):=by
 have⟨u,i⟩:=Bq.1 j;refine⟨by rw[i,h.e11 u i],h.got ?_⟩
 cases l:d10 with
 |none=>rw[(h.o l).1] at i;cases i
 |some _=>rfl
theorem JC.p11 (h:JC x ps c d m C k left f v a e d9 d10 d11 d12 d13 d14 d15 d16 d17 d18 W) (j:d10=some u):JC x ps c d m C k left f v a e d9 d10 (some (SU v a e)) d12 d13 d14 d15 d16 d17 d18 W:=
 {h with o:=(fun i=>by rw[j] at i;cases i),e11:=fun u i=>(Ah i).symm}
theorem JC.p12 (h:JC x ps c d m C k left f v a e d9 d10 d11 d12 d13 d14 d15 d16 d17 d18 W) (j:d10=some u):JC x ps c d m C k left f v a e d9 d10 d11 (some (.agg v.toArray)) d13 d14 d15 d16 d17 d18 W:=
 {h with o:=(fun i=>by rw[j] at i;cases i),e12:=fun u i=>(Ah i).symm}
theorem JC.p13 (h:JC x ps c d m C k left f v a e d9 d10 d11 d12 d13 d14 d15 d16 d17 d18 W) (j:d10=some u):JC x ps c d m C k left f v a e d9 d10 d11 d12 (some (.agg a.toArray)) d14 d15 d16 d17 d18 W:=
 {h with o:=(fun i=>by rw[j] at i;cases i),e13:=fun u i=>(Ah i).symm}
theorem JC.p14 (h:JC x ps c d m C k left f v a e d9 d10 d11 d12 d13 d14 d15 d16 d17 d18 W) (j:d10=some u):JC x ps c d m C k left f v a e d9 d10 d11 d12 d13 (some (I e)) d15 d16 d17 d18 W:=
 {h with o:=(fun i=>by rw[j] at i;cases i),e14:=fun u i=>(Ah i).symm}
theorem G8 {b i:Nat} (h:(some (vP b 0):Option Value)=some (vP i 0)):b=i:=by
 injection h with h;injection h with h;injection h with h;injection h with h _ _
theorem JC.p15 (h:JC x ps c d m C k left f v a e d9 d10 d11 d12 d13 d14 none d16 d17 d18 W):JC x ps c d m C k left f v a e d9 d10 d11 d12 d13 d14 (some (vP W.heap.size 0)) d16 d17 d18 (W.alloc (.cells zS.toArray 35)):=by
 obtain rfl:=h.o15 rfl;have j:Bl W (W.alloc (.cells zS.toArray 35)):=(Below.refl _ _).alloc (Ai _) _;have s:=h.below j;refine{s with t:=fun u i=>⟨(h.t u i).1,(h.t u i).2.map fun r=>(r.low.imp fun g l=>?_).step (F8.below j)⟩,b5:=fun u i=>⟨_,(Ah i).symm,CQ (Fr W 35 zS) h.bel.size⟩,ne:=fun b A q p=>?_,o15:=(fun i=>by cases i)}
 .exact⟨l.1.1,fun b j=>by have:=G8 j;have:=l.2;omega,l.1.2.2⟩
 .have⟨y,n,o⟩:=h.b6 _ p;have z:=G8 q;have n:=G8 (congrArg some n);have:=(Ax o y rfl).2;omega
theorem JC.p16 (h:JC x ps c d m C k left f v a e d9 d10 d11 d12 d13 d14 d15 none d17 d18 W):JC x ps c d m C k left f v a e d9 d10 d11 d12 d13 d14 d15 (some (vP W.heap.size 0)) d17 d18 (W.alloc (.cells zA.toArray 37)):=by
 obtain rfl:=h.o16 rfl;have j:Bl W (W.alloc (.cells zA.toArray 37)):=(Below.refl _ _).alloc (Ai _) _;have s:=h.below j;refine{s with t:=fun u i=>⟨(h.t u i).1,(h.t u i).2.map fun r=>(r.low.imp fun g l=>?_).step (F8.below j)⟩,b6:=fun u i=>⟨_,(Ah i).symm,CQ (Fr W 37 zA) h.bel.size⟩,ne:=fun b A q p=>?_,o16:=(fun i=>by cases i)}
 .exact⟨l.1.1,l.1.2.1,fun b j=>by have:=G8 j;have:=l.2;omega⟩
 .have⟨y,n,o⟩:=h.b5 _ q;have z:=G8 p;have n:=G8 (congrArg some n);have:=(Ax o y rfl).2;omega
theorem mn {v:List Value} (h:v.length=8):EQ zS 0 v=v:=by
 match v,h with
 |[_,_,_,_,_,_,_,_],_=>rfl
theorem mq {v:List Value} (h:v.length=4):EQ zA 0 v=v:=by
 match v,h with
 |[_,_,_,_],_=>rfl
theorem JC.p17 (h:JC x ps c d m C k left f v a e d9 d10 d11 d12 d13 d14 (some (vP b 0)) d16 none d18 W) (j:d10=some u) (z:Value):JC x ps c d m C k left f v a e d9 d10 d11 d12 d13 d14 (some (vP b 0)) d16 (some z) d18 (W.setCells b 0 v):=by
 have⟨B,A,p⟩:=h.b5 _ rfl;obtain rfl:=G8 (congrArg some A);have y:v.length=8:=(h.t u j).2.1.1;have l:=Ez v 0 p;refine{h with bel:=By (a:=f) (Ax p b rfl).1 v 0 h.bel,t:=fun u i=>⟨(h.t u i).1,(h.t u i).2.map fun r=>r.step ((F8.refl _ _).set fun n=>n.2.1 b rfl rfl)⟩,o:=(fun i=>by rw[j] at i;cases i),b5:=fun u i=>⟨b,(Ah i).symm,?_⟩,b6:=fun u i=>?_,o15:=(fun i=>by cases i)}
 .rw[if_neg oD,mn y] at l;exact l
 .have⟨s,q,l⟩:=h.b6 u i;exact⟨s,q,BD l (fun n=>h.ne b s rfl (by rw[i,q]) n.symm)⟩
theorem JC.p18 (h:JC x ps c d m C k left f v a e d9 d10 d11 d12 d13 d14 d15 (some (vP b 0)) d17 none W) (j:d10=some u) (z:Value):JC x ps c d m C k left f v a e d9 d10 d11 d12 d13 d14 d15 (some (vP b 0)) d17 (some z) (W.setCells b 0 a):=by
 have⟨B,A,p⟩:=h.b6 _ rfl;obtain rfl:=G8 (congrArg some A);have y:a.length=4:=(h.t u j).2.2.1;have l:=Ez a 0 p;refine{h with bel:=By (a:=f) (Ax p b rfl).1 a 0 h.bel,t:=fun u i=>⟨(h.t u i).1,(h.t u i).2.map fun r=>r.step ((F8.refl _ _).set fun n=>n.2.2 b rfl rfl)⟩,o:=(fun i=>by rw[j] at i;cases i),b6:=fun u i=>⟨b,(Ah i).symm,?_⟩,b5:=fun u i=>?_,o16:=(fun i=>by cases i)}
 .have⟨s,q,l⟩:=h.b5 u i;exact⟨s,q,BD l (fun n=>h.ne s b (by rw[i,q]) rfl n)⟩
 .rw[if_neg oD,mq y] at l;exact l
end
end
