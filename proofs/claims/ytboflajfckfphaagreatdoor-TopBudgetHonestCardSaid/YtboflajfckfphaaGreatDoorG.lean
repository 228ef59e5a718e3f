/- A part of TopBudgetHonest. -/
import Derived.Test.YtboflajfckfphaaGreatDoorF
set_option linter.all false
namespace Go.Proofs.YtboflajfckfphaaGreatDoor
open Go.RowKit Bud Go Go.Proofs.Tryz
section
set_option maxHeartbeats 4000000 in
set_option maxRecDepth 100000 in
theorem RZ (A:Option Addr) (n c:Nat) (a:n<=c) (w:World):Cg 42 #[.slice A n c] w fun e b=>e= .returned (.slice A n n)/\w=b:=by
 go_enter func42,ntmps42;go_wp2;go_ret;exact⟨rfl,rfl⟩
set_option maxHeartbeats 4000000 in
set_option maxRecDepth 100000 in
theorem WJ (A:Option Addr) (n c:Nat) (a:n<=c) (w:World):Cg 41 #[.slice A n c] w fun e b=>e= .returned (.slice A n n)/\w=b:=by
 go_enter func41,ntmps41;go_wp2;go_ret;exact⟨rfl,rfl⟩
set_option maxRecDepth 1000000
abbrev Vk (w:World) (V:Value) (l:List Int):Prop:=Dj w V 1 l.length (l.map I)
def He (w:World) (V:Value) (L:List (List Int)):Prop:=∃a,Dj w V 1 L.length a/\∀(i:Nat) l,L[i]?=some l->∃U,a[i]?=some U/\Vk w U l
def Hf (w:World) (V:Value) (L:List (List Int)):Prop:=∃a,Dj w V 1 L.length a/\∀(i:Nat) l,L[i]?=some l->∃U,a[i]?=some U/\aH w U 1 l.length (l.map I)
theorem He.w {w:World} {V:Value} {L:List (List Int)} (h:He w V L):Hf w V L:=by
 have⟨a,k,g⟩:=h;exact⟨a,k,fun i l c=>by have⟨U,e,r⟩:=g i l c;exact⟨U,e,r.w⟩⟩
theorem Hf.below {w b:World} {V:Value} {L:List (List Int)} (h:Hf w V L) (c:Bl w b):Hf b V L:=by
 have⟨a,m,k⟩:=h;exact⟨a,m.below c,fun i l g=>by have⟨U,e,r⟩:=k i l g;exact⟨U,e,r.below c⟩⟩
def jD (w:World) (V:Value) (L:List (List Int×Int×Int)):Prop:=∃c,Dj w V 3 L.length c/\∀(i:Nat) l lv a,L[i]?=some (l,lv,a)->∃U,c[3*i]?=some U/\c[3*i+1]?=some (I lv)/\c[3*i+2]?=some (I a)/\Vk w U l
structure Na (w:World) (x:Sv) (ps:List (Int×List Int)) (d f j e vP vR:Value):Prop where
 g:He w d x.G
 l:jD w f x.Q
 a:Dj w j 1 x.X.length (x.X.map I)
 o:Dj w e 1 x.O.length (x.O.map N)
 p:Dj w vP 1 x.F.length (x.F.map Value.bool)
 r:∃rows,Dj w vR 2 ps.length rows/\Hh (Vk w) rows ps
 cg:∃A c,d= sq A x.G c/\x.G.length<=c
 cr:∃A c,vR= sq A ps c/\ps.length<=c
def svC (x:Sv) (d f j e vP vR:Value):List Value:=[N x.n,d,f,j,e,I x.J,vP,vR]
section
variable{w b:World} {x:Sv} {ps:List (Int×List Int)} {d f j e vP vR:Value}
theorem He.below {V:Value} {L:List (List Int)} (h:He w V L) (c:Bl w b):He b V L:=by
 have⟨a,m,k⟩:=h;exact⟨a,m.below c,fun i l g=>by
  have⟨U,e,r⟩:=k i l g;exact⟨U,e,r.below c⟩⟩
theorem Na.below (h:Na w x ps d f j e vP vR) (k:Bl w b):Na b x ps d f j e vP vR where
 g:=h.g.below k
 l:=by
  have⟨c,n,m⟩:=h.l;exact⟨c,n.below k,fun i l q a s=>by
   have⟨U,v,u,t,r⟩:=m i l q a s;exact⟨U,v,u,t,r.below k⟩⟩
 a:=h.a.below k
 o:=h.o.below k
 p:=h.p.below k
 r:=by
  have⟨c,n,m⟩:=h.r;exact⟨c,n.below k,m.mono fun V l r=>Dj.below r k⟩
 cg:=h.cg
 cr:=h.cr
variable{V:Value}
theorem Dj.one {z n:Nat} {a:List Value} (h:Dj w V z n a):V.oneCell'=true:=by
 obtain⟨A,c,rfl⟩:=h.form;rfl
end
end
set_option maxRecDepth 1000000
def jw:Sh:= .seq (.reg 3) (.seq (.cond (.tmp 58) .skip (.exit 0)) (.seq (.block 1 (.seq (.reg 4) (.reg 5))) (.reg 6)))
def jx:Sh:= .seq (.reg 8) (.seq (.cond (.tmp 84) .skip (.exit 2)) (.seq (.block 3 (.seq (.reg 9) (.reg 10))) (.reg 11)))
def jy:Sh:= .seq (.reg 13) (.seq (.cond (.tmp 97) .skip (.exit 4)) (.seq (.block 5 (.seq (.reg 14) (.seq (.reg 15) (.seq (.reg 16) (.reg 17))))) (.reg 18)))
def st0:Sh:= .seq (.reg 0) (.seq (.reg 1) (.seq (.seq (.reg 2) (.block 0 (.loop jw))) (.seq (.seq (.reg 7) (.block 2 (.loop jx))) (.seq (.seq (.reg 12) (.block 4 (.loop jy))) (.seq (.reg 19) .ret)))))
theorem jz:f44.body=some (st0.code f44):=oK
theorem my:prog.underlying 230=some (.slice 232):=oK
theorem i232:(prog.info? 232).map (fun i=>(i.zero,i.size,i.bytes))=some (some An,1,24):=oK
theorem mz:prog.underlying 231=some (.slice 245):=oK
theorem nA:(prog.info? 245).map (fun i=>(i.zero,i.size,i.bytes))=some (some (.int .i8 0),1,1):=oK
def aI (x:Sv):Nat->Cn
 |6=>(232,1,2*x.n+2,List.replicate (2*x.n+2) An)
 |10=>(245,1,x.n+1,List.replicate (x.n+1) (.int .i8 0))
 |14=>(3,1,x.n+1,List.replicate (x.n+1) (.int .i64 0))
 |18=>(237,1,x.n+1,List.replicate (x.n+1) (.pointer none))
 |22=>(3,1,x.X.length,x.X.map I)
 |29=>(3,1,x.n+1,List.replicate (x.n+1) (.int .i64 0))
 |32=>(4,1,x.F.length,x.F.map Value.bool)
 |_=>(4,1,x.n+1,List.replicate (x.n+1) bF)
structure lJ (x:Sv) (vR:Value) (w1:World) (Dv:Dn) (W:World):Prop where
 b:Bl w1 W
 p:∀m v,m≠35->Dv m=some v->Ba w1.heap.size W v (aI x m)
 a:∀m m' v v' k,m≠m'->m≠35->m'≠35->Dv m=some v->Dv m'=some v'->v.ownBlock=some k->v'.ownBlock≠some k
 r:∀v,Dv 35=some v->v=vR
theorem lJ.step {x:Sv} {vR:Value} {n W l:World} {z:Dn} (h:lJ x vR n z W) {m:Nat} (L:m≠35) (M:z m=none) {v:Value} (t:Ba W.heap.size l v (aI x m)) (f:Bl W l):lJ x vR n (P2 z m v) l:=by
 have u:Bl n l:=⟨f.os.trans h.b.os,f.tape.trans h.b.tape,f.output.trans h.b.output,Bj h.b.size f.size,fun k d=>(f.block k (Bx d h.b.size)).trans (h.b.block k d)⟩;refine⟨u,fun C o y c=>?_,fun s q B A k i G D j g d hk2=>?_,fun o c=>?_⟩
 .by_cases e:C=m
  .subst e;rw[FL] at c;obtain rfl:=Ah c;exact own_base t h.b.size
  .rw[Fk _ _ e] at c;exact own_below (h.p C o y c) f (Ai _)
 .by_cases J:s=m
  .subst J;rw[FL] at j;obtain rfl:=Ah j;rw[Fk _ _ (Ne.symm i)] at g;have:=(Ax t k d).1;have:=(Ax (h.p q A D g) k hk2).2;omega
  .rw[Fk _ _ J] at j;by_cases H:q=m
   .subst H;rw[FL] at g;obtain rfl:=Ah g;have:=(Ax t k hk2).1;have:=(Ax (h.p s B G j) k d).2;omega
   .rw[Fk _ _ H] at g;exact h.a s q B A k i G D j g d hk2
 .rw[Fk _ _ (Ne.symm L)] at c;exact h.r o c
def gL (i h g f d c b a:Value) (e:Nat):Sl
 | .E=>vS e 1 1
 | .W=>i
 | .V=>h
 | .H=>g
 | .Y=>f
 | .X=>d
 | .P=>c
 | .F=>b
 | .U=>a
 |_=>An
def Mt (x:Sv):St:={Cp x with O:=[],P:=List.replicate (x.n+1) 0}
theorem Aw {a b c:World} (h:Bl a b) (k:Bl b c):Bl a c:=⟨k.os.trans h.os,k.tape.trans h.tape,k.output.trans h.output,Bj h.size k.size,fun i d=>(k.block i (Bx d h.size)).trans (h.block i d)⟩
theorem YO {x:Sv} {p:Px} {e:Nat} {A u s q o m l j:Option Addr} {y h g f d c b a B:Nat} {W:World}
 (h6:Ba B W (.slice A (2*x.n+2) y) (aI x 6)) (Z:Ba B W (.slice u (x.n+1) h) (aI x 10)) (S:Ba B W (.slice s (x.n+1) g) (aI x 14)) (R:Ba B W (.slice q (x.n+1) f) (aI x 18)) (M:Ba B W (sq o x.X d) (aI x 22)) (J:Ba B W (.slice m (x.n+1) c) (aI x 29)) (G:Ba B W (sq l x.F b) (aI x 32)) (C:Ba B W (.slice j (x.n+1) a) (aI x 39))
 (he:Ba B W (vS e 1 1) (235,17,1,El p (Mt x) (gL (.slice A (2*x.n+2) y) (.slice u (x.n+1) h) (.slice s (x.n+1) g) (.slice q (x.n+1) f) (sq o x.X d) (.slice m (x.n+1) c) (sq l x.F b) (.slice j (x.n+1) a) e))) (r:Ro):
 Ba B W (gL (.slice A (2*x.n+2) y) (.slice u (x.n+1) h) (.slice s (x.n+1) g) (.slice q (x.n+1) f) (sq o x.X d) (.slice m (x.n+1) c) (sq l x.F b) (.slice j (x.n+1) a) e r) (cont p (Mt x) (gL (.slice A (2*x.n+2) y) (.slice u (x.n+1) h) (.slice s (x.n+1) g) (.slice q (x.n+1) f) (sq o x.X d) (.slice m (x.n+1) c) (sq l x.F b) (.slice j (x.n+1) a) e) r):=by
 have nil:∀t:Nat,∀z:Nat,Ba B W An (t,z,0,[]):=fun t z=>⟨(JS z).symm,.inl ⟨rfl,rfl⟩⟩
 cases r with
 |E=>exact he
 |W=>
  have e1:((List.range (2*x.n+2)).map fun _=>An)=List.replicate (2*x.n+2) An:=by rw[List.map_const',List.length_range]
  simp only[cont,Mt,Cp,E7];show Ba B W _ (232,1,2*x.n+2,(List.range _).map fun _=>An);rw[e1];exact h6
 |V=>simp only[cont,Mt,Cp,E7,Fv];exact Z
 |H=>simp only[cont,Mt,Cp,E7,Fv];exact S
 |Y=>simp only[cont,Mt,Cp,E7,Fv];exact R
 |L=>exact nil _ _
 |D=>exact nil _ _
 |X=>exact M
 |O=>exact nil _ _
 |P=>simp only[cont,Mt,Cp,E7,Fv];exact J
 |F=>exact G
 |Q=>exact nil _ _
 |U=>simp only[cont,Mt,Cp,E7,Fv];exact C
 |row k=>
  simp only[cont]
  cases v:(Mt x).W[k]? with
  |none=>exact nil _ _
  |some r=>
   have:r=[]:=by
    simp only[Mt,Cp,D9] at v;split at v
    .exact(Ah v).symm
    .cases v
   subst this;exact nil _ _
 |cl i=>exact nil _ _
 |lit i=>exact nil _ _
theorem Dj.cap {w:World} {A:Option Addr} {z n c:Nat} {e:List Value} (h:Dj w (.slice A n c) z n e) (d:Nat):Dj w (.slice A n d) z n e:=by
 refine⟨h.1,?_⟩;rcases h.2 with⟨k,a,f⟩|⟨g,o,k,a,i,j⟩
 .injection a with b _ _;subst b f;exact .inl ⟨d,rfl,rfl⟩
 .injection a with b _ _;subst b;exact .inr ⟨g,o,d,rfl,i,j⟩
def OU:Ro->Nat
 | .W=>6
 | .V=>10
 | .H=>14
 | .Y=>18
 | .X=>22
 | .P=>29
 | .F=>32
 | .U=>39
 |_=>0
theorem YP {r t:Ro} (h:OU r=OU t) (a:OU r≠0):r=t:=by
 cases r<;>cases t<;>first|rfl|(simp[OU] at h a)
def fb (vR:Value) (ps:List (Int×List Int)) (v:Value):Prop:=∃A c,vR= sq A ps c/\v= sq A ps ps.length
theorem be {x:Sv} {ps:List (Int×List Int)} {vG vL vA vO vF vR:Value} {w0 w1:World} {A:Nat} {Q:EO} [BZ Q] (hn:x.n<=10) (ha:x.X.length<=lim) (hp:x.F.length<=lim) (hs:Na w0 x ps vG vL vA vO vF vR) (e5:A=w0.heap.size) (b9:w1=w0.alloc (.cells (svC x vG vL vA vO vF vR).toArray 35))
 (hQ:∀W e p S T C,Loc w0.heap.size p (Mt x) noS S w0 W T C []->S .E=vS e 1 1->fb vR ps p.proof->T 8=vS A 1 1->C 8=(35,8,1,svC x vG vL vA vO vF vR)->(∀i,i≠8->T i=An/\C i=F1)->HN f44 (fun a w=>Q .normal a w) [qv 1 A,qv 3 e] W):
 HW f44 (.reg 1) Q [qv 1 A,(2,.pointer none)] w1:=by
 have⟨Ar,cr,e0,e4⟩:=hs.cr;subst e0;have hb:Bl w0 w1:=by rw[b9];exact(Below.refl _ _).alloc (Ai _) _
 have a5:w1.heap[A]?=some (.cells (svC x vG vL vA vO vF (sq Ar ps cr)).toArray 35 (0,0)):=by rw[e5,b9];exact heap_alloc_new w0 _
 have oc:∀j u,(svC x vG vL vA vO vF (sq Ar ps cr))[j]?=some u->w1.cell? (ad A j)=some u:=fun j u hu=>by rw[cell_of_row _ _ _ _ _ _ a5];simpa using hu
 have q2:IntKind.i64.wrap ((2:Int)*(x.n:Int))=((2*x.n:Nat):Int):=by rw[Bb _ oO];omega
 have q3:IntKind.i64.wrap (((2*x.n:Nat):Int)+(2:Int))=((2*x.n+2:Nat):Int):=by rw[Bb _ oO];omega
 have q1:IntKind.i64.wrap ((x.n:Int)+(1:Int))=((x.n+1:Nat):Int):=Ec (by unfold maxLen;omega) rfl;have C0:Aj [(ad A 0,N x.n),(ad A 1,vG),(ad A 2,vL),(ad A 3,vA),(ad A 4,vO),(ad A 5,I x.J),(ad A 6,vF),_] w1.drew:= .cons (oc 0 _ rfl) (.cons (oc 1 _ rfl) (.cons (oc 2 _ rfl) (.cons (oc 3 _ rfl) (.cons (oc 4 _ rfl) (.cons (oc 5 _ rfl) (.cons (oc 6 _ rfl) (.cons (oc 7 _ rfl) .nil)))))));refine UH [40,41] (Aj [_,_,_,_,_,_,_,_]) [.qs [(0,.p),(1,.c 0),(2,.p),(3,.c 0),(4,.e (N (2*x.n))),(5,.e (N (2*x.n+2))),(7,.p),(8,.c 0),(9,.e (N (x.n+1))),(11,.p),(12,.c 0),(13,.e (N (x.n+1))),(15,.p),(16,.c 0),(17,.e (N (x.n+1))),(19,.p),(20,.p),(21,.c 3),(23,.p),(24,.p),(25,.c 5),(26,.p),(27,.c 0),(28,.e (N (x.n+1))),(30,.p),(31,.c 6),(33,.p),(34,.c 7),(36,.p),(37,.c 0),(38,.e (N (x.n+1)))]] [.one 40,.one 41,.ps [(42,.p)]] [(6,some 17),(10,some 21),(14,some 25),(18,some 29),(22,some 33),(29,some 40),(32,some 43),(35,some 46),(39,some 50)] oK oK<|FW _ [1,2,12,16,20,24,28,32,36,39,42,45,49] [qv 1 A,(2,.pointer none),(12,N x.n),(16,N (2*x.n+2)),(20,N (x.n+1)),(24,N (x.n+1)),(28,N (x.n+1)),(32,vA),(36,I x.J),(39,N (x.n+1)),(42,vF),(45,sq Ar ps cr),(49,N (x.n+1))] (fF (vJ q2) (vJ q3) (vJ q1) (vJ q1) (vJ q1) (vJ q1) (vJ q1)) C0 (fun _ h=>h)<|AK (ZX (lJ x (sq Ar ps ps.length) w1) oK ⟨(Below.refl _ _).drew,fun m v _ h=>(by cases h),fun _ _ _ _ _ _ _ _ h=>(by cases h),fun v h=>(by cases h)⟩ ?_ ?_)
 .intro m hm Dv a W hd f z;have a6:=Aw hb f.b;simp only[Az,Dm,or_false] at hm;rcases hm with rfl|rfl|rfl|rfl|rfl|rfl|rfl|rfl|rfl
  .have⟨w2,mr,D,s⟩:=FM W my i232 rfl (n:=2*x.n+2) (by unfold lim;omega) oD;exact Hw oK (Hy z oK mr) (.inr fun B=>Aj.below B s) (f.step oD hd D s)
  .have⟨w2,mr,D,s⟩:=FM W mz nA rfl (n:=x.n+1) (by unfold lim;omega) oD;exact Hw oK (Hy z oK mr) (.inr fun B=>Aj.below B s) (f.step oD hd D s)
  .have⟨w2,mr,D,s⟩:=FM W u25 Ek rfl (n:=x.n+1) (by unfold lim;omega) oD;exact Hw oK (Hy z oK mr) (.inr fun B=>Aj.below B s) (f.step oD hd D s)
  .have⟨w2,mr,D,s⟩:=FM W WC Nj rfl (n:=x.n+1) (by unfold lim;omega) oD;exact Hw oK (Hy z oK mr) (.inr fun B=>Aj.below B s) (f.step oD hd D s)
  .refine JD z oK (g:=22) (args:=#[vA]) oK ((KR (hs.a.below a6) ha).mono ?_);rintro en w2 ⟨V2,rfl,D,s⟩;exact⟨V2,rfl,.inr fun B=>Aj.below B s,f.step oD hd D s⟩
  .have⟨w2,mr,D,s⟩:=FM W u25 Ek rfl (n:=x.n+1) (by unfold lim;omega) oD;exact Hw oK (Hy z oK mr) (.inr fun B=>Aj.below B s) (f.step oD hd D s)
  .refine JD z oK (g:=101) (args:=#[vF]) oK ((iK (hs.p.below a6) hp).mono ?_);rintro en w2 ⟨V2,rfl,D,s⟩;exact⟨V2,rfl,.inr fun B=>Aj.below B s,f.step oD hd D s⟩
  .refine JD z oK oK ((RZ Ar _ cr e4 W).mono ?_);rintro en w2 ⟨rfl,rfl⟩;refine⟨_,rfl,.inr id,⟨f.b,fun m v a8 hv=>f.p m v a8 (by rwa [Fk _ _ a8] at hv),fun m m' v v' k h1 h2 h3 e1 e2=>f.a m m' v v' k h1 h2 h3 (by rwa [Fk _ _ h2] at e1) (by rwa [Fk _ _ h3] at e2),fun v hv=>(Ah hv).symm⟩⟩
  .have⟨w2,mr,D,s⟩:=FM W u32 LQ rfl (n:=x.n+1) (by unfold lim;omega) oD;exact Hw oK (Hy z oK mr) (.inr fun B=>Aj.below B s) (f.step oD hd D s)
 intro Dv a W d f z;have⟨v6,d6⟩:=Bq.1 (d (6,some 17) oS);have⟨c9,d10⟩:=Bq.1 (d (10,some 21) oS);have⟨c8,d14⟩:=Bq.1 (d (14,some 25) oS);have⟨c7,d18⟩:=Bq.1 (d (18,some 29) oS);have⟨c5,d22⟩:=Bq.1 (d (22,some 33) oS);have⟨c4,d29⟩:=Bq.1 (d (29,some 40) oS);have⟨c3,d32⟩:=Bq.1 (d (32,some 43) oS);have⟨c2,d35⟩:=Bq.1 (d (35,some 46) oS);have⟨c1,d39⟩:=Bq.1 (d (39,some 50) oS);obtain rfl:=f.r c2 d35;have has:=((((((((z.1.add (z.2 _ oS 17 _ rfl d6)).add (z.2 _ oS 21 _ rfl d10)).add (z.2 _ oS 25 _ rfl d14)).add (z.2 _ oS 29 _ rfl d18)).add (z.2 _ oS 33 _ rfl d22)).add (z.2 _ oS 40 _ rfl d29)).add (z.2 _ oS 43 _ rfl d32)).add (z.2 _ oS 46 _ rfl d35)).add (z.2 _ oS 50 _ rfl d39);have p6:=f.p 6 v6 oD d6;have p10:=f.p 10 c9 oD d10;have p14:=f.p 14 c8 oD d14;have p18:=f.p 18 c7 oD d18;have b6:=f.p 22 c5 oD d22;have b5:=f.p 29 c4 oD d29;have b4:=f.p 32 c3 oD d32;have b3:=f.p 39 c1 oD d39;obtain⟨A6,c6,rfl⟩:=Cr p6;obtain⟨a4,U,rfl⟩:=Cr p10;obtain⟨a3,R,rfl⟩:=Cr p14;obtain⟨a2,P,rfl⟩:=Cr p18;obtain⟨a1,M,rfl⟩:=Cr b6;obtain⟨a0,L,rfl⟩:=Cr b5;obtain⟨Z,H,rfl⟩:=Cr b4;obtain⟨Y,G,rfl⟩:=Cr b3;refine ZY has<|CH 51 (.agg #[N x.n,.slice A6 (2*x.n+2) c6,.slice a4 (x.n+1) U,.slice a3 (x.n+1) R,.slice a2 (x.n+1) P,An,An,N 0,sq a1 x.X M,I x.J,An,.slice a0 (x.n+1) L,sq Z x.F H,An,sq Ar ps ps.length,bF,.slice Y (x.n+1) G]) W<|CH 52 (vP W.heap.size 0) (W.alloc (.cells #[N x.n,.slice A6 (2*x.n+2) c6,.slice a4 (x.n+1) U,.slice a3 (x.n+1) R,.slice a2 (x.n+1) P,An,An,N 0,sq a1 x.X M,I x.J,An,.slice a0 (x.n+1) L,sq Z x.F H,An,sq Ar ps ps.length,bF,.slice Y (x.n+1) G] 235))<|Fh (O:=[]) [1,2,3] [qv 3 W.heap.size] trivial<|AK ?_;have a6:=Aw hb f.b;have b0:Bl W (W.alloc (.cells #[N x.n,.slice A6 (2*x.n+2) c6,.slice a4 (x.n+1) U,.slice a3 (x.n+1) R,.slice a2 (x.n+1) P,An,An,N 0,sq a1 x.X M,I x.J,An,.slice a0 (x.n+1) L,sq Z x.F H,An,sq Ar ps ps.length,bF,.slice Y (x.n+1) G] 235)):=(Below.refl _ _).alloc (Ai _) _;have b8:w0.heap.size<=w1.heap.size:=hb.size;have up:∀{v:Value} {y:Cn},Ba _ W v y->Ba _ _ v y:=fun h=>own_base (own_below h b0 (Ai _)) b8
 have B:∀r k,((gL (.slice A6 (2*x.n+2) c6) (.slice a4 (x.n+1) U) (.slice a3 (x.n+1) R) (.slice a2 (x.n+1) P) (sq a1 x.X M) (.slice a0 (x.n+1) L) (sq Z x.F H) (.slice Y (x.n+1) G) W.heap.size) r).ownBlock=some k->(r= .E/\k=W.heap.size)∨(OU r≠0/\OU r≠35/\Dv (OU r)=some ((gL (.slice A6 (2*x.n+2) c6) (.slice a4 (x.n+1) U) (.slice a3 (x.n+1) R) (.slice a2 (x.n+1) P) (sq a1 x.X M) (.slice a0 (x.n+1) L) (sq Z x.F H) (.slice Y (x.n+1) G) W.heap.size) r)):=fun r k hr=>by
  cases r<;>first|(exact .inl ⟨rfl,(Ah hr).symm⟩)|(exact .inr ⟨oD,oD,by assumption⟩)|(cases hr;done)
 have a9:∀r,OU r≠0->OU r≠35->Dv (OU r)=some _->∀k,((gL (.slice A6 (2*x.n+2) c6) (.slice a4 (x.n+1) U) (.slice a3 (x.n+1) R) (.slice a2 (x.n+1) P) (sq a1 x.X M) (.slice a0 (x.n+1) L) (sq Z x.F H) (.slice Y (x.n+1) G) W.heap.size) r).ownBlock=some k->w1.heap.size<=k/\k<W.heap.size:=fun r _ a8 hd k hk=>Ax (f.p _ _ a8 hd) k hk
 have c0:A<w1.heap.size:=(Ak.1 a5).1;have b7:∀r k,((gL _ _ _ _ _ _ _ _ W.heap.size) r).ownBlock=some k->w1.heap.size<=k:=fun r k hr=>by
  rcases B r k hr with⟨_,e⟩|⟨e1,e2,e3⟩
  .rw[e];exact f.b.size
  .exact(a9 r e1 e2 e3 k hr).1
 have o:=Aw a6 b0;refine BV (hQ _ W.heap.size ⟨.slice Ar _ _,fun _=>0⟩ _ (CI (fun _=>An) 8 (vS A 1 1)) (CI (fun _=>F1) 8 (35,8,1,svC x vG vL vA vO vF (.slice Ar _ cr))) ⟨⟨YO (up p6) (up p10) (up p14) (up p18) (up b6) (up b5) (up b4) (up b3) ⟨rfl,.inr ⟨W.heap.size,1,_,rfl,a6.size,heap_alloc_new W _,Ai 1,oD,rfl,rfl⟩⟩,fun r t k a7 h1 h2=>?_,o.size⟩,⟨o.os,o.tape,o.output,o.size,fun k hk _=>o.block k hk,fun r k hr=> .inr (Bj b8 (b7 r k hr))⟩,fun k=>?_,fun k l c a7 h1 h2=>?_,fun k c hk r hr=>?_,Hq,fun q hq=>(by cases hq)⟩ rfl ⟨Ar,cr,rfl,rfl⟩ (AB _ _ _) (AB _ _ _) (fun i hi=>⟨Au _ _ hi,Au _ _ hi⟩))
 .rcases B r k h1 with⟨e1,e2⟩|⟨e1,e2,e3⟩<;>rcases B t k h2 with⟨f1,f2⟩|⟨f1,f2,f3⟩
  .exact a7 (e1.trans f1.symm)
  .have:=(a9 t f1 f2 f3 k h2).2;omega
  .have:=(a9 r e1 e2 e3 k h1).2;omega
  .exact f.a _ _ _ _ k (fun e=>a7 (YP e e1)) e2 f2 e3 f3 h1 h2
 .by_cases e:k=8
  .subst e;exact⟨rfl,.inr ⟨A,1,_,rfl,oO,(b0.block A (Bx c0 f.b.size)).trans ((f.b.block A c0).trans a5),Ai 1,oD,rfl,rfl⟩⟩
  .rw[Au _ _ e,Au _ _ e];exact⟨rfl,.inl ⟨rfl,rfl⟩⟩
 .by_cases e:k=8
  .by_cases e2:l=8
   .exact a7 (e.trans e2.symm)
   .rw[Au _ _ e2] at h2;cases h2
  .rw[Au _ _ e] at h1;cases h1
 .by_cases e:k=8
  .rw[e,AB] at hk;have:A=c:=Ah hk;have:=b7 r c hr;omega
  .rw[Au _ _ e] at hk;cases hk
theorem MV:∀(l:List Nat) (v i:Nat) (p:List Int),FI (l++[v]) i p=(FI l i p).set v ((i+l.length:Nat):Int)
 |[],v,i,p=>by simp[FI]
 |u::r,v,i,p=>by
  simp only[DA,FI];rw[MV r v (i+1)];simp only[BU];congr 2;omega
theorem O9:∀(l:List Nat) (i:Nat) (p:List Int),(FI l i p).length=p.length
 |[],_,_=>rfl
 |u::r,i,p=>by simp only[FI];rw[O9 r];simp
def Ft (x:Sv) (i:Nat):St:={Cp x with O:=x.O.take i,P:=FI (x.O.take i) 0 (List.replicate (x.n+1) 0)}
theorem cL {x:Sv} {ps:List (Int×List Int)} {vG vL vA vO vF vR:Value} {k w:World} {G e:Nat} {p:Px} {S:Sl} {T:Nat->Value} {C:Nat->Cn} {Q:EO} [BZ Q] (hx:Jw x) (hs:Na k x ps vG vL vA vO vF vR)
 (h:Loc k.heap.size p (Mt x) noS S k w T C []) (l:S .E=vS e 1 1) (t8:T 8=vS G 1 1) (c8:C 8=(35,8,1,svC x vG vL vA vO vF vR))
 (hQ:∀t w1,Loc k.heap.size p (Cp x) noS t k w1 T C []->t .E=vS e 1 1->HN f44 (fun a w=>Q .normal a w) [qv 1 G,qv 3 e] w1):
 HW f44 (.seq (.reg 2) (.block 0 (.loop jw))) Q [qv 1 G,qv 3 e] w:=by
 have e5:=hx.olen;have c1:=hx.few;have oc:∀{W:World} {s:St} {S:Sl},Loc k.heap.size p s noS S k W T C []->∀j u,(svC x vG vL vA vO vF vR)[j]?=some u->W.cell? (ad G j)=some u:=fun h j u hu=>h.cell 8 t8 (by rw[c8];exact hu)
 have⟨Ao,ko,H⟩:=hs.o.form;refine Ad ?_;have C0:Aj [(ad G 4,.slice Ao x.O.length ko)] w:= .cons (oc h 4 _ (by rw[<-H];rfl)) .nil;refine Fi [(2,.c 0)] [1,3,55,56,57] [qv 1 G,qv 3 e,(55,.slice Ao x.O.length ko),(56,N x.O.length),(57,I 0)] C0<|Ae (Bd ?_);clear C0;have e0:Mt x=Ft x 0:=rfl;refine Ct (fun m L W=>∃i t,L=[qv 1 G,qv 3 e,(55,.slice Ao x.O.length ko),(56,N x.O.length),(57,N i)]/\Loc k.heap.size p (Ft x i) noS t k W T C []/\t .E=vS e 1 1/\i<=x.O.length/\m=x.O.length-i) (n:=x.O.length) ⟨0,S,rfl,h,l,oO,oO⟩ ?_;rintro m L W ⟨i,t,rfl,h,l,hi,rfl⟩;refine Ad ?_;by_cases a6:i<x.O.length
 .have q1:(i:Int)<(x.O.length:Int):=oO;refine Be [(0,.T)] [1,3,55,56,57,58] [(58,bT)] (Bo (EE q1))<|Ae (Ad<|Bg rfl (AZ (Ae (Ad (Bd (Ad ?_))))));have⟨go,oo,c9,U,e6,a9⟩:=(hs.o.below h.bel).some_ oO;rw[H] at U;injection U with b3 _ a7;subst b3 a7;obtain⟨v,hv⟩:∃v,x.O[i]?=some v:=⟨_,Ab a6⟩;have ov:W.cell? ⟨go,Du oo i,none⟩=some (N v):=by rw[DG];exact a9 i _ (by simp[hv])
  have e3:=hx.orng v (AQ hv);have q2:i<maxLen:=by unfold maxLen;omega
  have C1:Aj [(⟨go,Du oo i,none⟩,N v)] W:= .cons ov .nil;refine BA [(2,.c 0)] [1,3,4,5,55,56,57] [(4,N i),(5,N v),(55,.slice (some (ad go oo)) x.O.length ko)] (Bo (oO:oX i x.O.length)) C1<|Ae ?_;have⟨Ap,cp,b2,b9,_,c5,c3⟩:=h.rep.placeE l;have⟨g,f,Z,a0,_,c6,c4⟩:=h.rep.orderE l;have e4:(Ft x i).P.length=x.n+1:=by show(FI _ 0 _).length=_;rw[O9];simp
  have d:(Ft x i).O.length=i:=by show(x.O.take i).length=i;rw[Ca];omega
  have⟨_,_,_,_,_,fe,_⟩:=h.rep.engF l;have⟨e2,a8,hz⟩:=Af.1 Ek;injection hz with hz B;injection B with B a3;have hd:=h.drew;have b:=hd.rep.part .O;unfold Ba at b;simp only[cont] at b;have⟨A7,c7,w5,er,a5,z,b0⟩:=GH (P:=prog) W.drew k.heap.size 25 25 3 u25 a8 hz B a3 rfl b 3 (u:=N v) rfl (by rw[d];unfold maxLen;omega) (by rw[d];omega) hd.rep.base;have⟨h5,a2⟩:=hd.rep.pushOrder l v (.slice A7 ((Ft x i).O.length+1) c7) w5 a5 z b0;have h6:=hd.E h5 a2;rw[Z] at er;have y:some e≠(t .O).ownBlock:=fun hh=>h.rep.apart .E .O e oS (by rw[l];rfl) hh.symm
  have b8:w5.cell? (ad e 10)=some (.slice g (Ft x i).O.length f):=z.cell a0 y;have b7:w5.frozen? (ad e 10)=false:=(CT (z.block e (h.rep.lo (r:= .E) (by rw[l];rfl)).2 y)).trans (fe 10);have M:Dq t .O (.slice A7 ((Ft x i).O.length+1) c7) .E=vS e 1 1:=(CE _ _ oS).trans l;have⟨gp,c0,D,c2,_,_,b6,b5,_,_⟩:=h6.rep.placeA M (by show 0<(Ft x i).P.length;omega);have A:t .P=vS gp (Ft x i).P.length c0:=by rw[CE _ _ oS] at D;exact D
  rw[b2] at A;injection A with Y _ R;subst Y R;have⟨b4,a1⟩:=h6.rep.putPlace D v (i:Int);have h8:=h6.E b4 a1;obtain⟨uu,a4⟩:∃u,(Ft x i).P[v]?=some u:=⟨_,Ab oO⟩;have op:=b6 v uu a4;have e8:({({Ft x i with O:=(Ft x i).O++[v]}:St) with P:=(Ft x i).P.set v (i:Int)}:St)=Ft x (i+1):=by
   unfold Ft;have ht:x.O.take (i+1)=x.O.take i++[v]:=by rw[CK,hv];rfl
   rw[ht,MV];simp only;rw[Ca,F3 oO,CC]
  rw[show({({Ft x i with O:=(Ft x i).O++[v]}:St) with P:=({Ft x i with O:=(Ft x i).O++[v]}:St).P.set v (i:Int)}:St)=Ft x (i+1) from e8] at h8;have C2:Aj [(ad e 11,vS gp ((Ft x i).P.length) cp),(ad e 10,.slice g ((Ft x i).O.length) f)] W.drew:= .cons b9 (.cons a0 .nil);have C5:Aj [(ad e 11,vS gp ((Ft x i).P.length) cp),(ad e 10,.slice g ((Ft x i).O.length) f)] w5:=Aj.grown (w:=W.drew) C2 z (fun q J=>by rcases Az.1 J with rfl|J;exact y;rcases Az.1 J with rfl|J;exact y;cases J);refine Qm [16,18] [(0,.p),(1,.p),(2,.p),(3,.p),(4,.c 0),(6,.p),(7,.p),(8,.p),(9,.c 1),(10,.p)] [.ps [(5,.p),(13,.p)],.one 11,.one 12,.qs [(14,.p),(15,.p)],.one 16,.ps [(17,.p)],.one 18] [1,3,4,5,55,56,57,62,66,71,72] [qv 62 e,(66,vS gp ((Ft x i).P.length) cp),(71,.slice g ((Ft x i).O.length) f),(72,N v)] C2<|Fh (O:=[]) [1,3,4,5,55,56,57,62,66,67,71,72,75] [(67,N v),(75,N i)] trivial<|Fa 73 25 3 (N v) (.int .i64 0) oK oK oK oK oK oK (.inr rfl) rfl (.inr (fun hS=>Aj.alloc hS _))<|DY 74 25 25 (.slice g ((Ft x i).O.length) f) (vS W.drew.heap.size 1 1) oK oK oK oK er (.inr (fun _=>C5))<|FW (O:=[]) _ [1,3,4,5,55,56,57,66,67,74,75,77] [(74,.slice A7 ((Ft x i).O.length+1) c7),(77,vP e 10)] trivial C5 (fun _ h=>h)<|Cz (.slice A7 ((Ft x i).O.length+1) c7) b8 b7<|Fh [1,3,4,5,55,56,57,75,78] [(78,vP gp v)] (Bo (oO:oX v (((Ft x i).P.length:Nat):Int)))<|Cz (N i) op (b5 v)<|BG [1,3,4,5,55,56,57]<|BN (Ae<|Be [(0,.e (N (i+1)))] [1,3,55,56,57] [(57,N (i+1))] (Bo (vJ (Ec q2 rfl)))<|BV (BF (m:=x.O.length-(i+1)) oO ⟨i+1,_,rfl,h8,M,oO,rfl⟩))
 .have q1:¬(i:Int)<(x.O.length:Int):=oO;refine Be [(0,.F)] [1,3,55,56,57,58] [(58,bF)] (Bo (Er q1))<|Ae (Ad ?_);have e1:Ft x i=Cp x:=by
   unfold Ft;rw[CX oO];rfl
  exact B1 rfl (BQ (Bc nX (B6 nX (Ck (BV (hQ t W (e1▸h) l))))))
variable{y:Int}
theorem VB {n:Nat} (c:n<=10) (h:Bud.Lit n y):G3 y 65536=true:=by
 have⟨b,a⟩:=h;unfold B7 at a;exact decide_eq_true ⟨b,oO,oO⟩
variable{s t:St}
theorem To {c:Option Nat} (h:Ik s y c=some t) (L:List Nat):Ik {s with Q:=L} y c=some {t with Q:=L}:=by
 unfold Ik at h⊢;split at h
 .rename_i a;rw[if_pos a];rw[<-Ah h]
 .cases h
theorem Lz {c:Nat} (h:Et s y c=some t) (L:List Nat):Et {s with Q:=L} y c=some {t with Q:=L}:=by
 unfold Et at h⊢
 cases a:s.W[EC (-y)]? with
 |none=>rw[a] at h;cases h
 |some r=>
  simp only[a] at h⊢;by_cases b:r.length<lim
  .rw[if_pos b] at h⊢;rw[<-Ah h]
  .rw[if_neg b] at h;cases h
theorem L0 {x:List Int} {k:Nat} (h:M6 s x k=some t) (L:List Nat):M6 {s with Q:=L} x k=some {t with Q:=L}:=by
 unfold M6 at h⊢;split at h
 .rename_i d;rw[if_pos d,<-Ah h]
 rename_i d;rw[if_neg d]
 match x,h with
 |[],h=>simp only at h⊢;rw[<-Ah h]
 |[y],h=>
  simp only at h⊢;have e:KK {s with Q:=L} y=KK s y:=rfl;rw[e]
  cases i:KK s y with
  |none=>rw[i] at h;cases h
  |some r=>
   rw[i] at h
   match r,h with
   |some false,h=>simp only at h⊢;rw[<-Ah h]
   |some true,h=>simp only at h⊢;rw[<-Ah h]
   |none,h=>exact To h L
 |y::z::r,h=>
  unfold Gw at h⊢
  cases j:s.K[k]? with
  |none=>rw[j] at h;cases h
  |some c=>
   rw[j] at h;simp only at h⊢
   cases f:c.l with
   |nil=>rw[f] at h;cases h
   |cons a r=>cases r with
    |nil=>rw[f] at h;cases h
    |cons b r=>
     simp only[f] at h⊢
     cases g:Et s a k with
     |none=>simp only[g] at h;cases h
     |some n=>
      simp only[g] at h;have m:=Lz g L;simp only[m];exact Lz h L
theorem Qd {l:List Int} {b:Bool} {a:Int} (h:M7 s l b a=some t):Hs s=true/\s.K.length<lim/\M6 {s with K:=s.K++[⟨Dd l,b,a⟩]} (Dd l) s.K.length=some t:=by
 unfold M7 at h;split at h
 .cases h
 .rename_i d;refine⟨?_,oO,h⟩
  cases c:Hs s with
  |true=>rfl
  |false=>exact absurd (.inl c) d
theorem cG {x:Sv} {ps:List (Int×List Int)} {vG vL vA Z vF vR:Value} {d w:World} {q e:Nat} {p:Px} {S:Sl} {T:Nat->Value} {C:Nat->Cn} {Q:EO} [BZ Q] (hx:Jw x) (hs:Na d x ps vG vL vA Z vF vR) {sG:St} (a5:x.G.length<=lim) (a0:∀l∈x.G,l.length<=lim) (b:J6 x.G s=some sG)
 (h:Loc d.heap.size p s noS S d w T C []) (he:S .E=vS e 1 1) (t8:T 8=vS q 1 1) (c8:C 8=(35,8,1,svC x vG vL vA Z vF vR)) (b4:fb vR ps p.proof) (J:∀i,i≠8->i≠9->T i=An/\C i=F1)
 (hQ:∀A f w1,Loc d.heap.size A sG noS f d w1 T C []->f .E=vS e 1 1->A.proof=p.proof->HN f44 (fun a w=>Q .normal a w) [qv 1 q,qv 3 e] w1):
 HW f44 (.seq (.reg 7) (.block 2 (.loop jx))) Q [qv 1 q,qv 3 e] w:=by
 have oc:∀{W:World} {p:Px} {s:St} {S:Sl} {T:Nat->Value} {C:Nat->Cn},Loc d.heap.size p s noS S d W T C []->T 8=vS q 1 1->C 8=(35,8,1,svC x vG vL vA Z vF vR)->∀j u,(svC x vG vL vA Z vF vR)[j]?=some u->W.cell? (ad q j)=some u:=fun h t8 c8 j u hu=>h.cell 8 t8 (by rw[c8];exact hu)
 have P:=hx.few;have⟨b2,O,a6⟩:=hs.g;have⟨Ag,kg,D⟩:=O.form;refine Ad ?_;have C0:Aj [(ad q 1,.slice Ag x.G.length kg)] w:= .cons (oc h t8 c8 1 _ (by rw[<-D];rfl)) .nil;refine Fi [(1,.c 0)] [1,3,81,82,83] [qv 1 q,qv 3 e,(81,.slice Ag x.G.length kg),(82,N x.G.length),(83,I 0)] C0<|Ae (Bd<|Ct (fun m L W=>∃i A f z,L=[qv 1 q,qv 3 e,(81,.slice Ag x.G.length kg),(82,N x.G.length),(83,N i)]/\Loc d.heap.size A z noS f d W T C []/\f .E=vS e 1 1/\A.proof=p.proof/\J6 (x.G.drop i) z=some sG/\i<=x.G.length/\m=x.G.length-i) (n:=x.G.length) ⟨0,p,S,s,rfl,h,he,rfl,b,oO,oO⟩ ?_);rintro m L W ⟨i,A,f,z,rfl,h,he,H,b,hi,rfl⟩;refine Ad ?_;by_cases B:i<x.G.length
 .have q1:(i:Int)<(x.G.length:Int):=oO;refine Be [(0,.T)] [1,3,81,82,83,84] [(84,bT)] (Bo (EE q1))<|Ae (Ad<|Bg rfl (AZ (Ae (Ad (Bd (Ad ?_))))));have⟨go,oo,b3,Y,b5,a9⟩:=(O.below h.bel).some_ oO;rw[D] at Y;injection Y with b0 _ a4;subst b0 a4;obtain⟨l,hl⟩:∃v,x.G[i]?=some v:=⟨_,Ab B⟩;have⟨U,hU,o⟩:=a6 i l hl;obtain⟨r,k,rfl⟩:=o.form;have ov:W.cell? ⟨go,Du oo i,none⟩=some (.slice r l.length k):=by rw[DG];exact a9 i _ hU
  have M:l∈x.G:=AQ hl;have q2:i<maxLen:=by unfold lim at a5;unfold maxLen;omega
  have a8:x.G.drop i=l::x.G.drop (i+1):=by
   rw[Co B];rw[Ab B] at hl;rw[Ah hl]
  rw[a8] at b;unfold J6 at b
  cases hk:M7 z l false 0 with
  |none=>rw[hk] at b;cases b
  |some s2=>
  rw[hk] at b;have⟨hd,b6,hG⟩:=Qd hk;have C1:Aj [(⟨go,Du oo i,none⟩,.slice r l.length k)] W:= .cons ov .nil;refine BA [(1,.c 0)] [1,3,7,81,82,83] [(7,.slice r l.length k),(81,.slice (some (ad go oo)) x.G.length kg)] (Bo (oO:oX i x.G.length)) C1<|Ae ?_;have h2:=h.pend (Ai _) hd #[.slice r l.length k,bF,I 0,I 0] rfl;have R:=heap_alloc_new W (.cells #[.slice r l.length k,bF,I 0,I 0] 239);have a1:Gy f z.K.length W.heap.size (.cl z.K.length)= vS W.heap.size 0 1:=Fe _ _ _;have a2:Gy f z.K.length W.heap.size .E=vS e 1 1:=he;have tc:=take_any (l:=l) h2 (Ai _) a2 a1 R o (a0 l M) (fun y hy=>VB P (hx.G l M y hy)) (J 1 oD oD).1 (J 1 oD oD).2 hG;refine AY [AM 0 2,.one 2,.one 3,.one 4]<|AN [1,3,7,81,82,83,87,88] [qv 87 e,(88,.slice r l.length k)]<|CH 89 (.agg #[.slice r l.length k,bF,I 0,I 0]) W<|CH 90 (vP W.heap.size 0) (W.alloc (.cells #[.slice r l.length k,bF,I 0,I 0] 239))<|BW 91 (tc.mono ?_);rintro en w3 ⟨rfl,p3,S3,h3,a7,a3⟩;refine⟨_,rfl,.inl oK,BG [1,3,7,81,82,83]<|BN (Ae<|Be [(0,.e (N (i+1)))] [1,3,81,82,83] [(83,N (i+1))] (Bo (vJ (Ec q2 rfl)))<|BV (BF (m:=x.G.length-(i+1)) oO ⟨i+1,p3,S3,s2,rfl,h3,a7,a3.trans H,b,oO,rfl⟩))⟩
 .have q1:¬(i:Int)<(x.G.length:Int):=oO;refine Be [(0,.F)] [1,3,81,82,83,84] [(84,bF)] (Bo (Er q1))<|Ae (Ad ?_);rw[Ew oO] at b;obtain rfl:=Ah b;exact B1 rfl (BQ (Bc nX (B6 nX (Ck (BV (hQ A f W h he H))))))
theorem cH {x:Sv} {ps:List (Int×List Int)} {vG vL vA vO vF vR:Value} {R w:World} {b1 e:Nat} {p:Px} {S:Sl} {T:Nat->Value} {C:Nat->Cn} {Q:EO} [BZ Q] (hx:Jw x) (hs:Na R x ps vG vL vA vO vF vR) {sL:St} (g4:x.Q.length<=lim) (g0:∀l∈x.Q,l.1.length<=lim) (b:IH x.Q s=some sL)
 (h:Loc R.heap.size p s noS S R w T C []) (he:S .E=vS e 1 1) (t8:T 8=vS b1 1 1) (c8:C 8=(35,8,1,svC x vG vL vA vO vF vR)) (Z:fb vR ps p.proof) (a0:∀i,i≠8->i≠9->T i=An/\C i=F1)
 (hQ:∀p1 O w1 T1 C1,Loc R.heap.size p1 sL noS O R w1 T1 C1 []->O .E=vS e 1 1->fb vR ps p1.proof->(∀i,i≠8->i≠9->T1 i=An/\C1 i=F1)->HN f44 (fun a w=>Q .normal a w) [qv 1 b1,qv 3 e] w1):
 HW f44 (.seq (.reg 12) (.block 4 (.loop jy))) Q [qv 1 b1,qv 3 e] w:=by
 have oc:∀{W:World} {p:Px} {s:St} {S:Sl} {T:Nat->Value} {C:Nat->Cn},Loc R.heap.size p s noS S R W T C []->T 8=vS b1 1 1->C 8=(35,8,1,svC x vG vL vA vO vF vR)->∀j u,(svC x vG vL vA vO vF vR)[j]?=some u->W.cell? (ad b1 j)=some u:=fun h t8 c8 j u hu=>h.cell 8 t8 (by rw[c8];exact hu)
 have c6:=hx.few;have⟨i3,c4,g8⟩:=hs.l;have⟨Ag,kg,b7⟩:=c4.form;refine Ad ?_;have C0:Aj [(ad b1 2,.slice Ag x.Q.length kg)] w:= .cons (oc h t8 c8 2 _ (by rw[<-b7];rfl)) .nil;refine Fi [(1,.c 0)] [1,3,94,95,96] [qv 1 b1,qv 3 e,(94,.slice Ag x.Q.length kg),(95,N x.Q.length),(96,I 0)] C0<|Ae (Bd<|Ct (fun m L W=>∃i p1 O d T1 C1,L=[qv 1 b1,qv 3 e,(94,.slice Ag x.Q.length kg),(95,N x.Q.length),(96,N i)]/\Loc R.heap.size p1 d noS O R W T1 C1 []/\O .E=vS e 1 1/\fb vR ps p1.proof/\(∀i,i≠8->i≠9->T1 i=An/\C1 i=F1)/\IH (x.Q.drop i) d=some sL/\i<=x.Q.length/\m=x.Q.length-i) (n:=x.Q.length) ⟨0,p,S,s,T,C,rfl,h,he,Z,a0,b,oO,oO⟩ ?_);rintro m L W ⟨i,p1,O,d,T1,C1,rfl,h,he,Z,a0,b,hi,rfl⟩;refine Ad ?_;by_cases b0:i<x.Q.length
 .have q1:(i:Int)<(x.Q.length:Int):=oO;refine Be [(0,.T)] [1,3,94,95,96,97] [(97,bT)] (Bo (EE q1))<|Ae (Ad<|Bg rfl (AZ (Ae (Ad (Bd (Ad ?_))))));have⟨go,oo,i6,c7,i8,b2⟩:=(c4.below h.bel).some_ oO;rw[b7] at c7;injection c7 with i0 _ g6;subst i0 g6;obtain⟨⟨l,g,f⟩,hl⟩:∃v,x.Q[i]?=some v:=⟨_,Ab b0⟩;have⟨U,hU,h9,h8,a7⟩:=g8 i l g f hl;obtain⟨z,q,rfl⟩:=a7.form;have b6:W.rangeAt go (Du oo (i*3)) [.slice z l.length q,I g,I f]:=fun j u Y=>by
   rw[DG,Ea]
   match j,Y with
   |0,Y=>simp at Y;rw[<-Y];exact b2 _ _ (by rw[<-hU];congr 1;omega)
   |1,Y=>simp at Y;rw[<-Y];exact b2 _ _ (by rw[<-h9];congr 1;omega)
   |2,Y=>simp at Y;rw[<-Y];exact b2 _ _ (by rw[<-h8];congr 1;omega)
  have c3:(l,g,f)∈x.Q:=AQ hl;have q2:i<maxLen:=by unfold lim at g4;unfold maxLen;omega
  have h0:x.Q.drop i=(l,g,f)::x.Q.drop (i+1):=by
   rw[Co b0];rw[Ab b0] at hl;rw[Ah hl]
  rw[h0] at b;unfold IH at b;split at b
  .cases b
  rename_i c2
  cases hk:M7 d l true f with
  |none=>rw[hk] at b;cases b
  |some s2=>
  rw[hk] at b;simp only at b;have⟨hd,i9,hG⟩:=Qd hk;have h2:=h.newN 9 227 [An,I 0,I 0];have b5:=h2.there 9 (AB _ _ _) 0 3 (by rw[AB];exact Ai 3);have h3:=Loc.putN 9 (AB _ _ _) [.slice z l.length q,I g,I f] 0 h2;rw[AB,GG] at h3;refine AY [AM 0 1,.one 1,.one 2,.one 3]<|G4 [1,3,94,95,96,98] [(94,.slice (some (ad go oo)) x.Q.length kg),(98,vP go (Du oo (i*3)))] (Bo (oO:oX i x.Q.length))<|MX (cs:=[.slice z l.length q,I g,I f]) 99 227 b6 (.inr id)<|CH 9 (vP W.heap.size 0) (W.alloc (.cells #[An,I 0,I 0] 227))<|De 227 [.slice z l.length q,I g,I f] (by rfl) b5<|BG [1,3,9,94,95,96] ?_;generalize h1:W.heap.size=b9 at h3⊢;have e3:EQ (227,[An,I 0,I 0].length,1,[An,I 0,I 0]).2.2.2 0 [.slice z l.length q,I g,I f]=[.slice z l.length q,I g,I f]:=rfl;rw[e3] at h3;clear h2 b5;generalize e8:((W.alloc (.cells [An,I 0,I 0].toArray 227)).setCells b9 0 [.slice z l.length q,I g,I f])=B at h3⊢;obtain⟨T3,a2⟩:∃T3,T3=CI T1 9 (vS b9 1 1):=⟨_,rfl⟩;obtain⟨C3,a3⟩:∃C3,C3=CI C1 9 (227,[An,I 0,I 0].length,1,[.slice z l.length q,I g,I f]):=⟨_,rfl⟩;rw[<-a2,<-a3] at h3;have M:∀i,i≠8->i≠9->T3 i=An/\C3 i=F1:=fun i g1 g2=>by rw[a2,a3,Au _ _ g2,Au _ _ g2];exact a0 i g1 g2
  have t93:T3 9=vS b9 1 1:=by rw[a2];exact AB _ _ _
  have b4:C3 9=(227,3,1,[.slice z l.length q,I g,I f]):=by rw[a3];exact AB _ _ _
  clear a2 a3 e8 h1;refine Ae (Ad ?_);have D:=h3.pend (Ai _) hd #[.slice z l.length q,bT,I g,I f] rfl;have A:=heap_alloc_new B (.cells #[.slice z l.length q,bT,I g,I f] 239);have i2:Aj [(ad b9 0,.slice z l.length q),(ad b9 1,I g),(ad b9 2,I f)] B:= .cons (h3.cell 9 t93 (by rw[b4];rfl)) (.cons (h3.cell 9 t93 (by rw[b4];rfl)) (.cons (h3.cell 9 t93 (by rw[b4];rfl)) .nil));refine AY [Cu 0 6 [(1,.c 0),(3,.c 1),(5,.c 2)],.one 6,.one 7,AM 8 1]<|DO [1,3,9,94,95,96,101,103,105] [qv 9 b9,(101,.slice z l.length q),(103,I g),(105,I f)] i2<|CH 106 (.agg #[.slice z l.length q,bT,I g,I f]) B<|CH 107 (vP B.heap.size 0) (B.alloc (.cells #[.slice z l.length q,bT,I g,I f] 239))<|AN [1,3,9,10,94,95,96] [qv 10 B.heap.size]<|AK ?_;have H:Gy O d.K.length B.heap.size (.cl d.K.length)= vS B.heap.size 0 1:=Fe _ _ _;have a9:E6 (Gy O d.K.length B.heap.size) d.K.length=vP B.heap.size 0:=aX;have k:Gy O d.K.length B.heap.size .E=vS e 1 1:=he;generalize B.heap.size=G at D A H a9 k⊢;generalize Gy O d.K.length G=S4 at D H a9 k;generalize(B.alloc (.cells #[.slice z l.length q,bT,I g,I f] 239))=w4 at D A⊢;refine Ae (Ad ?_);have⟨a5,a4,c9,e2,_,i5,i4⟩:=D.rep.learntE k;have⟨_,_,_,_,_,fe,_⟩:=D.rep.engF k;have⟨i7,g7,hz⟩:=Af.1 Nj;injection hz with hz a8;injection a8 with a8 e7;have J:=D.rep.part .Q;unfold Ba at J;simp only[cont] at J;have⟨A5,c5,w5,er,c1,a1,h5⟩:=GH (P:=prog) w4 R.heap.size 232 232 237 WC g7 hz a8 e7 rfl J 237 (u:=vP G 0) rfl (by unfold lim at c2;unfold maxLen;omega) (by unfold lim at c2;omega) D.rep.base;rw[<-a9] at c1;have⟨i1,e4⟩:=D.rep.pushLearnt k d.K.length (.slice A5 (d.Q.length+1) c5) w5 c1 a1 h5;have h6:=D.E i1 e4;rw[c9] at er;have a6:some e≠(S4 .Q).ownBlock:=fun hh=>D.rep.apart .E .Q e oS (by rw[k];rfl) hh.symm
  have e1:w5.cell? (ad e 13)=some (.slice a5 d.Q.length a4):=a1.cell e2 a6;have e0:w5.frozen? (ad e 13)=false:=(CT (a1.block e (D.rep.lo (r:= .E) (by rw[k];rfl)).2 a6)).trans (fe 13);have e6:some G≠(S4 .Q).ownBlock:=fun hh=>D.rep.apart (.cl d.K.length) .Q G oS (by rw[H];rfl) hh.symm
  have e5:G≠e:=fun hh=>D.rep.apart (.cl d.K.length) .E G oS (by rw[H];rfl) (by rw[k,hh];rfl)
  have b3:(w5.setCell (ad e 13) (.slice A5 (d.Q.length+1) c5)).heap[G]?=some (.cells #[.slice z l.length q,bT,I g,I f] 239 (0,0)):=
   (Below.heap_setCell _ _ _ _ e5).trans ((a1.block G (Ak.1 A).1 e6).trans A)
  have b8:Dq S4 .Q (.slice A5 (d.Q.length+1) c5) (.cl d.K.length)= vS G 0 1:=(CE _ _ oS).trans H;have c0:Dq S4 .Q (.slice A5 (d.Q.length+1) c5) .E=vS e 1 1:=(CE _ _ oS).trans k;have C4:Aj [(ad e 13,.slice a5 d.Q.length a4)] w4:= .cons e2 .nil;refine AY [Cu 0 6 [(4,.c 0)],.one 6,.one 7,AM 8 2,.one 10]<|DO [1,3,9,10,94,95,96,108,112,113] [qv 10 G,qv 108 e,(112,.slice a5 d.Q.length a4),qv 113 G] C4<|Fa 114 232 237 (vP G 0) (.pointer none) oK oK oK oK oK oK (.inl rfl) rfl (.inl oK)<|DY 115 232 232 (.slice a5 d.Q.length a4) (vS w4.heap.size 1 1) oK oK oK oK er (.inl oK)<|AN [1,3,9,10,94,95,96,115,117] [(115,.slice A5 (d.Q.length+1) c5),(117,vP e 13)]<|Cz (.slice A5 (d.Q.length+1) c5) e1 e0<|BG [1,3,9,10,94,95,96] ?_;have tc:=take_any (l:=l) h6 (Ai _) c0 b8 b3 a7 (g0 _ c3) (fun y hy=>VB c6 (hx.Q _ c3 y hy)) (M 1 oD oD).1 (M 1 oD oD).2 (L0 hG (d.Q++[d.K.length]));have g5:s2.Q=d.Q:=by
   have:=L0 hG d.Q;have e9:({({d with K:=d.K++[⟨Dd l,true,f⟩]}:St) with Q:=d.Q}:St)={d with K:=d.K++[⟨Dd l,true,f⟩]}:=rfl;rw[e9,hG] at this;have:=congrArg (fun o:Option Bud.St=>o.map fun s=>s.Q) this;simpa using this
  refine Ae<|AY [AM 0 2,.one 2]<|AN [1,3,9,94,95,96,118,119] [qv 118 e,qv 119 G]<|BW 120 (tc.mono ?_);rintro en w7 ⟨rfl,p7,S7,h7,g9,g3⟩;refine⟨_,rfl,.inl oK,BG [1,3,9,94,95,96]<|BN (Ae ?_)⟩;rw[g5] at b;refine Be [(0,.e (N (i+1)))] [1,3,94,95,96] [(96,N (i+1))] (Bo (vJ (Ec q2 rfl))) ?_;exact BV (BF (m:=x.Q.length-(i+1)) oO ⟨i+1,p7,S7,_,T3,C3,rfl,h7,g9,by rw[g3];exact Z,M,b,oO,rfl⟩)
 .have q1:¬(i:Int)<(x.Q.length:Int):=oO;refine Be [(0,.F)] [1,3,94,95,96,97] [(97,bF)] (Bo (Er q1))<|Ae (Ad ?_);rw[Ew oO] at b;obtain rfl:=Ah b;exact B1 rfl (BQ (Bc nX (B6 nX (Ck (BV (hQ p1 O W T1 C1 h he Z a0))))))
end Go.Proofs.YtboflajfckfphaaGreatDoor
namespace Go.Proofs.YtboflajfckfphaaGreatDoor
open Go.RowKit Bud Go
set_option maxRecDepth 1000000
def io (vR:Value) (x:Sv) (ps:List (Int×List Int)) (s:St) (w:World) (b:Ending) (a:World):Prop:=
 ∃e p S T C,b= .returned (vP e 0)/\Loc w.heap.size p s noS S w a T C []/\S .E=vS e 1 1/\fb vR ps p.proof/\(∀i,i≠8->i≠9->T i=An/\C i=F1)
theorem Wy {x:Sv} {ps:List (Int×List Int)} {t q vA Z vF vR:Value} {w:World} {s:St} (j:Jw x) (d:Na w x ps t q vA Z vF vR) (D:x.G.length<=lim) (y:∀l∈x.G,l.length<=lim) (B:x.Q.length<=lim) (u:∀l∈x.Q,l.1.length<=lim) (b:Hd x=some s):
 Cg 44 #[.agg #[N x.n,t,q,vA,Z,I x.J,vF,vR]] w (io vR x ps s w):=by
 unfold Hd at b
 cases R:J6 x.G (Cp x) with
 |none=>rw[R] at b;cases b
 |some sG=>
 rw[R] at b;have hn:=j.few;have a1:=j.X;have a0:=j.F;obtain⟨AG,kG,rfl⟩:∃A c,t= sq A x.G c:=by have⟨_,h,_⟩:=d.g;exact h.form
 obtain⟨AL,kL,rfl⟩:∃A c,q= sq A x.Q c:=by have⟨_,h,_⟩:=d.l;exact h.form
 obtain⟨AA,kA,rfl⟩:=d.a.form;obtain⟨AO,kO,rfl⟩:=d.o.form;obtain⟨AF,kF,rfl⟩:=d.p.form;obtain⟨AR,kR,rfl⟩:∃A c,vR= sq A ps c:=by have⟨_,h,_⟩:=d.r;exact h.form
 refine CN jz<|Ad<|AY [.one 0,AM 1 1]<|CH 1 (vP w.heap.size 0) (w.alloc (.cells #[N x.n,sq AG x.G kG,sq AL x.Q kL,sq AA x.X kA,sq AO x.O kO,I x.J,sq AF x.F kF,sq AR ps kR] 35))<|AN [1,2] [qv 1 w.heap.size,(2,.pointer none)]<|AK<|Ae (Ad (Eu (be (ps:=ps) hn (by unfold lim;omega) (by unfold lim;omega) d rfl rfl fun W e p S T C h1 P f t8 Y m=>Ae<|Ad (cL j d h1 P t8 Y fun S2 w2 h2 M=>Ae<|Ad (cG j d D y R h2 M t8 Y f (fun i U _=>m i U) fun p3 S3 w3 h3 L z=>Ae<|Ad (cH j d B u b h3 L t8 Y (by rw[z];exact f) (fun i U _=>m i U) fun p4 S4 w4 T4 C4 h4 H k t44=>Ae<|Ad<|B8 [] [2] [qv 2 e]<|Ae (Br (Bu rfl (v:=vP e 0) rfl ⟨e,p4,S4,T4,C4,rfl,h4,H,k,t44⟩))))))))
end Go.Proofs.YtboflajfckfphaaGreatDoor
namespace Go.Proofs.YtboflajfckfphaaGreatDoor
open Go.RowKit Bud Go Go.Sort Go.Proofs Go.Lib Go.Proofs.Tryz
set_option maxRecDepth 1000000
section
def Ey (a:List Int) (x:Int):Int:=(a[x.toNat]?).getD 0
def Xi (a:List Int) (x y:Int):Int:=RS [compareInt (Ey a y) (Ey a x),x-y]
theorem lM (a:List Int) (x y:Int):ltOf (Xi a) x y=decide (Ey a y<Ey a x∨(Ey a y=Ey a x/\x<y)):=by
 unfold ltOf Xi RS compareInt;by_cases k:Ey a y<Ey a x
 .simp[k]
 .by_cases q:Ey a x<Ey a y
  .have h:¬Ey a y=Ey a x:=oO;simp[k,q,h]
  .have h:Ey a y=Ey a x:=oO;by_cases i:x<y
   .have:x-y≠0:=oO;simp[RS,h,i,this];omega
   .by_cases o:x=y
    .simp[RS,h,o]
    .have:x-y≠0:=oO;simp[RS,h,i,this];omega
theorem nD (a:List Int):SWO (ltOf (Xi a)) where
 irrefl x:=by rw[lM];simp
 trans x y z h1 h2:=by rw[lM] at*;simp only[decide_eq_true_eq] at*;omega
 ntrans x y z h1 h2:=by rw[lM] at*;simp only[decide_eq_false_iff_not] at*;omega
theorem nE (a:List Int) (x y:Int) (i:ltOf (Xi a) x y=false) (h:ltOf (Xi a) y x=false):x=y:=by rw[lM] at*;simp only[decide_eq_false_iff_not] at*;omega
theorem cJ (w:World) (o:Obj):grow (w.drewN 1) #[o]=w.drew.alloc o:=by
 unfold grow World.drewN World.drew World.alloc;simp
def od:Sh:= .seq (.reg 0) (.seq (.reg 1) .ret)
theorem kH:f116.body=some (od.code f116):=oK
theorem gR {h:World} {d e o ca:Nat} {a:List Int} {x y:Int} (R:h.cell? (ad d 0)=some (vP e 0)) (Q:h.cell? (ad e 8)=some (vQ o a ca)) (u:∀(i:Nat) v,a[i]?=some v->h.cell? (ad o i)=some (I v))
 (M:a.length<=100) (hx:0<=x/\x<a.length) (hy:0<=y/\y<a.length):Cg 116 #[I x,I y,vP d 0] h fun e r=>e= .returned (I (Xi a x y))/\∃q L,r=grow (h.drewN q) L:=by
 refine CN kH<|Ad ?_;have q1:IntKind.i64.wrap (x-y)=x-y:=Bb _ oO;have Z:h.cell? (ad o x.toNat)=some (I (Ey a x)):=by
  have k:x.toNat<a.length:=oO;refine(u x.toNat _ (Ab k)).trans ?_;unfold Ey;rw[Ab k];rfl
 have U:h.cell? (ad o y.toNat)=some (I (Ey a y)):=by
  have k:y.toNat<a.length:=oO;refine(u y.toNat _ (Ab k)).trans ?_;unfold Ey;rw[Ab k];rfl
 refine B8 [] [0,1,2,5] [(5,I 0)]<|Ae (Ad ?_);have J:Aj [(ad d 0,vP e 0),(ad e 8,vQ o a ca),(⟨o,(x).toNat,none⟩,I (Ey a x)),(⟨o,(y).toNat,none⟩,I (Ey a y))] h.drew:= .cons R (.cons Q (.cons Z (.cons U .nil)));refine Dr (O:=[0<=(y:Int)/\(y:Int)<(a.length:Int),0<=(x:Int)/\(x:Int)<(a.length:Int),(∀r,CR (some (Aj [(ad d 0,vP e 0),(ad e 8,vQ o a ca),(⟨o,(x).toNat,none⟩,I (Ey a x)),(⟨o,(y).toNat,none⟩,I (Ey a y))])) h.drew r->Cg 118 #[I (Ey a y),I (Ey a x)] r fun G A=>G=Ending.returned (I (compareInt (Ey a y) (Ey a x)))/\r=A),(I (IntKind.i64.wrap ((x:Int)-(y:Int))):Value)=I (x-y)]) [] (Gi [(0,.c 0),(3,.c 1),(6,.c 3),(7,.c 0),(10,.c 1),(13,.c 2),(14,.q (I (compareInt (Ey a y) (Ey a x)))),(17,.e (I (x-y)))] 0 18) [.one 18,.one 19,.qs [(20,.p)]] [0,1,2,5,20,23] [(20,I (compareInt (Ey a y) (Ey a x))),(23,I (x-y))] ⟨oO,oO,(fun r e=>LB _ _ r),(vI q1),trivial⟩ J<|Ra 24 25 (compareInt (Ey a y) (Ey a x)) (x-y) oK oK oK oK u25 (.inr (fun P=>Aj.alloc P _)) ?_;have u:∀(j:Nat) z,[compareInt (Ey a y) (Ey a x),x-y][j]?=some z->(h.drew.alloc (.cells #[I (compareInt (Ey a y) (Ey a x)),I (x-y)] 3)).cell? (ad h.drew.heap.size j)=some (I z):=fun j z s=>by
  rw[cell_of_row _ _ _ _ _ _ (heap_alloc_new h.drew _)]
  match j,s with
  |0,s=>simp at s;simp[s]
  |1,s=>simp at s;simp[s]
 have D:=(cJ h (.cells #[I (compareInt (Ey a y) (Ey a x)),I (x-y)] 3)).symm;have H:=Aj.alloc J (.cells #[I (compareInt (Ey a y) (Ey a x)),I (x-y)] 3);generalize h.drew.heap.size=b at u⊢;generalize(h.drew.alloc (.cells #[I (compareInt (Ey a y) (Ey a x)),I (x-y)] 3))=w1 at u D H⊢;refine QZ 25 117 #[vS b 2 2] oK oK oK oK ((Q1 (xs:=[compareInt (Ey a y) (Ey a x),x-y]) rfl (by show 2<=lim;unfold lim;omega) u).mono ?_);rintro G w2 ⟨rfl,rfl⟩;refine⟨_,rfl,.inr id,FW (O:=[]) [] [0,1,2,5] [(5,I (Xi a x y))] trivial H (fun _ _=> .nil)<|AK<|Ae (Br (Bu rfl (v:=I (Xi a x y)) rfl ⟨rfl,1,_,D⟩))⟩
structure EJ (Y:Nat->Prop) (B:Nat) (p:Px) (t:St) (S:Sl) (f:World) (ps:List (Int×List Int)) (m:Value) (n:Cn) (e d l j g:Nat) (c b a:List Value) (W:World) (T:Nat->Value) (C:Nat->Cn):Prop where
 h:Loc B p t noS S f W T C []
 pf:Pf Y f T C p.proof ps
 o:T 4=m/\C 4=n
 t2:T 202=vS d 1 1/\C 202=(136,1,1,[vP e 0])
 t3:T 203=vS l 1 1/\C 203=(35,8,1,c)
 t4:T 204=vS j 1 1/\C 204=(35,8,1,b)
 t5:T 205=vS g 1 1/\C 205=(31,3,1,a)
section
variable{Y:Nat->Prop} {B:Nat} {p:Px} {t:St} {S:Sl} {f W W':World} {ps:List (Int×List Int)} {m v:Value} {n x:Cn} {e d l j g:Nat} {c b a:List Value} {T:Nat->Value} {C:Nat->Cn}
theorem EJ.slot (h:EJ Y B p t S f ps m n e d l j g c b a W T C) (k:Nat) (r:k=210∨k=211∨1000+ps.length<=k) (q:Loc B p t noS S f W' (CI T k v) (CI C k x) []):EJ Y B p t S f ps m n e d l j g c b a W' (CI T k v) (CI C k x):=
 ⟨q,h.pf.same fun i s=>⟨Au _ _ oO,Au _ _ oO⟩,by rw[Au _ _ oO,Au _ _ oO];exact h.o,by rw[Au _ _ oO,Au _ _ oO];exact h.t2,by rw[Au _ _ oO,Au _ _ oO];exact h.t3,by rw[Au _ _ oO,Au _ _ oO];exact h.t4,by rw[Au _ _ oO,Au _ _ oO];exact h.t5⟩
theorem EJ.put3 (h:EJ Y B p t S f ps m n e d l j g c b a W T C) (o:Nat) (k:List Value):EJ Y B p t S f ps m n e d l j g (EQ c o k) b a (W.setCells l o k) T (CI C 203 (35,8,1,EQ c o k)):=by
 have q:=Loc.putN 203 h.t3.1 k o h.h;rw[h.t3.2] at q;exact⟨q,h.pf.same fun i r=>⟨rfl,Au _ _ oO⟩,by rw[Au _ _ oO];exact h.o,by rw[Au _ _ oO];exact h.t2,⟨h.t3.1,AB _ _ _⟩,by rw[Au _ _ oO];exact h.t4,by rw[Au _ _ oO];exact h.t5⟩
theorem EJ.put4 (h:EJ Y B p t S f ps m n e d l j g c b a W T C) (o:Nat) (k:List Value):EJ Y B p t S f ps m n e d l j g c (EQ b o k) a (W.setCells j o k) T (CI C 204 (35,8,1,EQ b o k)):=by
 have q:=Loc.putN 204 h.t4.1 k o h.h;rw[h.t4.2] at q;exact⟨q,h.pf.same fun i r=>⟨rfl,Au _ _ oO⟩,by rw[Au _ _ oO];exact h.o,by rw[Au _ _ oO];exact h.t2,by rw[Au _ _ oO];exact h.t3,⟨h.t4.1,AB _ _ _⟩,by rw[Au _ _ oO];exact h.t5⟩
theorem EJ.put5 (h:EJ Y B p t S f ps m n e d l j g c b a W T C) (o:Nat) (k:List Value):EJ Y B p t S f ps m n e d l j g c b (EQ a o k) (W.setCells g o k) T (CI C 205 (31,3,1,EQ a o k)):=by
 have q:=Loc.putN 205 h.t5.1 k o h.h;rw[h.t5.2] at q;exact⟨q,h.pf.same fun i r=>⟨rfl,Au _ _ oO⟩,by rw[Au _ _ oO];exact h.o,by rw[Au _ _ oO];exact h.t2,by rw[Au _ _ oO];exact h.t3,by rw[Au _ _ oO];exact h.t4,⟨h.t5.1,AB _ _ _⟩⟩
end
end
section
theorem Aj.setNe {C:Cells} {b:Nat} (c:∀q∈C,∃f d,q.1=(ad f d)/\f≠b):∀(j:List Value) (o:Nat) {w:World},Aj C w->Aj C (w.setCells b o j)
 |[],o,w,h=>h
 |y::r,o,w,h=>by
  refine Aj.setNe c r (o+1) (w:=w.setCell (ad b o) y) (fun q g=>?_);have⟨f,d,e,k⟩:=c q g;have i:=h q g;rw[e] at i⊢;exact(Gs (Below.heap_setCell _ _ _ _ (by exact k)) d).trans i
theorem Sz (w:World) (e:TypeId) (u d c:Value):Reads (w.alloc (.cells #[u,d,c] e)) (fun k=>k<w.heap.size+1) 3 (some (ad w.heap.size 0)) 1 [u,d,c]:=
 ⟨oS,fun _=>⟨_,rfl,oS,fun j x b=>by
  match j,b with
  |0,b=>simp at b;subst b;simp[Addr.add]
  |1,b=>simp at b;subst b;simp[Addr.add]
  |2,b=>simp at b;subst b;simp[Addr.add]⟩⟩
theorem u29:prog.underlying 29=some (.slice 227):=oK
theorem i227:(prog.info? 227).map (fun i=>(i.zero,i.size,i.bytes))=some (some (.agg #[An,I 0,I 0]),3,40):=oK
section
variable{B:Nat} {p:Px} {s:St} {S0 S:Sl} {a w:World} {T:Nat->Value} {C:Nat->Cn} {bs:List (Nat×Obj)}
theorem Loc.app3 (h:Loc B p s S0 S a w T C bs) (k:Nat) {n c:Nat} {A:Option Addr} {l:List Value} (r:T k= .slice A n c) (D:C k=(227,3,n,l)) {u u' u2:Value} (J:u.oneCell'=true) (H:u'.oneCell'=true) (G:u2.oneCell'=true) (x:n<=lim):
  ∃j i f,(Builtin.append_ #[29,29] 29 #[.slice A n c,vS w.heap.size 1 1]).run prog (w.alloc (.cells #[u,u',u2] 227))= .ok (.slice j (n+1) i) f/\Loc B p s S0 S a f (CI T k (.slice j (n+1) i)) (CI C k (227,3,n+1,l++[u,u',u2])) bs:=by
 have⟨m,z,q⟩:=Af.1 i227;injection q with q b;injection b with b o;have v:=h.part k;rw[D,r] at v;have⟨L,f,d,q2,q3,q4⟩:=DW (P:=prog) (w.alloc (.cells #[u,u',u2] 227)) a.heap.size 29 29 227 m _ 3 40 u29 z q b o rfl oO _ n l (World.ownsRow.alloc v _) _ _ 1 1 [u,u',u2] (Sz w 227 u u' u2) (fun y t=>by simp at t;rcases t with rfl|rfl|rfl;exact J;exact H;exact G) (by unfold lim at x;unfold maxLen;omega) (by unfold lim at x;omega) (by have:=h.st.size;simp;omega);obtain⟨j,i,rfl⟩:=Cr q2;refine⟨j,i,f,d,h.turn k q2 (by rw[r];exact DP q3) fun g e=>?_⟩;rw[r];rcases q4 with q4|q4
 .exact .inl (q4▸e)
 .rw[q4] at e;injection e with e;simp at e;exact .inr oO
theorem Loc.dropN (h:Loc B p s S0 S a w T C bs) (k:Nat):Loc B p s S0 S a w (CI T k An) (CI C k F1) bs:=
 h.turn k ⟨rfl,.inl ⟨rfl,rfl⟩⟩ (World.grownBy.refl w _) (fun b c=>by cases c)
end
theorem jR {B n b2 e ga ca:Nat} {w:World} {V:Value} {a b:List Int} (h:Ba B w V (3,1,n,b.map I)) (L:n<=10) (M:0<a.length) (f:∀x∈b,0<=x/\x<a.length) (j:a.length<=100)
 (l:w.cell? (ad b2 0)=some (vP e 0)) (G:w.cell? (ad e 8)=some (vQ ga a ca)) (D:∀(i:Nat) v,a[i]?=some v->w.cell? (ad ga i)=some (I v)) (lb:b2<w.heap.size/\e<w.heap.size/\ga<w.heap.size) (u:∀g,V.ownBlock=some g->b2≠g/\e≠g/\ga≠g):
 Cg 115 #[V,.func (.func 116) #[] #[vP b2 0]] w fun J d=>J= .returned (.tuple #[])/\Ba B d V (3,1,n,(b.mergeSort fun x y=>!ltOf (Xi a) y x).map I)/\w.grownBy d V.ownBlock:=by
 rcases Fz h with⟨rfl,rfl,rfl⟩|⟨g,c,rfl,A⟩
 .exact(SY none _).mono fun e d ⟨H,l⟩=>l▸⟨H,by simpa using h,World.grownBy.refl w _⟩
 .have⟨q,o,m⟩:=u g rfl;exact SX h (by unfold lim;omega) A (Xi a) (nD a) (nE a) (fun x=>0<=x/\x<a.length) oO f 116 #[vP b2 0] (enters_of func116 oK rfl) fun W k x y t r=>
   gR ((k.2 b2 0 lb.1 q).trans l) ((k.2 e 8 lb.2.1 o).trans G) (fun i v z=>(k.2 ga i lb.2.2 m).trans (D i v z)) j t r
end
def jg:Sh:= .seq (.seq (.reg 4) (.cond (.tmp 25) .skip (.exit 0))) (.seq (.block 1 (.reg 6)) (.reg 5))
def jh:Sh:= .seq (.reg 10) (.seq (.cond (.tmp 45) .skip (.exit 2)) (.seq (.block 3 (.seq (.reg 11) (.reg 12))) (.reg 13)))
def en0:Sh:= .seq (.reg 0) (.seq (.reg 1) (.seq (.reg 2) (.seq (.seq (.reg 3) (.block 0 (.loop jg))) (.seq (.reg 7) (.seq (.reg 8) (.seq (.seq (.reg 9) (.block 2 (.loop jh))) (.seq (.reg 14) (.seq (.reg 15) .ret))))))))
theorem ji:f46.body=some (en0.code f46):=oK
theorem bo {Y:Nat->Prop} {B c0:Nat} {p:Px} {t:St} {S:Sl} {z w:World} {ps:List (Int×List Int)} {G:Value} {H:Cn} {e i r q b:Nat} {T:Nat->Value} {C:Nat->Cn} {Q:EO} [BZ Q] {f d:List Value} {v s:Value} (h:EJ Y B p t S z ps G H e i r q b f d [v,T 210,s] w T C) (he:S .E=vS e 1 c0) (g:C 210=F1) (hn:t.n<=10)
 (hQ:∀U T1 y,EJ Y B p t S z ps G H e i r q b f d [v,T1 210,s] U T1 y->y 210=(3,1,t.n,(List.range' 1 t.n).map N)->HN f46 (fun a w=>Q .normal a w) [qv 2 i,qv 3 r,qv 4 q,qv 5 b] U):
 HW f46 (.seq (.reg 3) (.block 0 (.loop jg))) Q [qv 2 i,qv 3 r,qv 4 q,qv 5 b] w:=by
 refine Ad<|B8 [] [2,3,4,5,6] [qv 2 i,qv 3 r,qv 4 q,qv 5 b,(6,I 1)]<|Ae (Bd<|Ct (fun m L W=>∃k T C,L=[qv 2 i,qv 3 r,qv 4 q,qv 5 b,(6,N (k+1))]/\EJ Y B p t S z ps G H e i r q b f d [v,T 210,s] W T C/\C 210=(3,1,k,(List.range' 1 k).map N)/\k<=t.n/\m=t.n-k) (n:=t.n) ⟨0,T,C,rfl,h,g,oO,oO⟩ ?_);rintro m L W ⟨k,T,C,rfl,h,g,hk,rfl⟩;have⟨en,_,_,_,_,_,_⟩:=h.h.rep.engF he;refine Ad (Ad ?_);have Z:=h.h.cell 202 h.t2.1 (j:=0) (u:=vP e 0) (by rw[h.t2.2];rfl);by_cases a0:k<t.n
 .have q1:((k+1:Nat):Int)<=(t.n:Int):=oO;have y:Aj [(ad i 0,vP e 0),(ad e 0,N t.n)] W:= .cons Z (.cons en .nil);refine BA [(1,.c 0),(4,.c 1),(5,.T)] [2,3,4,5,6,25] [(25,bT)] (Bo (EE q1)) y<|Ae (Bg rfl (AZ (Ae (Ad (Bd ?_)))));have⟨A,c,D⟩:=h.h.form 210;have D:T 210= .slice A k c:=by rw[D,g]
  have⟨o,l,R,er,h3⟩:=h.h.appI 210 D g ((k+1:Nat):Int) (by unfold lim;omega);have x:=h.slot 210 (.inl rfl) h3;have o5:=h.h.cell 205 h.t5.1 (j:=1) (u:= .slice A k c) (by rw[h.t5.2,D];rfl);have P:=x.h.cell 205 x.t5.1 (j:=1) (u:= .slice A k c) (by rw[x.t5.2,D];rfl);have q2:k+1<maxLen:=by unfold maxLen;omega
  have C2:Aj [(ad b 1,.slice A k c)] W:= .cons o5 .nil;refine AY [Cu 0 3 [(1,.c 0)],.one 3,.one 4,AM 5 1,.one 6]<|DO [2,3,4,5,6,29,30] [(29,.slice A k c),(30,N (k+1))] C2<|Fa 31 25 3 (N (k+1)) (.int .i64 0) oK oK oK oK oK oK (.inr rfl) rfl (.inl oK)<|DY 32 25 25 (.slice A k c) (vS W.heap.size 1 1) oK oK oK oK er (.inl oK)<|AN [2,3,4,5,6,32,33] [(32,.slice o (k+1) l),(33,vP b 1)]<|Cz (.slice o (k+1) l) P (x.h.free 205 x.t5.1 1)<|BG [2,3,4,5,6] ?_;have J:=x.put5 1 [.slice o (k+1) l];have e5:EQ [v,T 210,s] 1 [.slice o (k+1) l]=[v,.slice o (k+1) l,s]:=rfl;rw[e5] at J;change EJ Y B p t S z ps G H e i r q b f d [v,.slice o (k+1) l,s] (R.setCell (ad b 1) (.slice o (k+1) l)) _ _ at J;generalize(R.setCell (ad b 1) (.slice o (k+1) l))=w3 at J⊢;obtain⟨M,O,h6,c6⟩:∃M O,EJ Y B p t S z ps G H e i r q b f d [v,M 210,s] w3 M O/\O 210=(3,1,k+1,(List.range' 1 (k+1)).map N):=
   ⟨CI T 210 (.slice o (k+1) l),CI (CI C 210 (3,1,k+1,(List.range' 1 k).map N++[I ((k+1:Nat):Int)])) 205 (31,3,1,[v,.slice o (k+1) l,s]),by rw[AB];exact J,by rw[Au _ _ oD,AB,List.range'_1_concat];simp[Nat.add_comm]⟩
  refine BN (Ae<|Be [(1,.e (N (k+1+1)))] [2,3,4,5,6] [(6,N (k+1+1))] (Bo (vJ (Ec q2 rfl)))<|BV (BF (m:=t.n-(k+1)) oO ⟨k+1,M,O,rfl,h6,c6,oO,rfl⟩))
 .have q1:¬((k+1:Nat):Int)<=(t.n:Int):=oO;have y:Aj [(ad i 0,vP e 0),(ad e 0,N t.n)] W:= .cons Z (.cons en .nil);refine BA [(1,.c 0),(4,.c 1),(5,.F)] [2,3,4,5,6,25] [(25,bF)] (Bo (Er q1)) y ?_;obtain rfl:k=t.n:=oO;exact Ae (B1 rfl (BQ (Bc nX (B6 nX (Ck (BV (hQ W T C h g)))))))
def LR (t:St) (b:Nat->Int) (K:Nat) (T:Nat->Value) (C:Nat->Cn) (i:Nat) (a:List Value):Prop:=
 a.length=i*3/\∀j c k,j<i->t.Q[j]?=some c->t.K[c]?=some k->a[3*j]?=some (T (K+j))/\a[3*j+1]?=some (I (b c))/\a[3*j+2]?=some (I (min k.X 1099511627776))/\C (K+j)=(3,1,k.l.length,k.l.map I)
variable{t:St} {T:Nat->Value} {C:Nat->Cn}
theorem LR.push {b:Nat->Int} {K:Nat} {g:Nat->Value} {m:Nat->Cn} {i c:Nat} {k:Cl} {a:List Value} (h:LR t b K T C i a) (r:t.Q[i]?=some c) (q:t.K[c]?=some k) (n:∀j,j<i->g (K+j)=T (K+j)/\m (K+j)=C (K+j)) (s:m (K+i)=(3,1,k.l.length,k.l.map I)):
  LR t b K g m (i+1) (a++[g (K+i),I (b c),I (min k.X 1099511627776)]):=by
 have⟨p,h⟩:=h;refine⟨by simp[p];omega,fun j z o A f d=>?_⟩;by_cases e:j<i
 .have⟨y,x,v,u⟩:=h j z o e f d;rw[(n j e).1,(n j e).2];exact⟨by rw[AW oO];exact y,by rw[AW oO];exact x,by rw[AW oO];exact v,u⟩
 .obtain rfl:j=i:=oO;rw[r] at f;obtain rfl:=Ah f;rw[q] at d;obtain rfl:=Ah d;exact⟨by rw[BR oO];simp[show 3*j-a.length=0 by omega],by rw[BR oO];simp[show 3*j+1-a.length=1 by omega],by rw[BR oO];simp[show 3*j+2-a.length=2 by omega],s⟩
def jB (L:Sts) (o:Oper):Option (Int×Int):=
 match o.op with
 | .call ⟨.builtin .min,args,tys⟩=>match args.toList,tys.toList with
  |[x,y],[3,3]=>match ev L x,ev L y with
   |some (.int .i64 u),some (.int .i64 v)=>some (u,v)
   |_,_=>none
  |_,_=>none
 |_=>none
theorem Nz {L:Sts} {o:Oper} {x y:Int} {w:World} (c:jB L o=some (x,y)):(execOp (I6 L) o).run prog w= .ok (.value (I (min x y))) w:=by
 have⟨z,A,i,j,h,guard⟩:=o;unfold jB at c;simp only at c;split at c
 case h_2=>cases c
 rename_i f g;split at c
 case h_2=>cases c
 rename_i a b d e;split at c
 case h_2=>cases c
 rename_i u v l k;injection c with c;injection c with s r;subst s r;have n:f=#[a,b]:=by
  apply Ch;simpa using d
 have m:g=#[3,3]:=by
  apply Ch;simpa using e
 subst n m;have q:I6 L a=I u:=by unfold I6;rw[l];rfl
 have p:I6 L b=I v:=by unfold I6;rw[k];rfl
 simp[execOp,resolve,q,p,invoke,builtin,Ay];rw[run_min_int2];simp only[Am];congr 3;split<;>omega
theorem EJ.drew {Y:Nat->Prop} {B:Nat} {p:Px} {t:St} {S:Sl} {d W:World} {ps:List (Int×List Int)} {k:Value} {l:Cn} {e j i g f:Nat} {c b a:List Value} {T:Nat->Value} {C:Nat->Cn} (h:EJ Y B p t S d ps k l e j i g f c b a W T C):EJ Y B p t S d ps k l e j i g f c b a W.drew T C:=
 ⟨h.h.drew,h.pf,h.o,h.t2,h.t3,h.t4,h.t5⟩
theorem bG {Y:Nat->Prop} {B c0:Nat} {p:Px} {S:Sl} {w0 w:World} {ps:List (Int×List Int)} {V4:Value} {K4:Cn} {e M o J H:Nat} {Q:EO} [BZ Q] {z y:List Value} {v0 v1 v3 v4 v5 v6 v7 U:Value} {Z:Cn} (h:EJ Y B p t S w0 ps V4 K4 e M o J H [v0,v1,T 211,v3,v4,v5,v6,v7] z y w T C) (he:S .E=vS e 1 c0) (A:C 211=(227,3,0,[])) (t10:T 210=U/\C 210=Z) (hL:IR t) (a8:t.Q.length<=lim) (b1:IN t)
 (hQ:∀w1 T1 C1 D,EJ Y B p t S w0 ps V4 K4 e M o J H [v0,v1,T1 211,v3,v4,v5,v6,v7] z y w1 T1 C1->(T1 210=U/\C1 210=Z)->C1 211=(227,3,t.Q.length,D)->LR t p.lev (1000+ps.length) T1 C1 t.Q.length D->HN f46 (fun a w=>Q .normal a w) [qv 2 M,qv 3 o,qv 4 J,qv 5 H] w1):
 HW f46 (.seq (.reg 9) (.block 2 (.loop jh))) Q [qv 2 M,qv 3 o,qv 4 J,qv 5 H] w:=by
 refine Ad ?_;have o2:=h.h.cell 202 h.t2.1 (j:=0) (u:=vP e 0) (by rw[h.t2.2];rfl);have⟨a5,R,a3,c4,_,e1,e0⟩:=h.h.rep.learntE he;have C0:Aj _ w:= .cons o2 (.cons c4 .nil);refine Fi [(0,.c 0),(3,.c 1)] [2,3,4,5,42,43,44] [qv 2 M,qv 3 o,qv 4 J,qv 5 H,(42,sq a5 t.Q R),(43,N t.Q.length),(44,I 0)] C0<|Ae (Bd<|Ct (fun m L W=>∃i T C D,L=[qv 2 M,qv 3 o,qv 4 J,qv 5 H,(42,sq a5 t.Q R),(43,N t.Q.length),(44,N i)]/\EJ Y B p t S w0 ps V4 K4 e M o J H [v0,v1,T 211,v3,v4,v5,v6,v7] z y W T C/\(T 210=U/\C 210=Z)/\C 211=(227,3,i,D)/\LR t p.lev (1000+ps.length) T C i D/\i<=t.Q.length/\m=t.Q.length-i) (n:=t.Q.length) ⟨0,T,C,[],rfl,h,t10,A,⟨rfl,fun j c k hj=>oO⟩,oO,oO⟩ ?_);rintro m L W ⟨i,T,C,D,rfl,h,t10,A,hR,hi,rfl⟩;refine Ad ?_;by_cases a7:i<t.Q.length
 .have q1:(i:Int)<(t.Q.length:Int):=oO;refine Be [(0,.T)] [2,3,4,5,42,43,44,45] [(45,bT)] (Bo (EE q1))<|Ae (Ad<|Bg rfl (AZ (Ae (Ad (Bd (Ad ?_))))));have⟨gl,cl,a0,_,_,_,a6,_,_,_⟩:=h.h.rep.learntA he oO;rw[a3] at a0;injection a0 with b8 _ b0;subst b8 b0;obtain⟨c,hc⟩:∃v,t.Q[i]?=some v:=⟨_,Ab a7⟩;obtain⟨k,hk⟩:∃v,t.K[c]?=some v:=⟨_,Ab (hL c (AQ hc))⟩;have⟨g,cap,e2,hP,d0,_,d2,d3,_,_⟩:=h.h.rep.clA hk;have ov:W.cell? (ad gl i)=some (vP g 0):=(a6 i c hc).trans (congrArg some hP);have s:=h.h.rep.part (.lit c);simp only[cont,hk] at s;have⟨AU,kU,hU⟩:=Cr s;rw[hU] at d0 s;have a9:=(b1 c k hk).1;have q2:i<maxLen:=by unfold lim at a8;unfold maxLen;omega
  have C1:Aj _ W:= .cons ov .nil;refine BA [(1,.c 0)] [2,3,4,5,8,42,43,44] [qv 8 g,(42,vQ gl t.Q R)] (Bo (oO:oX i t.Q.length)) C1<|Ae ?_;have⟨q,d,f⟩:=h.h.form 211;have f:T 211= .slice q i d:=by rw[f,A]
  have o3:=h.h.cell 203 h.t3.1 (j:=2) (u:= .slice q i d) (by rw[h.t3.2,f];rfl);have mc:=KR (w:=W.drew) s.rd a9;have C2:Aj _ W.drew:= .cons o3 (.cons d0 (.cons d2 (.cons d3 .nil)));refine Dr (O:=[(∀w',CR (some (Aj [(ad o 2,.slice q i d),(ad g 0,sq AU k.l kU),(ad g 2,I (p.lev c)),(ad g 3,I k.X)])) W.drew w'->(execOp (I6 [(62,I k.X),(61,vP g 3),qv 60 g,qv 59 g,(58,I (p.lev c)),(57,vP g 2),qv 56 g,qv 55 g,(53,sq AU k.l kU),qv 52 g,qv 51 g,qv 50 g,(49,.slice q i d),(48,vP o 2),qv 2 M,qv 3 o,qv 4 J,qv 5 H,qv 8 g,(42,vQ gl t.Q R),(43,N t.Q.length),(44,N i)]) (B5 (Bt f46 12) 15)).run prog w'= .ok (.value (I (min k.X 1099511627776))) w')]) [20] [(0,.p),(1,.c 0),(2,.p),(3,.p),(4,.p),(5,.c 1),(7,.p),(8,.p),(9,.p),(10,.c 2),(11,.p),(12,.p),(13,.p),(14,.c 3),(15,.r (I (min k.X 1099511627776)))] [.one 6,.one 16,.one 17,.one 18,.qs [(19,.p)],.one 20] [2,3,4,5,8,42,43,44,49,53,58,63] [(49,.slice q i d),(53,sq AU k.l kU),(58,I (p.lev c)),(63,I (min k.X 1099511627776))] ⟨(fun w' _=>Nz oK),trivial⟩ C2<|BW 54 (mc.mono ?_);rintro en w7 ⟨V7,rfl,a1,b7⟩;obtain⟨A7,c7,rfl⟩:=Cr a1;refine⟨_,rfl,.inr (fun hS=>Aj.below hS b7),?_⟩;have h7:=h.drew.slot (1000+ps.length+i) (.inr (.inr oO)) (h.h.drew.gain (h.h.rep.drew.still b7).1 (h.h.rep.drew.still b7).2 (1000+ps.length+i) a1 (fun b hb r hr=>by
   have:=(Ax a1 b hb).1;have:=(h.h.rep.lo hr).2;have:W.drew.heap.size=W.heap.size:=rfl;omega))
  refine Il 64 (v:= .agg #[sq A7 k.l c7,I (p.lev c),I (min k.X 1099511627776)]) (w':=w7) oK oK oK oK oK (.inr id)<|Il 65 (v:=vS w7.heap.size 1 1) (w':=w7.alloc (.cells #[sq A7 k.l c7,I (p.lev c),I (min k.X 1099511627776)] 227)) oK oK oK oK oK (.inr (fun hS=>Aj.alloc hS _)) ?_;have⟨P,G,w8,c3,b9⟩:=h7.h.app3 211 (u:= sq A7 k.l c7) (u':=I (p.lev c)) (u2:=I (min k.X 1099511627776)) ((Au _ _ oO).trans f) ((Au _ _ oO).trans A) rfl rfl rfl oO;have h8:=h7.slot 211 (.inr (.inl rfl)) b9;have a2:=h8.h.cell 203 h8.t3.1 (j:=2) (u:= .slice q i d) (by rw[h8.t3.2,f];rfl);have⟨c2,_,_,x,a4,_,c9,c6,_,_⟩:=h8.h.rep.clA hk;obtain rfl:g=c2:=by
   rw[hP] at x;injection x with x;injection x with x;injection x
  rw[hU] at a4;have C8:Aj _ w8:= .cons a2 (.cons a4 (.cons c9 (.cons c6 .nil)));refine DY 66 29 29 (.slice q i d) (vS w7.heap.size 1 1) oK oK oK oK c3 (.inr (fun _=>C8))<|FW (O:=[]) _ [2,3,4,5,8,42,43,44,66,67] [(66,.slice P (i+1) G),(67,vP o 2)] trivial C8 (fun _ h=>h)<|Cz (.slice P (i+1) G) a2 (h8.h.free 203 h8.t3.1 2)<|BG [2,3,4,5,8,42,43,44] ?_;have h9:=h8.put3 2 [.slice P (i+1) G];have e9:EQ [v0,v1,T 211,v3,v4,v5,v6,v7] 2 [.slice P (i+1) G]=[v0,v1,.slice P (i+1) G,v3,v4,v5,v6,v7]:=rfl;change EJ Y B p t S w0 ps V4 K4 e M o J H [v0,v1,.slice P (i+1) G,v3,v4,v5,v6,v7] z y (w8.setCell (ad o 2) (.slice P (i+1) G)) _ _ at h9;generalize(w8.setCell (ad o 2) (.slice P (i+1) G))=w9 at h9⊢;obtain⟨T5,C5,c1,t105,c5,b6⟩:∃T5 C5,EJ Y B p t S w0 ps V4 K4 e M o J H [v0,v1,T5 211,v3,v4,v5,v6,v7] z y w9 T5 C5/\(T5 210=U/\C5 210=Z)/\C5 211=(227,3,i+1,D++[T5 (1000+ps.length+i),I (p.lev c),I (min k.X 1099511627776)])/\LR t p.lev (1000+ps.length) T5 C5 (i+1) (D++[T5 (1000+ps.length+i),I (p.lev c),I (min k.X 1099511627776)]):=by
   have eT:∀v v',CI (CI T (1000+ps.length+i) v) 211 v' (1000+ps.length+i)=v:=fun v v'=>by rw[Au _ _ oO,AB]
   refine⟨CI (CI T (1000+ps.length+i) (sq A7 k.l c7)) 211 (.slice P (i+1) G),CI (CI (CI C (1000+ps.length+i) (3,1,k.l.length,k.l.map I)) 211 (227,3,i+1,D++[sq A7 k.l c7,I (p.lev c),I (min k.X 1099511627776)])) 203 (35,8,1,[v0,v1,.slice P (i+1) G,v3,v4,v5,v6,v7]),(by rw[AB];exact h9),⟨?_,?_⟩,?_,hR.push hc hk (fun j hj=>⟨?_,?_⟩) ?_⟩
   .rw[Au _ _ oO,Au _ _ oO];exact t10.1
   .rw[Au _ _ oO,Au _ _ oO,Au _ _ oO];exact t10.2
   .rw[Au _ _ oO,AB,eT]
   .rw[Au _ _ oO,Au _ _ oO]
   .rw[Au _ _ oO,Au _ _ oO,Au _ _ oO]
   .rw[Au _ _ oO,Au _ _ oO,AB]
  refine BN (Ae<|Be [(0,.e (N (i+1)))] [2,3,4,5,42,43,44] [(44,N (i+1))] (Bo (vJ (Ec q2 rfl)))<|BV (BF (m:=t.Q.length-(i+1)) oO ⟨i+1,T5,C5,_,rfl,c1,t105,c5,b6,oO,rfl⟩))
 .have q1:¬(i:Int)<(t.Q.length:Int):=oO;refine Be [(0,.F)] [2,3,4,5,42,43,44,45] [(45,bF)] (Bo (Er q1))<|Ae (Ad ?_);obtain rfl:i=t.Q.length:=oO;exact B1 rfl (BQ (Bc nX (B6 nX (Ck (BV (hQ W T C D h t10 A hR))))))
section
def F8 (Y:Nat->Prop) (w A:World):Prop:=w.heap.size<=A.heap.size/\∀b,b<w.heap.size->Y b->A.heap[b]?=w.heap[b]?
theorem F8.refl (Y:Nat->Prop) (w:World):F8 Y w w:=⟨Ai _,fun _ _ _=>rfl⟩
theorem F8.below {Y:Nat->Prop} {w A:World} (h:Bl w A):F8 Y w A:=⟨h.size,fun b a _=>h.block b a⟩
theorem F8.trans {Y:Nat->Prop} {w a A:World} (h:F8 Y w a) (k:F8 Y a A):F8 Y w A:=⟨Bj h.1 k.1,fun b e c=>(k.2 b (Bx e h.1) c).trans (h.2 b e c)⟩
variable{V:Value}
theorem Ie.step {Y:Nat->Prop} {w A:World} {z n:Nat} {a:List Value} (h:Ie Y w V z n a) (i:F8 Y w A):Ie Y A V z n a:=by
 refine⟨⟨h.1.1,?_⟩,h.2⟩;rcases h.1.2 with q|⟨g,o,c,e,b,l⟩
 .exact .inl q
 .exact .inr ⟨g,o,c,e,Bx b i.1,fun j u k=>(Gs (i.2 g b (h.2 _ _ _ _ e)) _).trans (l j u k)⟩
theorem Ie.imp {Y i:Nat->Prop} {w:World} {z n:Nat} {a:List Value} (h:Ie Y w V z n a) (k:∀b,Y b->i b):Ie i w V z n a:=⟨h.1,fun g o j c e=>k _ (h.2 g o j c e)⟩
theorem Ba.rdo {Y:Nat->Prop} {M:Nat} {w:World} {x:Cn} (h:Ba M w V x) (i:∀b,M<=b->Y b):Ie Y w V x.2.1 x.2.2.1 x.2.2.2:=by
 refine⟨h.rd,fun g o k c e=>?_⟩;rcases h.2 with⟨a,_⟩|⟨l,_,_,a,j,_⟩
 .rw[e] at a;cases a
 .rw[e] at a;injection a with a _ _;injection a with a;injection a with a _ _;exact i _ (a▸j)
structure Wx (Y:Nat->Prop) (w:World) (x:Sv) (ps:List (Int×List Int)) (d m B f vP vR:Value):Prop where
 g:∃rows,Ie Y w d 1 x.G.length rows/\∀(i:Nat) l,x.G[i]?=some l->∃U,rows[i]?=some U/\Ie Y w U 1 l.length (l.map I)
 l:∃rows,Ie Y w m 3 x.Q.length rows/\∀(i:Nat) l lv a,x.Q[i]?=some (l,lv,a)->∃U,rows[3*i]?=some U/\rows[3*i+1]?=some (I lv)/\rows[3*i+2]?=some (I a)/\Ie Y w U 1 l.length (l.map I)
 a:Ie Y w B 1 x.X.length (x.X.map I)
 o:Ie Y w f 1 x.O.length (x.O.map N)
 p:Ie Y w vP 1 x.F.length (x.F.map Value.bool)
 r:∃rows,Ie Y w vR 2 ps.length rows/\Hh (fun V l=>Ie Y w V 1 l.length (l.map I)) rows ps
 cg:∃A c,d= sq A x.G c/\x.G.length<=c
 cr:∃A c,vR= sq A ps c/\ps.length<=c
section
variable{Y Y':Nat->Prop} {w A:World} {x:Sv} {ps:List (Int×List Int)} {d m B f vP vR:Value}
theorem Wx.sv (h:Wx Y w x ps d m B f vP vR):Na w x ps d m B f vP vR where
 g:=by
  have⟨b,j,c⟩:=h.g;exact⟨b,j.1,fun i l k=>by have⟨U,e,r⟩:=c i l k;exact⟨U,e,r.1⟩⟩
 l:=by
  have⟨b,j,c⟩:=h.l;exact⟨b,j.1,fun i l n a k=>by have⟨U,u,t,q,r⟩:=c i l n a k;exact⟨U,u,t,q,r.1⟩⟩
 a:=h.a.1
 o:=h.o.1
 p:=h.p.1
 r:=by
  have⟨b,j,c⟩:=h.r;exact⟨b,j.1,c.mono fun V l r=>r.1⟩
 cg:=h.cg
 cr:=h.cr
theorem Wx.map (h:Wx Y w x ps d m B f vP vR) (c:∀{V z n t},Ie Y w V z n t->Ie Y' A V z n t):Wx Y' A x ps d m B f vP vR where
 g:=by
  have⟨b,k,j⟩:=h.g;exact⟨b,c k,fun i l q=>by have⟨U,e,r⟩:=j i l q;exact⟨U,e,c r⟩⟩
 l:=by
  have⟨b,k,j⟩:=h.l;exact⟨b,c k,fun i l u a q=>by have⟨U,D,y,v,r⟩:=j i l u a q;exact⟨U,D,y,v,c r⟩⟩
 a:=c h.a
 o:=c h.o
 p:=c h.p
 r:=by
  have⟨b,k,j⟩:=h.r;exact⟨b,c k,j.mono fun V l r=>c r⟩
 cg:=h.cg
 cr:=h.cr
theorem Wx.step (h:Wx Y w x ps d m B f vP vR) (a:F8 Y w A):Wx Y A x ps d m B f vP vR:=h.map fun r=>r.step a
end
variable{p:Px} {s:St} {S:Sl} {o:World}
theorem Pf.lines {Y g:Nat->Prop} {B:Nat} {w:World} {L:List (Nat×Obj)} (h:Loc B p s noS S o w T C L) {v:Value} {ps:List (Int×List Int)} (z:Pf Y o T C v ps) (u:∀b,Y b->g b) (y:∀b,o.heap.size<=b->g b):(∃a,Ie g w v 2 ps.length a/\Hh (fun V l=>Ie g w V 1 l.length (l.map I)) a ps)/\∃A c,v= sq A ps c/\ps.length<=c:=by
 have⟨i,G,D⟩:=z;have t:Hh (fun V l=>Ie g w V 1 l.length _) i ps:=G.mono fun V l k=>by
  rcases k with k|⟨j,_,q,n⟩
  .exact(k.step (F8.below h.bel)).imp u
  .have:=h.part (1000+j);rw[q,n] at this;exact this.rdo y
 rcases D with⟨q,n⟩|⟨_,_,⟨A,J⟩,H⟩
 .have:=h.part 99;rw[q,n] at this;have⟨A,c,r⟩:=Cr this;have e:=this;rw[r] at e;exact⟨⟨i,this.rdo y,t⟩,A,c,r,(EV e).1⟩
 .exact⟨⟨i,(H.step (F8.below h.bel)).imp u,t⟩,A,_,J,Ai _⟩
theorem RJ {B:Nat} {w:World} {g:List (Nat×Obj)} (h:Loc B p s noS S o w T C g) (r:Ro):Ba o.heap.size w (S r) (cont p s S r):=
 (h.rep.part r).mono fun b c=>⟨by
  rcases h.st.own r b c with⟨t,a⟩|e
  .cases a
  .exact e,rfl⟩
def im (x:Sv) (t:St) (Y:Nat->Prop) (o:World) (d i:Value) (j:Cn) (ps:List (Int×List Int)) (h:Ending) (b:World):Prop:=
 ∃g a m B f e vR,h= .returned (.agg #[N x.n,d,m,B,f,I t.J,e,vR])/\a.Perm (List.range' 1 x.n)/\Wx Y b (Sc x t g a) ps d m B f e vR/\Bl o b/\(∀n c,j=(3,1,n,c)->Ie Y b i 1 n c)
theorem Ye (n:Nat) (a:List Int):∃b:List Nat,b.Perm (List.range' 1 n)/\(((List.range' 1 n).map fun v:Nat=>(v:Int)).mergeSort fun x y=>!ltOf (Xi a) y x).map I=b.map N:=by
 refine⟨(((List.range' 1 n).map fun v:Nat=>(v:Int)).mergeSort fun x y=>!ltOf (Xi a) y x).map Int.toNat,?_,?_⟩
 .have:=(List.mergeSort_perm ((List.range' 1 n).map fun v:Nat=>(v:Int)) fun x y=>!ltOf (Xi a) y x).map Int.toNat;rw[EN] at this;have e:(Int.toNat∘fun v:Nat=>(v:Int))=id:=by funext v;simp
  rw[e,List.map_id] at this;exact this
 .rw[EN];refine Di fun y c=>?_
  obtain⟨v,_,rfl⟩:=BB.1 (List.mem_mergeSort.1 c);simp
theorem am {Y Y':Nat->Prop} {wB:World} {x:Sv} {ps i9:List (Int×List Int)} {d m B f vF vR:Value} {w:World} {t:St} {e c0 i5:Nat} (h:Loc wB.heap.size p s noS S o w T C []) (he:S .E=vS e 1 c0) (h9:Pf Y o T C p.proof ps) (hx:Jw x) (hs:Wx Y o x i9 d m B f vF vR) (hY:∀b,Y b->Y' b) (hM:∀b,o.heap.size<=b->Y' b)
 (j2:GD s 0=some t) (hE:Km x.n i5 t) (hC:i5<=lim):
 Cg 46 #[vP e 0,.agg #[N x.n,d,m,B,f,I x.J,vF,vR]] w (im x t Y' o d (T 4) (C 4) ps):=by
 have j3:=hx.few;have g9:=hE.n;have j0:d.oneCell'=true:=by have⟨_,hr,_⟩:=hs.g;exact hr.1.one
 refine CN ji ?_;show HW f46 en0 _ [qv 0 e,(1,.agg #[N x.n,d,m,B,f,I x.J,vF,vR])] w;refine Ad<|AY [.one 0,.one 1,.one 2]<|CH 2 (vP w.heap.size 0) (w.alloc (.cells #[vP e 0] 136)) ?_;have c5:Loc wB.heap.size p s noS S o (w.alloc (.cells #[vP e 0] 136)) (CI T 202 (vS w.heap.size 1 1)) (CI C 202 (136,1,1,[vP e 0])) []:=h.newN 202 136 [vP e 0];generalize w.heap.size=b2 at c5⊢;generalize(w.alloc (.cells #[vP e 0] 136))=w1 at c5⊢;refine CH 3 (vP w1.heap.size 0) (w1.alloc (.cells #[N x.n,d,m,B,f,I x.J,vF,vR] 35)) ?_;have c4:Loc wB.heap.size p s noS S o (w1.alloc (.cells #[N x.n,d,m,B,f,I x.J,vF,vR] 35)) (CI (CI T 202 (vS b2 1 1)) 203 (vS w1.heap.size 1 1)) (CI (CI C 202 (136,1,1,[vP e 0])) 203 (35,8,1,[N x.n,d,m,B,f,I x.J,vF,vR])) []:=c5.newN 203 35 [N x.n,d,m,B,f,I x.J,vF,vR];generalize w1.heap.size=b3 at c4⊢;generalize(w1.alloc (.cells #[N x.n,d,m,B,f,I x.J,vF,vR] 35))=w2 at c4⊢;refine CH 4 (vP w2.heap.size 0) (w2.alloc (.cells #[I 0,An,An,An,An,I 0,An,An] 35)) ?_;have c3:Loc wB.heap.size p s noS S o (w2.alloc (.cells #[I 0,An,An,An,An,I 0,An,An] 35)) (CI (CI (CI T 202 (vS b2 1 1)) 203 (vS b3 1 1)) 204 (vS w2.heap.size 1 1)) (CI (CI (CI C 202 (136,1,1,[vP e 0])) 203 (35,8,1,[N x.n,d,m,B,f,I x.J,vF,vR])) 204 (35,8,1,[I 0,An,An,An,An,I 0,An,An])) []:=c4.newN 204 35 [I 0,An,An,An,An,I 0,An,An];generalize w2.heap.size=b4 at c3⊢;generalize(w2.alloc (.cells #[I 0,An,An,An,An,I 0,An,An] 35))=w3 at c3⊢;refine BG [2,3,4] ?_;obtain⟨T3,C3,h3,g7,o3,t2,t3,t4⟩:∃T3 C3,Loc wB.heap.size p s noS S o w3 T3 C3 []/\Pf Y o T3 C3 p.proof ps/\(T3 4=T 4/\C3 4=C 4)/\(T3 202=vS b2 1 1/\C3 202=(136,1,1,[vP e 0]))/\(T3 203=vS b3 1 1/\C3 203=(35,8,1,[N x.n,d,m,B,f,I x.J,vF,vR]))/\(T3 204=vS b4 1 1/\C3 204=(35,8,1,[I 0,An,An,An,An,I 0,An,An])):=by
  refine⟨_,_,c3,h9.same fun i hi=>⟨?_,?_⟩,⟨?_,?_⟩,⟨?_,?_⟩,⟨?_,?_⟩,⟨AB _ _ _,AB _ _ _⟩⟩
  .rw[Au _ _ oO,Au _ _ oO,Au _ _ oO]
  .rw[Au _ _ oO,Au _ _ oO,Au _ _ oO]
  .rw[Au _ _ oO,Au _ _ oO,Au _ _ oO]
  .rw[Au _ _ oO,Au _ _ oO,Au _ _ oO]
  .rw[Au _ _ oO,Au _ _ oO,AB]
  .rw[Au _ _ oO,Au _ _ oO,AB]
  .rw[Au _ _ oO,AB]
  .rw[Au _ _ oO,AB]
 clear c5 c4 c3 h h9;refine Ae (Ad ?_);have bc:=NY h3.rep he 0 j2;have o2:=h3.cell 202 t2.1 (j:=0) (u:=vP e 0) (by rw[t2.2];rfl);have C1:Aj [(ad b2 0,vP e 0)] w3:= .cons o2 .nil;refine AY [Cu 0 1 [(0,.c 0)],.one 1]<|DO [2,3,4,9] [qv 9 e] C1<|BW 10 (bc.mono ?_);rintro en w4 ⟨rfl,S3,i1,r3,g5⟩;refine⟨_,rfl,.inl oK,?_⟩;have h4:=h3.E r3 g5;have a5:S3 .E=vS e 1 c0:=(i1 .E oS).trans he;clear C1 o2 bc r3 g5 i1 he h3;refine BG [2,3,4] ?_;have i0:=hE.h.X;rw[g9] at i0;have⟨Z,ca,e4,e8,_,_,ra,_,le,c1⟩:=h4.rep.actA a5 oO;have⟨_,_,e9,_,_,_,_⟩:=h4.rep.engF a5;have o2:=h4.cell 202 t2.1 (j:=0) (u:=vP e 0) (by rw[t2.2];rfl);refine Ae (Ad ?_);have C2:Aj [(ad b2 0,vP e 0),(ad e 8,vQ Z t.X ca),(ad e 9,I t.J)] w4.drew:= .cons o2 (.cons e8 (.cons e9 .nil));refine Dr (O:=[(∀w',CR (some (Aj [(ad b2 0,vP e 0),(ad e 8,vQ Z t.X ca),(ad e 9,I t.J)])) w4.drew w'->(execOp (I6 [(18,I t.J),(17,vP e 9),qv 16 e,qv 15 e,(14,vQ Z t.X ca),(13,vP e 8),qv 12 e,qv 11 e,qv 2 b2,qv 3 b3,qv 4 b4]) (B5 (Bt f46 2) 8)).run prog w'= .ok (.value (.agg #[vQ Z t.X ca,An,I t.J])) w')]) [10] (Gi [(0,.c 0),(3,.c 1),(4,.c 0),(7,.c 2),(8,.r (.agg #[vQ Z t.X ca,An,I t.J]))] 0 9) [.one 9,.one 10] [2,3,4,19] [(19,.agg #[vQ Z t.X ca,An,I t.J])] ⟨(fun w' _=>oK),trivial⟩ C2<|Il 5 (v:=vP w4.drew.heap.size 0) (w':=w4.drew.alloc (.cells #[An,An,I 0] 31)) oK oK oK oK oK (.inr (fun hS=>Aj.alloc hS _)) ?_;have h5:Loc wB.heap.size p t noS S3 o (w4.drew.alloc (.cells #[An,An,I 0] 31)) (CI T3 205 (vS w4.drew.heap.size 1 1)) (CI C3 205 (31,3,1,[An,An,I 0])) []:=h4.drew.newN 205 31 [An,An,I 0];generalize w4.drew.heap.size=b5 at h5⊢;generalize(w4.drew.alloc (.cells #[An,An,I 0] 31))=w5 at h5⊢;have g0:=h5.there 205 (AB _ _ _) 0 3 (by rw[AB];exact Ai 3);have h6:=Loc.putN 205 (AB _ _ _) [vQ Z t.X ca,An,I t.J] 0 h5;rw[AB,GG] at h6;have e6:EQ (31,3,1,[An,An,I 0]).2.2.2 0 [vQ Z t.X ca,An,I t.J]=[vQ Z t.X ca,An,I t.J]:=rfl;rw[e6] at h6;change Loc wB.heap.size p t noS S3 o _ _ (CI C3 205 (31,3,1,[vQ Z t.X ca,An,I t.J])) [] at h6;refine De 31 [vQ Z t.X ca,An,I t.J] (by rfl) g0<|BG [2,3,4,5] ?_;obtain⟨T6,C6,j6,a3,t10⟩:∃T6 C6,EJ Y wB.heap.size p t S3 o ps (T 4) (C 4) e b2 b3 b4 b5 [N x.n,d,m,B,f,I x.J,vF,vR] [I 0,An,An,An,An,I 0,An,An] [vQ Z t.X ca,T6 210,I t.J] (w5.setCells b5 0 [vQ Z t.X ca,An,I t.J]) T6 C6/\C6 210=F1/\T6 210=An:=by
  have h7:=h6.dropN 210;refine⟨_,_,⟨h7,g7.same fun i hi=>⟨?_,?_⟩,⟨?_,?_⟩,⟨?_,?_⟩,⟨?_,?_⟩,⟨?_,?_⟩,⟨?_,?_⟩⟩,AB _ _ _,AB _ _ _⟩
  .rw[Au _ _ oO,Au _ _ oO]
  .rw[Au _ _ oO,Au _ _ oO]
  .rw[Au _ _ oO,Au _ _ oO];exact o3.1
  .rw[Au _ _ oO,Au _ _ oO];exact o3.2
  .rw[Au _ _ oO,Au _ _ oO];exact t2.1
  .rw[Au _ _ oO,Au _ _ oO];exact t2.2
  .rw[Au _ _ oO,Au _ _ oO];exact t3.1
  .rw[Au _ _ oO,Au _ _ oO];exact t3.2
  .rw[Au _ _ oO,Au _ _ oO];exact t4.1
  .rw[Au _ _ oO,Au _ _ oO];exact t4.2
  .rw[Au _ _ oO,AB]
  .rw[Au _ _ oO,AB,AB]
 generalize(w5.setCells b5 0 [vQ Z t.X ca,An,I t.J])=w6 at j6⊢;clear h4 h5 h6 g0 e8 e9 o2 C2 ra le c1 t2 t3 t4 g7 o3;refine Ae (Ad (bo j6 a5 a3 oO fun w7 T7 C7 j7 a3=>?_));clear j6 t10;refine Ae (Ad ?_);have⟨D,z,a2⟩:=j7.h.form 210;have a2:T7 210= .slice D t.n z:=by rw[a2,a3]
 have⟨j4,j5,c9,e8,_,_,ra,_,le,c1⟩:=j7.h.rep.actA a5 oO;rw[e4] at c9;injection c9 with g1 _ g2;injection g1 with g1;injection g1 with g1;subst g1 g2;have o2:=j7.h.cell 202 j7.t2.1 (j:=0) (u:=vP e 0) (by rw[j7.t2.2];rfl);have o5:=j7.h.cell 205 j7.t5.1 (j:=1) (u:= .slice D t.n z) (by rw[j7.t5.2,a2];rfl);have p10:=j7.h.part 210;rw[a3] at p10;have ep:(List.range' 1 t.n).map N=((List.range' 1 t.n).map fun v:Nat=>(v:Int)).map I:=by rw[EN];rfl
 rw[ep] at p10;have sc:=jR (b2:=b2) (e:=e) (ga:=Z) (ca:=ca) (a:=t.X) p10 oO oO (fun y hy=>by
  obtain⟨v,hv,rfl⟩:=BB.1 hy;have:=List.mem_range'_1.1 hv;omega) oO o2 e8 ra ⟨(j7.h.lo (k:=202) (b:=b2) (by rw[j7.t2.1];rfl)).2,le,c1⟩ (fun g hg=>⟨fun hh=>j7.h.apart 202 210 g oD (by rw[j7.t2.1,hh];rfl) hg,fun hh=>j7.h.out 210 g hg .E (by rw[a5,hh];rfl),fun hh=>j7.h.out 210 g hg .X (by rw[e4,hh];rfl)⟩)
 rw[a2] at sc;have i7:Aj [(ad b5 1,.slice D t.n z)] w7:= .cons o5 .nil;refine AY [Cu 0 3 [(1,.c 0)],.one 3]<|DO [2,3,4,5,35,36] [(35,.slice D t.n z),(36,.func (.func 116) #[] #[vP b2 0])] i7<|BW 37 (sc.mono ?_);rintro en w8 ⟨rfl,e0,i3⟩;refine⟨_,rfl,.inl oK,?_⟩;have⟨a6,c8,e3⟩:=Ye t.n t.X;rw[e3] at e0;have h8:=j7.h.turn 210 e0 (by rw[a2];exact i3) (fun b hb=> .inl (by rw[a2];exact hb));have j8:=j7.slot 210 (.inl rfl) h8;rw[<-a2,EZ] at j8;clear sc p10 o5 o2 e8 ra le c1 i7 h8 e0 i3;refine BG [2,3,4,5] ?_;have b8:=AB C7 210 (3,1,t.n,a6.map N);generalize CI C7 210 (3,1,t.n,a6.map N)=C8 at j8 b8;clear j7 a3;refine Ae (Ad ?_);have o3:=j8.h.cell 203 j8.t3.1 (j:=2) (u:=m) (by rw[j8.t3.2];rfl);refine AY [AM 0 1,.one 1]<|AN [2,3,4,5,38] [(38,vP b3 2)]<|Cz (.slice none 0 0) o3 (j8.h.free 203 j8.t3.1 2)<|BG [2,3,4,5] ?_;have j9:=j8.put3 2 [An];have i2:=j9.h.turn 211 (v:=An) (x:=(227,3,0,[])) ⟨rfl,.inl ⟨rfl,rfl⟩⟩ (World.grownBy.refl _ _) (fun b hb=>by cases hb);have g8:=j9.slot 211 (.inr (.inl rfl)) i2;obtain⟨T9,C9,e2,b7,a3⟩:∃T9 C9,EJ Y wB.heap.size p t S3 o ps (T 4) (C 4) e b2 b3 b4 b5 [N x.n,d,(T9 211),B,f,I x.J,vF,vR] [I 0,An,An,An,An,I 0,An,An] [vQ Z t.X ca,T7 210,I t.J] (w8.setCell (ad b3 2) An) T9 C9/\C9 211=(227,3,0,[])/\(T9 210=T7 210/\C9 210=(3,1,t.n,a6.map N)):=by
  refine⟨CI T7 211 An,_,(by rw[AB];exact g8),AB _ _ _,Au _ _ oD,?_⟩;rw[Au _ _ oD,Au _ _ oD];exact b8
 generalize T7 210=k0 at e2 a2 a3;subst a2;clear j8 j9 i2 g8 o3 b8;refine Ae (Ad (bG e2 a5 b7 a3 hE.l (by have:=hE.ll;have:=hE.len;omega) hE.c fun A c6 k2 xs G a3 b7 hR=>?_));clear e2;refine Ae (Ad ?_);have⟨a1,a0,b0⟩:=G.h.form 211;have b0:c6 211= sq a1 t.Q a0:=by rw[b0,b7]
 rw[b0] at G;have⟨L,H,j1,i4,_,_,_⟩:=G.h.rep.phaseE a5;have⟨_,_,_,e5,_,_,_⟩:=G.h.rep.engF a5;have⟨P,M,h0⟩:=G.pf.form G.h;have o2:=G.h.cell 202 G.t2.1 (j:=0) (u:=vP e 0) (by rw[G.t2.2];rfl);have n2:b2≠b3:=fun hh=>G.h.apart 202 203 b2 oD (by rw[G.t2.1];rfl) (by rw[G.t3.1,hh];rfl)
 have n3:e≠b3:=fun hh=>G.h.out 203 b3 (by rw[G.t3.1];rfl) .E (by rw[a5,hh];rfl)
 rw[h0] at e5;have c7:Aj [(ad b2 0,vP e 0),(ad e 12,sq L t.F H),(ad e 14,sq P ps M)] A.drew:= .cons o2 (.cons i4 (.cons e5 .nil));have b1:∀q∈([(ad b2 0,vP e 0),(ad e 12,sq L t.F H),(ad e 14,sq P ps M)]:Cells),∃b' o',q.1=(ad b' o')/\b'≠b3:=fun q hq=>by
  simp only[Az,Dm,or_false] at hq;rcases hq with rfl|rfl|rfl
  .exact⟨_,_,rfl,n2⟩
  .exact⟨_,_,rfl,n3⟩
  .exact⟨_,_,rfl,n3⟩
 have rg:=G.h.drew.range 205 G.t5.1 0 [vQ Z t.X ca,.slice D t.n z,I t.J] (by rw[G.t5.2];rfl);have a9:=G.drew.put3 3 [vQ Z t.X ca,.slice D t.n z,I t.J];have a8:=a9.put3 6 [sq L t.F H];have e1:=a8.put3 7 [sq P ps M];refine Qm [] (Gi [(1,.c 0),(4,.c 1),(5,.c 0),(8,.c 2)] 1 8) [.one 0,.qs [(9,.p)],.one 10,.qs [(11,.p)],.one 12,.qs [(13,.p)],.one 14] [2,3,4,5,73,77] [(73,sq L t.F H),(77,sq P ps M)] c7<|MX (cs:=[vQ Z t.X ca,.slice D t.n z,I t.J]) 69 31 rg (.inr id)<|FW (O:=[]) [] [2,3,4,5,69,73,77,78] [(69,.agg #[vQ Z t.X ca,.slice D t.n z,I t.J]),(78,vP b3 3)] trivial c7 (fun _ _=> .nil) ?_;refine ZZ 31 [vQ Z t.X ca,.slice D t.n z,I t.J] (by rfl) (G.h.drew.there 203 G.t3.1 3 3 (by rw[G.t3.2];exact(oD:3+3<=8))) (.inr (fun hS=>Aj.setNe b1 _ 3 hS)) ?_;have e7:=Aj.setNe b1 [vQ Z t.X ca,.slice D t.n z,I t.J] 3 c7;refine FW (O:=[]) [] [2,3,4,5,73,77,79] [(79,vP b3 6)] trivial e7 (fun _ _=> .nil)<|dU (sq L t.F H) (a9.h.cell 203 a9.t3.1 (j:=6) (u:=vF) (by rw[a9.t3.2];rfl)) (a9.h.free 203 a9.t3.1 6) (.inr (fun hS=>Aj.setNe b1 [sq L t.F H] 6 hS)) ?_;have i6:=Aj.setNe b1 [sq L t.F H] 6 e7;refine FW (O:=[]) [] [2,3,4,5,77,80] [(80,vP b3 7)] trivial i6 (fun _ _=> .nil)<|dU (sq P ps M) (a8.h.cell 203 a8.t3.1 (j:=7) (u:=vR) (by rw[a8.t3.2];rfl)) (a8.h.free 203 a8.t3.1 7) (.inr (fun hS=>Aj.setNe b1 [sq P ps M] 7 hS))<|BG [2,3,4,5] ?_;change EJ _ _ _ _ _ _ _ _ _ _ _ _ _ _ [N x.n,d,sq a1 t.Q a0,vQ Z t.X ca,.slice D t.n z,I t.J,sq L t.F H,sq P ps M] _ _ _ _ _ at e1;obtain⟨b9,b6⟩:∃b9,b9=(((A.drew.setCells b3 3 [vQ Z t.X ca,.slice D t.n z,I t.J]).setCell (ad b3 6) (sq L t.F H)).setCell (ad b3 7) (sq P ps M)):=⟨_,rfl⟩;obtain⟨a4,a7,q1,q2,q3⟩:∃a4,EJ Y wB.heap.size p t S3 o ps (T 4) (C 4) e b2 b3 b4 b5 [N x.n,d,sq a1 t.Q a0,vQ Z t.X ca,.slice D t.n z,I t.J,sq L t.F H,sq P ps M] [I 0,An,An,An,An,I 0,An,An] [vQ Z t.X ca,.slice D t.n z,I t.J] b9 c6 a4/\a4 210=(3,1,t.n,a6.map N)/\a4 211=(227,3,t.Q.length,xs)/\LR t p.lev (1000+ps.length) c6 a4 t.Q.length xs:=by
  refine⟨_,by rw[b6];exact e1,?_,?_,hR.1,fun j c k g1 g2 g3=>?_⟩
  .rw[Au _ _ oD,Au _ _ oD,Au _ _ oD];exact a3.2
  .rw[Au _ _ oD,Au _ _ oD,Au _ _ oD];exact b7
  .rw[Au _ _ oO,Au _ _ oO,Au _ _ oO];exact hR.2 j c k g1 g2 g3
 rw[<-b6];clear b6 G a9 a8 e1 rg c7 e7 i6 b1 i4 e5 o2 hR b7;refine Ae (Ad ?_);have rg:=a7.h.range 203 a7.t3.1 0 [N x.n,d,sq a1 t.Q a0,vQ Z t.X ca,.slice D t.n z,I t.J,sq L t.F H,sq P ps M] (by rw[a7.t3.2];rfl);have R:=a7.put4 0 [N x.n,d,sq a1 t.Q a0,vQ Z t.X ca,.slice D t.n z,I t.J,sq L t.F H,sq P ps M];refine AY [.one 0,.one 1]<|F7 (cs:=[N x.n,d,sq a1 t.Q a0,vQ Z t.X ca,.slice D t.n z,I t.J,sq L t.F H,sq P ps M]) 81 35 rg ?_;refine De 35 [N x.n,d,sq a1 t.Q a0,vQ Z t.X ca,.slice D t.n z,I t.J,sq L t.F H,sq P ps M] (by simp only[BS,Cw,j0];rfl) (a7.h.there 204 a7.t4.1 0 8 (by rw[a7.t4.2];exact(oD:0+8<=8)))<|BG [3,4] ?_;change EJ _ _ _ _ _ _ _ _ _ _ _ _ _ _ _ [N x.n,d,sq a1 t.Q a0,vQ Z t.X ca,.slice D t.n z,I t.J,sq L t.F H,sq P ps M] _ _ _ _ at R;generalize(b9.setCells b4 0 [N x.n,d,sq a1 t.Q a0,vQ Z t.X ca,.slice D t.n z,I t.J,sq L t.F H,sq P ps M])=i8 at R⊢;have q1:=(Au a4 (35,8,1,[N x.n,d,sq a1 t.Q a0,vQ Z t.X ca,.slice D t.n z,I t.J,sq L t.F H,sq P ps M]) (k:=204) (i:=210) oD).trans q1;have q2:=(Au a4 (35,8,1,[N x.n,d,sq a1 t.Q a0,vQ Z t.X ca,.slice D t.n z,I t.J,sq L t.F H,sq P ps M]) (k:=204) (i:=211) oD).trans q2;have q3:LR t p.lev (1000+ps.length) c6 (CI a4 204 (35,8,1,[N x.n,d,sq a1 t.Q a0,vQ Z t.X ca,.slice D t.n z,I t.J,sq L t.F H,sq P ps M])) t.Q.length xs:=⟨q3.1,fun j c k g1 g2 g3=>by rw[Au _ _ oO];exact q3.2 j c k g1 g2 g3⟩;change EJ _ _ _ _ _ _ _ _ _ _ _ _ _ _ _ _ _ _ _ (CI a4 204 (35,8,1,[N x.n,d,sq a1 t.Q a0,vQ Z t.X ca,.slice D t.n z,I t.J,sq L t.F H,sq P ps M])) at R;generalize CI a4 204 (35,8,1,[N x.n,d,sq a1 t.Q a0,vQ Z t.X ca,.slice D t.n z,I t.J,sq L t.F H,sq P ps M])=k1 at R q1 q2 q3;refine Ae (Br (LC (g:=b4) (cs:=[N x.n,d,sq a1 t.Q a0,vQ Z t.X ca,.slice D t.n z,I t.J,sq L t.F H,sq P ps M]) rfl rfl oK (R.h.range 204 R.t4.1 0 _ (by rw[R.t4.2];rfl)) ?_));have hp:=c8.length_eq;simp only[List.length_range'] at hp;refine⟨p.lev,a6,_,_,_,_,_,rfl,g9▸c8,?_,R.h.bel,fun n ys hk=>?_⟩
 .have pl:=Pf.lines R.h R.pf hY hM;rw[h0] at pl;refine⟨?_,⟨xs,?_,fun i l lv a hi=>?_⟩,?_,?_,?_,pl.1,hs.cg,pl.2⟩
  .have⟨g6,h1,h2⟩:=hs.g;exact⟨g6,(h1.step (F8.below R.h.bel)).imp hY,fun i l hi=>by have⟨U,e,r⟩:=h2 i l hi;exact⟨U,e,(r.step (F8.below R.h.bel)).imp hY⟩⟩
  .have:=R.h.part 211;rw[b0,q2] at this;rw[Ka];exact this.rdo hM
  .have c2:i<t.Q.length:=by have:=(Aa.1 hi).1;rw[Ka] at this;exact this
   have hi:(t.Q.map fun i=>(((t.K[i]?).map Cl.l).getD [],p.lev i,min (((t.K[i]?).map Cl.X).getD 0) 1099511627776))[i]?=some (l,lv,a):=hi;rw[Bz,Ab c2] at hi;have hk:=hE.l t.Q[i] (DU c2);obtain⟨k,hk⟩:∃k,t.K[t.Q[i]]?=some k:=⟨_,Ab hk⟩;simp only[hk,Bf,Option.getD_some,A0,Prod.mk.injEq] at hi;obtain⟨rfl,rfl,rfl⟩:=hi;have⟨g1,g2,g3,g4⟩:=q3.2 i _ k c2 (Ab c2) hk;have:=R.h.part (1000+ps.length+i);rw[g4] at this;exact⟨_,g1,g2,g3,this.rdo hM⟩
  .have:=(RJ R.h .X).rdo (Y:=Y') hM;rw[e4] at this;exact this
  .have:=R.h.part 210;rw[a3.1,q1] at this;have:=this.rdo (Y:=Y') hM;show Ie Y' i8 _ 1 a6.length (a6.map N);rw[hp];exact this
  .have:=(RJ R.h .F).rdo (Y:=Y') hM;rw[j1] at this;exact this
 .have:=R.h.part 4;rw[R.o.1,R.o.2,hk] at this;exact this.rdo hM
end
end Go.Proofs.YtboflajfckfphaaGreatDoor
namespace Go.Proofs.YtboflajfckfphaaGreatDoor
open Go.RowKit Bud Go Go.Proofs.Tryz
set_option maxRecDepth 1000000
def Nk (n:Int) (L:List (List Int)):Prop:=0<=n/\(∀l∈L,l.any (fun x=>!G3 x n)=false)/\L.length<=65536
def Err (w:World) (p:Int->Prop) (b:Ending) (a:World):Prop:=∃k:Int,b= .returned (I k)/\Bl w a/\p k
theorem Da (w:World) (k:Nat):Bl w (w.drewN k):=⟨rfl,rfl,rfl,Ai _,fun _ _=>rfl⟩
def oQ:Sh:= .seq (.reg 0) (.seq (.reg 1) .ret)
theorem jd:f99.body=some (oQ.code f99):=oK
theorem fh {W:World} {b:Nat} {n:Int} (f:0<=n/\n<=100000) (g:W.cell? (ad b 0)=some (I n)) (x:Int):Cg 99 #[I x,vP b 0] W fun e a=>e= .returned (.bool (!G3 x n))/\W=a:=by
 refine CN jd<|Ad<|B8 [] [0,1,3] [(3,bF)]<|Ae (Ad ?_);have i:Aj [(ad b 0,I n)] W:= .cons g .nil;refine BA (O:=[(∀a,CR none W a->Cg 100 #[I x,I n] a fun h d=>h=Ending.returned (.bool (G3 x n))/\a=d)]) [(2,.c 0),(3,.q (.bool (G3 x n)))] [0,1,3] [(3,.bool (!(G3 x n)))] ⟨(fun a e=>VK x n f a),trivial⟩ i<|Ae (Br (Bu rfl (v:= .bool (!G3 x n)) rfl ⟨rfl,rfl⟩))
def mf:Sh:= .seq (.reg 4) (.seq (.cond (.tmp 17) .skip (.exit 0)) (.seq (.block 1 (.seq (.reg 5) (.seq (.reg 6) (.cond (.tmp 22) (.seq (.reg 7) .ret) .skip)))) (.reg 8)))
def oR:Sh:= .seq (.reg 0) (.seq (.seq (.reg 1) (.cond (.tmp 12) (.seq (.reg 2) .ret) .skip)) (.seq (.seq (.reg 3) (.block 0 (.loop mf))) (.seq (.seq (.reg 9) (.cond (.tmp 27) (.seq (.reg 10) .ret) .skip)) (.seq (.reg 11) .ret))))
theorem je:f40.body=some (oR.code f40):=oK
theorem Of {w:World} {n:Int} {V:Value} {R:List (List Int)} (hn:n<=65536) (h:Hf w V R) (H:R.length<=lim) (hr:∀l∈R,l.length<=lim):Cg 40 #[.agg #[I n,V]] w (Err w fun k=>k=0↔Nk n R):=by
 have⟨a3,A,Z⟩:=h;obtain⟨j,d,rfl⟩:=A.form;refine CN je<|Ad<|AY [.one 0,AM 1 1]<|CH 1 (vP w.heap.size 0) (w.alloc (.cells #[I n,sq j R d] 24)) ?_;have a:=heap_alloc_new w (.cells #[I n,sq j R d] 24);have s:Bl w (w.alloc (.cells #[I n,sq j R d] 24)):=(Below.refl _ _).alloc (Ai _) _;obtain⟨b,hb⟩:∃b,b=w.heap.size:=⟨_,rfl⟩;rw[<-hb] at a⊢;generalize(w.alloc (.cells #[I n,sq j R d] 24))=u at a s⊢;refine AN [1,2] [qv 1 b,(2,I 0)]<|AK ?_;have P:∀W,Bl u W->W.cell? (ad b 0)=some (I n)/\W.cell? (ad b 1)=some (sq j R d):=fun W g=>by
  have e:=(g.block b (Ak.1 a).1).trans a;exact⟨by rw[cell_of_row _ _ _ _ _ _ e];rfl,by rw[cell_of_row _ _ _ _ _ _ e];rfl⟩
 have B:∀W,Bl u W->Bl w W:=fun W g=>Aw s g
 have⟨D,C⟩:=P u (Below.refl _ _);refine Ae (Ad (Ad ?_));by_cases h0:n<0
 .have J:Aj [(ad b 0,I n),(ad b 1,sq j R d)] u:= .cons D (.cons C .nil);refine BA [(1,.c 0),(2,.T)] [1,2,12] [(12,bT)] (Bo (EE h0)) J<|Ae (Bg rfl (Ad<|B8 [] [2] [(2,I 1)]<|Ae (Br (Bc nR (Bu rfl (v:=I 1) rfl ⟨1,rfl,s,⟨fun p=>oO,fun p=>absurd p.1 oO⟩⟩)))))
 .have J:Aj [(ad b 0,I n),(ad b 1,sq j R d)] u:= .cons D (.cons C .nil);have q1:¬(65536:Int)<n:=oO;refine BA [(1,.c 0),(2,.F),(5,.c 0),(6,.F)] [1,2,12] [(12,bF)] (EP (Er h0) (Er q1)) J<|Ae (B1 rfl (AZ (Ae (Ad (Ad<|Fi [(1,.c 1)] [1,2,14,15,16] [(14,sq j R d),(15,N R.length),(16,I 0)] J<|Ae (Bd<|Ct (fun m L W=>∃i,L=[qv 1 b,(2,I 0),(14,sq j R d),(15,N R.length),(16,N i)]/\Bl u W/\(∀l∈R.take i,l.any (fun x=>!G3 x n)=false)/\i<=R.length/\m=R.length-i) (n:=R.length) ⟨0,rfl,Below.refl _ _,oS,oO,oO⟩ ?_))))));rintro m L W ⟨i,rfl,g,Q,hi,rfl⟩;refine Ad ?_;by_cases S:i<R.length
  .have q1:(i:Int)<(R.length:Int):=oO;refine Be [(0,.T)] [1,2,14,15,16,17] [(17,bT)] (Bo (EE q1))<|Ae (Ad<|Bg rfl (AZ (Ae (Ad (Bd (Ad ?_))))));have⟨go,O,a4,a1,a5,a0⟩:=(A.below (B W g)).some_ oO;injection a1 with a2 _ Y;subst a2 Y;obtain⟨l,H⟩:∃v,R[i]?=some v:=⟨_,Ab S⟩;have⟨U,hU,o⟩:=Z i l H;obtain⟨M,G,rfl⟩:=o.form;have ov:W.cell? ⟨go,Du O i,none⟩=some (sq M l G):=by rw[DG];exact a0 i _ hU
   have z:l∈R:=AQ H;have q2:i<maxLen:=by have:=‹R.length<=lim›;unfold lim at this;unfold maxLen;omega
   have C1:Aj [(⟨go,Du O i,none⟩,sq M l G)] W:= .cons ov .nil;refine BA [(1,.c 0)] [1,2,4,14,15,16] [(4,sq M l G),(14,.slice (some (ad go O)) R.length d)] (Bo (oO:oX i R.length)) C1<|Ae (Ad ?_);have cf:=WW (o.below (B W g)) (hr l z) (fun x=>!G3 x n) 99 #[vP b 0] (enters_of func99 oK rfl) fun W2 h2 x=>fh oO (P W2 (Aw g h2)).1 x
   refine AY [AM 0 2,.one 2]<|AN [1,2,4,14,15,16,20,21] [(20,sq M l G),(21,.func (.func 99) #[] #[vP b 0])]<|BW 22 (cf.mono ?_);rintro en w3 ⟨rfl,kk,rfl⟩;refine⟨_,rfl,.inl oK,?_⟩;have t:=Aw g (Da W kk);generalize W.drewN kk=w3 at t⊢;generalize f:l.any (fun x=>!G3 x n)=an;refine BG [1,2,4,14,15,16,22]<|Ae ?_
   cases an with
   |true=>
    refine Bg rfl (Ad<|B8 [] [2] [(2,I 1)]<|Ae (Br ?_));exact BL (Bc nR (B6 nR (BL (Bc nR (Bu rfl (v:=I 1) rfl ⟨1,rfl,B w3 t,⟨fun p=>oO,fun p=>by rw[p.2.1 l z] at f;cases f⟩⟩)))))
   |false=>
    refine B1 rfl (AZ (BN (Ae<|Be [(0,.e (N (i+1)))] [1,2,14,15,16] [(16,N (i+1))] (Bo (vJ (Ec q2 rfl))) ?_)));exact BV (BF (m:=R.length-(i+1)) oO ⟨i+1,rfl,t,fun y r=>by
     rw[CK,H] at r;rcases B0.1 r with r|r
     .exact Q y r
     .simp at r;rw[r];exact f,oO,rfl⟩)
  .have q1:¬(i:Int)<(R.length:Int):=oO;refine Be [(0,.F)] [1,2,14,15,16,17] [(17,bF)] (Bo (Er q1))<|Ae (Ad ?_);obtain rfl:i=R.length:=oO;rw[IB] at Q;refine B1 rfl (BQ (Bc nX (B6 nX (Ck (Ae (Ad (Ad ?_)))))));have⟨D,C⟩:=P W g;have C2:Aj [(ad b 0,I n),(ad b 1,sq j R d)] W:= .cons D (.cons C .nil);by_cases q:(65536:Int)<(R.length:Int)
   .refine BA [(1,.c 1),(3,.T)] [1,2,27] [(27,bT)] (Bo (EE q)) C2<|Ae (Bg rfl (Ad<|B8 [] [2] [(2,I 2)]<|Ae (Br (Bc nR (Bu rfl (v:=I 2) rfl ⟨2,rfl,B W g,⟨fun p=>oO,fun p=>absurd p.2.2 oO⟩⟩)))))
   .refine BA [(1,.c 1),(3,.F)] [1,2,27] [(27,bF)] (Bo (Er q)) C2<|Ae (B1 rfl (AZ (Ae (Ad<|B8 [] [2] []<|Ae (Br (Bu rfl (v:=I 0) rfl ⟨0,rfl,B W g,⟨fun _=>⟨oO,Q,oO⟩,fun _=>rfl⟩⟩))))))
end Go.Proofs.YtboflajfckfphaaGreatDoor
namespace Go.Proofs.YtboflajfckfphaaGreatDoor
open Go.RowKit Bud Go Go.Sort Go.Proofs Go.Lib Go.Proofs.Tryz
set_option maxRecDepth 1000000
def Je (y:Int):Bool:=decide (y<0∨1099511627776<y)
def oU:Sh:= .seq (.reg 0) (.seq (.reg 1) .ret)
theorem jm:f286.body=some (oU.code f286):=oK
theorem Zj (x:Int) (W:World):Cg 286 #[I x] W fun e b=>e= .returned (.bool (Je x))/\W=b:=by
 refine CN jm<|Ad<|B8 [] [0,2] [(2,bF)]<|Ae (Ad ?_);by_cases a:x<0
 .refine Be [(1,.T)] [0,2] [(2,bT)] (Bo (EE a)) ?_;exact Ae (Br (Bu rfl (v:=bT) rfl ⟨by unfold Je;simp[a],rfl⟩))
 .have c:Je x=decide ((1099511627776:Int)<x):=by unfold Je;simp[a]
  refine Be [(1,.F)] [0,2] [(2,.bool (decide ((1099511627776:Int)<(x:Int))))] (Bo (Er a))<|Ae (Br (Bu rfl rfl ⟨by rw[c];rfl,rfl⟩))
def nZ:Sh:= .seq (.reg 0) (.seq (.reg 1) .ret)
theorem jn:f97.body=some (nZ.code f97):=oK
theorem On (x:Int) (W:World):Cg 97 #[I x] W fun e b=>e= .returned (.bool (Je x))/\W=b:=by
 refine CN jn<|Ad<|B8 [] [0,2] [(2,bF)]<|Ae (Ad ?_);by_cases a:x<0
 .refine Be [(1,.T)] [0,2] [(2,bT)] (Bo (EE a)) ?_;exact Ae (Br (Bu rfl (v:=bT) rfl ⟨by unfold Je;simp[a],rfl⟩))
 .have c:Je x=decide ((1099511627776:Int)<x):=by unfold Je;simp[a]
  refine Be [(1,.F)] [0,2] [(2,.bool (decide ((1099511627776:Int)<(x:Int))))] (Bo (Er a))<|Ae (Br (Bu rfl rfl ⟨by rw[c];rfl,rfl⟩))
def oV:Sh:= .seq (.reg 0) (.seq (.reg 1) .ret)
theorem jo:f287.body=some (oV.code f287):=oK
theorem Zk {W:World} {b n a:Nat} {d:Option Addr} {v:Nat} (g:W.cell? (ad b 0)=some (.slice d n a)) (i:0<v/\v<n):Cg 287 #[vP b 0,N v] W fun e f=>e= .returned bT/\W=f:=by
 refine CN jo<|Ad<|B8 [] [0,1,4] [(4,bF)]<|Ae (Ad ?_);have q1:(0:Int)<(v:Int):=oO;have q2:(v:Int)<(n:Int):=oO;have h:Aj [(ad b 0,.slice d n a)] W:= .cons g .nil;refine BA [(1,.T),(8,.c 0),(10,.T)] [0,1,4] [(4,bT)] (EP (EE q1) (EE q2)) h<|Ae (Br (Bu rfl (v:=bT) rfl ⟨rfl,rfl⟩))
def dL (a:List Int) (x y:Int):Int:=RS [compareInt (Ey a y) (Ey a x),compareInt x y]
theorem Dj.cellN {W:World} {V:Value} {a:List Int} (h:Dj W V 1 a.length (a.map I)) (f:0<a.length):∃g o c,V= .slice (some (ad g o)) a.length c/\∀x:Int,0<=x->x<a.length->W.cell? ⟨g,Du o x.toNat,none⟩=some (I (Ey a x)):=by
 have⟨g,o,c,e,_,d⟩:=h.some_ f;refine⟨g,o,c,e,fun x j i=>?_⟩;have b:x.toNat<a.length:=oO;rw[DG];refine(d x.toNat (I a[x.toNat]) (by simp[b])).trans ?_;unfold Ey;rw[Ab b];rfl
def ho0:Sh:= .seq (.reg 0) (.seq (.reg 1) .ret)
theorem jp:f288.body=some (ho0.code f288):=oK
theorem gG {d:World} {b:Nat} {V:Value} {a:List Int} {x y:Int} (B:d.cell? (ad b 0)=some V) (u:Dj d V 1 a.length (a.map I)) (o:0<=x/\x<a.length) (n:0<=y/\y<a.length):Cg 288 #[vP b 0,I x,I y] d fun e f=>e= .returned (I (dL a x y))/\Bl d f:=by
 obtain⟨h,g,ca,rfl,l⟩:=u.cellN oO;have G:=l x o.1 o.2;have D:=l y n.1 n.2;refine CN jp<|Ad<|B8 [] [0,1,2,6] [(6,I 0)]<|Ae (Ad ?_);have t:Aj [(ad b 0,.slice (some (ad h g)) a.length ca),(⟨h,Du g ((x).toNat),none⟩,I (Ey a x)),(⟨h,Du g ((y).toNat),none⟩,I (Ey a y))] d.drew:= .cons B (.cons G (.cons D .nil));refine Dr (O:=[0<=(y:Int)/\(y:Int)<(a.length:Int),0<=(x:Int)/\(x:Int)<(a.length:Int),(∀f,CR (some (Aj [(ad b 0,.slice (some (ad h g)) a.length ca),(⟨h,Du g ((x).toNat),none⟩,I (Ey a x)),(⟨h,Du g ((y).toNat),none⟩,I (Ey a y))])) d.drew f->Cg 118 #[I (Ey a y),I (Ey a x)] f fun m i=>m=Ending.returned (I (compareInt (Ey a y) (Ey a x)))/\f=i),(∀f,CR (some (Aj [(ad b 0,.slice (some (ad h g)) a.length ca),(⟨h,Du g ((x).toNat),none⟩,I (Ey a x)),(⟨h,Du g ((y).toNat),none⟩,I (Ey a y))])) d.drew f->Cg 118 #[I x,I y] f fun m i=>m=Ending.returned (I (compareInt x y))/\f=i)]) [] (Gi [(4,.c 0),(7,.c 2),(12,.c 0),(15,.c 1),(16,.q (I (compareInt (Ey a y) (Ey a x)))),(19,.q (I (compareInt x y)))] 0 20) [.one 20,.one 21,.qs [(22,.p)]] [0,1,2,6,23,26] [(23,I (compareInt (Ey a y) (Ey a x))),(26,I (compareInt x y))] ⟨oO,oO,(fun f e=>LB _ _ f),(fun f e=>LB _ _ f),trivial⟩ t<|Ra 27 25 (compareInt (Ey a y) (Ey a x)) (compareInt x y) oK oK oK oK u25 (.inr (fun A=>Aj.alloc A _)) ?_;have l:∀(j:Nat) z,[(compareInt (Ey a y) (Ey a x)),(compareInt x y)][j]?=some z->(d.drew.alloc (.cells #[I (compareInt (Ey a y) (Ey a x)),I (compareInt x y)] 3)).cell? (ad d.drew.heap.size j)=some (I z):=fun j z k=>by
  rw[cell_of_row _ _ _ _ _ _ (heap_alloc_new d.drew _)]
  match j,k with
  |0,k=>simp at k;simp[k]
  |1,k=>simp at k;simp[k]
 have r:Bl d (d.drew.alloc (.cells #[I (compareInt (Ey a y) (Ey a x)),I (compareInt x y)] 3)):=(Below.refl _ _).drew.alloc (Ai _) _;have s:=Aj.alloc t (.cells #[I (compareInt (Ey a y) (Ey a x)),I (compareInt x y)] 3);generalize d.drew.heap.size=C at l⊢;generalize(d.drew.alloc (.cells #[I (compareInt (Ey a y) (Ey a x)),I (compareInt x y)] 3))=J at l r s⊢;refine QZ 28 117 #[vS C 2 2] oK oK oK oK ((Q1 (xs:=[(compareInt (Ey a y) (Ey a x)),(compareInt x y)]) rfl (by show 2<=lim;unfold lim;omega) l).mono ?_);rintro m H ⟨rfl,rfl⟩;refine⟨_,rfl,.inr id,FW (O:=[]) [] [0,1,2,6] [(6,I (dL a x y))] trivial s (fun _ _=> .nil)<|AK<|Ae (Br (Bu rfl (v:=I (dL a x y)) rfl ⟨rfl,r⟩))⟩
def mF:Sh:= .seq (.reg 7) (.seq (.cond (.tmp 65) .skip (.exit 1)) (.seq (.block 2 (.seq (.reg 8) (.seq (.reg 9) (.cond (.tmp 91) (.seq (.reg 10) .ret) .skip)))) (.reg 11)))
def hk0:Sh:= .seq (.reg 0) (.seq (.reg 1) (.seq (.block 0 (.seq (.reg 2) (.cond (.tmp 6) (.seq (.reg 3) .ret) (.seq (.reg 4) (.cond (.tmp 42) (.seq (.reg 5) .ret) .skip))))) (.seq (.seq (.reg 6) (.block 1 (.loop mF))) (.seq (.reg 12) .ret))))
theorem is:f195.body=some (hk0.code f195):=oK
def lE (a:List Int) (l:List Nat) (b:Int):Prop:=Ey a 0=0/\a.any Je=false/\b≠0/\Je b=false/\∀(i:Nat) (u v:Nat),l[i]?=some u->l[i+1]?=some v->dL a u v<0
theorem eR {h:World} {b ty:Nat} {VA VL:Value} {a:List Int} {l:List Nat} {g:Int} (t:h.heap[b]?=some (.cells #[VA,VL,I g] ty (0,0))) (U:Dj h VA 1 a.length (a.map I)) (S:Dj h VL 1 l.length (l.map N)) (ha:0<a.length/\a.length<=100) (hl:∀v∈l,0<v/\v<a.length) (b0:l.length<=100):
 Cg 195 #[vP b 0] h (Err h fun k=>lE a l g->k=0):=by
 obtain⟨Al,J,rfl⟩:=S.form;have r:=U;obtain⟨ga,P,ca,rfl,hc⟩:=U.cellN ha.1;have oc:∀W,Bl h W->W.cell? (ad b 0)=some (.slice (some (ad ga P)) a.length ca)/\W.cell? (ad b 1)=some (.slice Al l.length J)/\W.cell? (ad b 2)=some (I g):=fun W A=>by
  have e:=(A.block b (Ak.1 t).1).trans t;exact⟨by rw[cell_of_row _ _ _ _ _ _ e];rfl,by rw[cell_of_row _ _ _ _ _ _ e];rfl,by rw[cell_of_row _ _ _ _ _ _ e];rfl⟩
 have⟨Q,_,_⟩:=oc h (Below.refl _ _);have a0:h.cell? ⟨ga,Du P 0,none⟩=some (I (Ey a 0)):=hc 0 oO oO;refine CN is<|Ad<|B8 [] [0,2] [(2,I 0)]<|Ae (Ad<|B8 [] [0,2,3] [(3,.func (.func 286) #[] #[])]<|Ae (Ad (Bd (Ad ?_))));have q0:((a.length:Int)==(0:Int))=false:=beq_eq_false_iff_ne.2 oO;have q1:¬(65537:Int)<(a.length:Int):=oO;have C0:Aj [(ad b 0,.slice (some (ad ga P)) a.length ca),(⟨ga,Du P 0,none⟩,I (Ey a 0))] h:= .cons Q (.cons a0 .nil);by_cases C:Ey a 0=0
 .have qa:(Ey a 0 !=(0:Int))=false:=by simp[C]
  have cf:=SZ r (by unfold lim;omega) Je 286 #[] (enters_of func286 oK rfl) fun W2 h2 x=>Zj x W2
  refine AY [Cu 0 33 [(4,.c 0),(6,.F),(12,.c 0),(14,.F),(21,.c 0),(23,.c 1),(24,.F),(31,.c 0)],.one 33,AM 34 2]<|E3 [0,2,3,33,38,39] [(33,bF),(38,.slice (some (ad ga P)) a.length ca),(39,.func (.func 286) #[] #[])] (Sm (vB q0) (Er q1) (oO:oX 0 a.length) (vB qa)) C0<|BW 40 (cf.mono ?_);rintro D G ⟨rfl,kk,rfl⟩;refine⟨_,rfl,.inl oK,?_⟩;have f:=Da h kk;generalize h.drewN kk=G at f⊢;generalize z:a.any Je=an;refine AN [0,2,3,6] [(6,.bool an)]<|AK<|Ae ?_
  cases an with
  |true=>
   refine Bg rfl (Ad<|B8 [] [2] [(2,I 1)] ?_);exact Ae (Br (BL (Bc nR ((Bu rfl (v:=I 1) rfl ⟨1,rfl,f,fun p=>by rw[p.2.1] at z;cases z⟩)))))
  |false=>
   have⟨_,_,o2⟩:=oc G f;refine B1 rfl (Ad ?_);have C2:Aj [(ad b 2,I g)] G:= .cons o2 .nil;by_cases B:g=0
   .have qb:((g:Int)==(0:Int))=true:=by simp[B]
    refine BA [(4,.c 0),(5,.T)] [0,2,3,42] [(42,bT)] (Bo (vB qb)) C2<|Ae<|Bg rfl (Ad<|B8 [] [2] [(2,I 1)]<|Ae (Br (BL (Bc nR ((Bu rfl (v:=I 1) rfl ⟨1,rfl,f,fun p=>absurd B p.2.2.1⟩))))))
   have qb:((g:Int)==(0:Int))=false:=by simp[B]
   refine BA (O:=[(.bool ((g:Int)==(0:Int)):Value)=bF,(∀d,CR none G d->Cg 286 #[I g] d fun D o=>D=Ending.returned (.bool (Je g))/\d=o)]) [(4,.c 0),(5,.F),(12,.c 0),(13,.q (.bool (Je g)))] [0,2,3,42] [(42,.bool (Je g))] ⟨(vB qb),(fun d e=>Zj g d),trivial⟩ C2<|Ae ?_;generalize Y:Je g=ob
   cases ob with
   |true=>
    refine Bg rfl (Ad<|B8 [] [2] [(2,I 1)] ?_);exact Ae (Br (BL (Bc nR ((Bu rfl (v:=I 1) rfl ⟨1,rfl,f,fun p=>by rw[p.2.2.2.1] at Y;cases Y⟩)))))
   |false=>
    refine B1 rfl (AZ (BN (Ae (Ad (Ad ?_)))));have⟨_,o1,_⟩:=oc G f;have C6:Aj [(ad b 1,.slice Al l.length J)] G:= .cons o1 .nil;refine Fi [(4,.c 0)] [0,2,62,63,64] [(62,.slice Al l.length J),(63,N l.length),(64,I 0)] C6<|Ae (Bd<|Ct (fun m L W=>∃i,L=[qv 0 b,(2,I 0),(62,.slice Al l.length J),(63,N l.length),(64,N i)]/\Bl h W/\i<=l.length/\m=l.length-i) (n:=l.length) ⟨0,rfl,f,oO,oO⟩ ?_);rintro m L W ⟨i,rfl,A,hi,rfl⟩;refine Ad ?_;by_cases a4:i<l.length
    .have q1:(i:Int)<(l.length:Int):=oO;refine Be [(0,.T)] [0,2,62,63,64,65] [(65,bT)] (Bo (EE q1))<|Ae (Ad<|Bg rfl (AZ (Ae (Ad (Bd (Ad ?_))))));have⟨M,H,a8,a2,b1,Z⟩:=(S.below A).some_ oO;obtain⟨v,hv⟩:∃v,l[i]?=some v:=⟨_,Ab a4⟩;have ov:W.cell? ⟨M,Du H i,none⟩=some (N v):=by rw[DG];exact Z i _ (by simp[hv])
     have⟨Q,o1,_⟩:=oc W A;rw[a2] at o1;injection a2 with a7 _ a5;subst a5;rw[a7];have R:=hl v (AQ hv);have q2:i<maxLen:=by unfold maxLen;omega
     have C8:Aj [(⟨M,Du H i,none⟩,N v)] W:= .cons ov .nil;refine BA [(2,.c 0)] [0,2,4,5,62,63,64] [(4,N i),(5,N v),(62,.slice (some (ad M H)) l.length J)] (Bo (oO:oX i l.length)) C8<|Ae (Ad ?_)
     cases i with
     |zero=>
      have q3:¬(0:Int)<((0:Nat):Int):=oO;refine Be (O:=[(∀d,CR none W d->Cg 287 #[vP b 0,N v] d fun D o=>D=Ending.returned bT/\d=o),(.bool (decide ((0:Int)<((0:Nat):Int))):Value)=bF]) [(2,.q bT),(6,.F)] [0,2,4,5,62,63,64,91] [(4,N 0),(64,N 0),(91,bF)] ⟨(fun d e=>Zk (e▸Q) R),(Er q3),trivial⟩<|Ae (B1 rfl (AZ (BN (Ae<|Be [(0,.e (N (0+1)))] [0,2,62,63,64] [(64,N (0+1))] (Bo (vJ (Ec q2 rfl)))<|BV (BF (m:=l.length-(0+1)) oO ⟨0+1,rfl,A,oO,rfl⟩)))))
     |succ j=>
      obtain⟨u,hu⟩:∃u,l[j]?=some u:=⟨_,Ab oO⟩;have ou:W.cell? ⟨M,Du H j,none⟩=some (N u):=by rw[DG];exact Z j _ (by simp[hu])
      have a9:=hl u (AQ hu);have q3:(0:Int)<((j+1:Nat):Int):=oO;have q4:IntKind.i64.wrap (((j+1:Nat):Int)-(1:Int))=(j:Int):=by rw[Bb _ oO];omega
      have a3:=gG (x:=(u:Int)) (y:=(v:Int)) Q (r.below A) oO oO;have CA:Aj [(ad b 1,.slice (some (ad M H)) l.length J),(⟨M,Du H j,none⟩,N u)] W:= .cons o1 (.cons ou .nil);refine AY [Cu 0 19 [(2,.q bT),(6,.T),(13,.c 0),(15,.e (N j)),(17,.c 1)],.one 19,AM 20 3]<|E3 (O:=[(∀d,CR none W d->Cg 287 #[vP b 0,N v] d fun D o=>D=Ending.returned bT/\d=o),(.bool (decide ((0:Int)<(((j+1):Nat):Int))):Value)=bT,(I (IntKind.i64.wrap ((((j+1):Nat):Int)-(1:Int))):Value)=N j,0<=(j:Int)/\(j:Int)<(l.length:Int)]) [0,2,4,5,62,63,64,73,76,77,86,87] [(4,N (j+1)),(64,N (j+1)),(73,bF),(76,bT),qv 77 b,(86,N u),(87,N v)] ⟨(fun d e=>Zk (e▸Q) R),(EE q3),(vI q4),oO,trivial⟩ CA<|BW 88 (a3.mono ?_);rintro D w5 ⟨rfl,a6⟩;refine⟨_,rfl,.inl oK,?_⟩;have a1:=Aw A a6;refine AN [0,2,4,5,62,63,64,91] [(91,.bool (decide ((0:Int)<=((dL a u v):Int))))]<|AK<|Ae ?_;by_cases s:(0:Int)<=(dL a u v:Int)
      .rw[EE s];refine Bg rfl (Ad<|B8 [] [2] [(2,I 1)]<|Ae (Br (BL (Bc nR (B6 nR (BL (Bc nR ((Bu rfl (v:=I 1) rfl ⟨1,rfl,a1,fun p=>absurd (p.2.2.2.2 j u v hu hv) oO⟩)))))))))
      .rw[Er s];refine B1 rfl (AZ (BN (Ae<|Be [(0,.e (N (j+1+1)))] [0,2,62,63,64] [(64,N (j+1+1))] (Bo (vJ (Ec q2 rfl)))<|BV (BF (m:=l.length-(j+1+1)) oO ⟨j+1+1,rfl,a1,oO,rfl⟩))))
    .have q1:¬(i:Int)<(l.length:Int):=oO;refine Be [(0,.F)] [0,2,62,63,64,65] [(65,bF)] (Bo (Er q1))<|Ae (Ad<|B1 rfl (BQ (Bc nX (B6 nX (Ck (Ae (Ad<|B8 [] [2] []<|Ae (Br (Bu rfl (v:=I 0) rfl ⟨0,rfl,A,fun _=>rfl⟩)))))))))
 .have qa:(Ey a 0 !=(0:Int))=true:=by simp[C]
  refine BA [(4,.c 0),(6,.F),(12,.c 0),(14,.F),(21,.c 0),(23,.c 1),(24,.T)] [0,2,3,6] [(6,bT)] (Sm (vB q0) (Er q1) (oO:oX 0 a.length) (vB qa)) C0<|Ae<|Bg rfl (Ad<|B8 [] [2] [(2,I 1)]<|Ae (Br (BL (Bc nR ((Bu rfl (v:=I 1) rfl ⟨1,rfl,(Below.refl _ _),fun p=>absurd p.1 C⟩))))))
variable{w:World}
theorem HI {z:Option Nat} {D:List Deferred} {f:Func} {r:Nat} {Q:EO} {S:Option (World->Prop)} {i:List Nat} {d:List Stp} {L:Sts} (b:List Stp) (e:Gf d=Gf b) (h:Es z D f r Q S i b L w):Es z D f r Q S i d L w:=fun a j=>by
 rw[e];exact h a j
theorem Ez {B g n c:Nat} {a z:Nat}:∀(b:List Value) (o:Nat) {w:World} {xs:List Value},Ba B w (vS g n c) (a,z,n,xs)->Ba B (w.setCells g o b) (vS g n c) (a,z,n,EQ xs o b)
 |[],_,_,_,h=>h
 |y::b,o,w,xs,h=>Ez b (o+1) (w:=w.setCell (ad g o) y) (xs:=xs.set o y) (FY h o y).1
variable{B g n c a z:Nat} {xs:List Value}
theorem BM (b:List Value) (p:Ba B w (vS g n c) (a,z,n,xs)) (h:b.length=xs.length):Ba B (w.setCells g 0 b) (vS g n c) (a,z,n,b):=by
 have:=Ez b 0 p;rw[show EQ xs 0 b=b from WL (pre:=[]) h] at this;exact this
theorem B4 (h:Ba B w (vS g n c) (a,z,n,xs)) (o m:Nat) (b:o+m<=xs.length):w.there g o m:=fun j e=>by
 have d:xs.length=n*z:=h.1;exact⟨by rw[Ed h (o+j) (by show _<n*z;omega)];simp;omega,DE h _⟩
theorem Bp (h:Ba B w (vS g n c) (a,z,n,xs)) (o:Nat) (b:List Value) (e:(xs.drop o).take b.length=b):w.rangeAt g o b:=fun j v i=>by
 have d:=(Aa.1 i).1;have k:xs.length=n*z:=h.1;have f:((xs.drop o).take b.length)[j]?=some v:=by rw[e];exact i
 rw[List.getElem?_take_of_lt d,Dl] at f;have:=Ed h (o+j) (by show _<n*z;rw[<-k];exact(Aa.1 f).1);exact this.trans f
theorem BE (h:Ba B w (vS g n c) (a,z,n,xs)) {j:Nat} {u:Value} (b:xs[j]?=some u):w.cell? (ad g j)=some u:=by
 have d:xs.length=n*z:=h.1;exact(Ed h j (by show _<n*z;rw[<-d];exact(Aa.1 b).1)).trans b
theorem By {a:World} {g:Nat} (e:a.heap.size<=g):∀(d:List Value) (o:Nat) {w:World},Bl a w->Bl a (w.setCells g o d)
 |[],_,_,h=>h
 |y::d,o,w,h=>By e d (o+1) (w:=w.setCell (ad g o) y) ⟨by simpa[World.setCell] using h.os,by simpa[World.setCell] using h.tape,by simpa[World.setCell] using h.output,by simpa using h.size,fun b f=>(Below.heap_setCell _ _ _ _ (by show b≠g;omega)).trans (h.block b f)⟩
theorem A9 {d:World} {v:Value} {x:Cn} (h:Ba B w v x) (f:Bl w d):Ba B d v x:=h.mono fun b e=>⟨(Ax h b e).1,f.block b (Ax h b e).2⟩
def hh0:Sh:= .seq (.reg 0) (.seq (.reg 1) .ret)
theorem iM:f96.body=some (hh0.code f96):=oK
theorem dz {e d:Value} {a:List Int} {l:List Nat} {bi:Int} (m:Dj w e 1 a.length (a.map I)) (j:Dj w d 1 l.length (l.map N)) (x:0<a.length/\a.length<=100) (r:∀v∈l,0<v/\v<a.length) (p:l.length<=100):
 Cg 96 #[.agg #[e,d,I bi]] w (Err w fun k=>lE a l bi->k=0):=by
 refine CN iM<|Ad<|AY [.one 0,AM 1 1]<|CH 1 (vP w.heap.size 0) (w.alloc (.cells #[e,d,I bi] 31)) ?_;have o:=Fr w 31 [e,d,I bi];have i:Bl w (w.alloc (.cells #[e,d,I bi] 31)):=(Below.refl _ _).alloc (Ai _) _;obtain⟨b,u⟩:∃b,b=w.heap.size:=⟨_,rfl⟩;rw[<-u] at o⊢;generalize(w.alloc (.cells #[e,d,I bi] 31))=h at o i⊢;refine AN [1,2] [qv 1 b,(2,I 0)]<|AK<|Ae (Ad<|AY [.one 0,.one 1,.one 2,.one 3,AM 4 1]<|F7 (cs:=[e,d,I bi]) 3 31 (Bp o 0 [e,d,I bi] rfl)<|CH 4 (.agg #[e,d,I bi]) h<|CH 5 (vP h.heap.size 0) (h.alloc (.cells #[e,d,I bi] 333)) ?_);have f:Bl w (h.alloc (.cells #[e,d,I bi] 333)):=Aw i ((Below.refl _ _).alloc (Ai _) _);have t:=eR (heap_alloc_new h (.cells #[e,d,I bi] 333)) (m.below f) (j.below f) x r p;refine BW 6 (t.mono ?_);rintro A y ⟨k,rfl,q,s⟩;refine⟨_,rfl,.inl oK,AN [1,2] [(2,I k)]<|AK<|Ae (Br (Bu rfl (v:=I k) rfl ⟨k,rfl,Aw f q,s⟩))⟩
def iw:Sh:= .seq (.reg 9) (.seq (.cond (.tmp 72) .skip (.exit 0)) (.seq (.block 1 (.seq (.reg 10) (.seq (.seq (.reg 11) (.cond (.tmp 90) (.seq (.reg 12) .ret) .skip)) (.reg 13)))) (.reg 14)))
def ix:Sh:= .seq (.reg 19) (.seq (.cond (.tmp 109) .skip (.exit 2)) (.seq (.block 3 (.seq (.reg 20) (.seq (.reg 21) (.cond (.tmp 129) (.seq (.reg 22) .ret) .skip)))) (.reg 23)))
def sc0:Sh:= .seq (.reg 0) (.seq (.seq (.reg 1) (.cond (.tmp 58) (.seq (.reg 2) .ret) .skip)) (.seq (.seq (.reg 3) (.seq (.reg 4) (.cond (.tmp 66) (.seq (.reg 5) .ret) .skip))) (.seq (.reg 6) (.seq (.reg 7) (.seq (.seq (.reg 8) (.block 0 (.loop iw))) (.seq (.seq (.reg 15) (.seq (.reg 16) (.cond (.tmp 103) (.seq (.reg 17) .ret) .skip))) (.seq (.seq (.reg 18) (.block 2 (.loop ix))) (.seq (.reg 24) .ret))))))))
theorem iy:f39.body=some (sc0.code f39):=oK
def okS (x:Sv) (ps:List (Int×List Int)):Prop:=lE x.X x.O x.J/\x.F[0]?=some false/\Nk x.n x.G/\x.Q=[]/\∀q∈ps,1<=q.1/\q.1<=3/\Nk x.n [q.2]
theorem u22:prog.underlying 22=some (.slice 25):=oK
theorem i25:(prog.info? 25).map (fun i=>(i.zero,i.size,i.bytes))=some (some An,1,24):=oK
theorem az {x:Sv} {ps:List (Int×List Int)} {vG vL vA vO vF vR:Value} {w0 A w:World} {b:Nat} {Q:EO} [BZ Q] (hx:Jw x) (hs:Na w0 x ps vG vL vA vO vF vR) (a5:Bl w0 A) (a6:Bl A w) (oc:∀W,Bl A W->∀j u,(svC x vG vL vA vO vF vR)[j]?=some u->W.cell? (ad b j)=some u) (S:x.Q.length<=lim)
 (hR:x.Q≠[]->∀W,Bl A W->HN f39 (fun a w=>Q .ret a w) [(2,I 1)] W)
 (hQ:∀W V,Bl A W->He W V (x.Q.map (·.1))->HN f39 (fun a w=>Q .normal a w) [qv 1 b,(2,I 0),(4,V)] W):
 HW f39 (.seq (.reg 8) (.block 0 (.loop iw))) Q [qv 1 b,(2,I 0),(4,An),(5,.func (.func 97) #[] #[])] w:=by
 have⟨c3,a3,b6⟩:=hs.l;have⟨Ag,kg,a1⟩:=a3.form;refine Ad ?_;have C0:Aj [(ad b 2,.slice Ag x.Q.length kg)] w:= .cons (oc w a6 2 _ (by rw[<-a1];rfl)) .nil;refine Fi [(1,.c 0)] [1,2,4,5,69,70,71] [qv 1 b,(2,I 0),(4,An),(5,.func (.func 97) #[] #[]),(69,.slice Ag x.Q.length kg),(70,N x.Q.length),(71,I 0)] C0<|Ae (Bd<|Ct (fun m L W=>∃i V4 G,L=[qv 1 b,(2,I 0),(4,V4),(5,.func (.func 97) #[] #[]),(69,.slice Ag x.Q.length kg),(70,N x.Q.length),(71,N i)]/\Bl A W/\Ba A.heap.size W V4 (25,1,i,G)/\(∀j l,j<i->(x.Q.map (·.1))[j]?=some l->∃U,G[j]?=some U/\Vk w0 U l)/\i<=x.Q.length/\m=x.Q.length-i) (n:=x.Q.length) ⟨0,An,[],rfl,a6,⟨rfl,.inl ⟨rfl,rfl⟩⟩,fun j l o=>oO,oO,oO⟩ ?_);rintro m L W ⟨i,V4,G,rfl,hW,h4,hv,hi,rfl⟩;refine Ad ?_;by_cases R:i<x.Q.length
 .have q1:(i:Int)<(x.Q.length:Int):=oO;refine Be [(0,.T)] [1,2,4,5,69,70,71,72] [(72,bT)] (Bo (EE q1))<|Ae (Ad<|Bg rfl (AZ (Ae (Ad (Bd (Ad ?_))))));have M:x.Q≠[]:=fun e=>by rw[e] at R;simp at R
  have⟨go,oo,c4,a7,c7,Z⟩:=(a3.below (Aw a5 hW)).some_ oO;rw[a1] at a7;injection a7 with c2 _ b2;subst b2;rw[c2];obtain⟨⟨l,h,p⟩,hl⟩:∃v,x.Q[i]?=some v:=⟨_,Ab R⟩;have⟨U,hU,c1,c0,D⟩:=b6 i l h p hl;obtain⟨t,s,rfl⟩:=D.form;have a0:W.rangeAt go (Du oo (i*3)) [.slice t l.length s,I h,I p]:=fun j u o=>by
   rw[DG,Ea]
   match j,o with
   |0,o=>simp at o;rw[<-o];exact Z _ _ (by rw[<-hU];congr 1;omega)
   |1,o=>simp at o;rw[<-o];exact Z _ _ (by rw[<-c1];congr 1;omega)
   |2,o=>simp at o;rw[<-o];exact Z _ _ (by rw[<-c0];congr 1;omega)
  have q2:i<maxLen:=by unfold lim at S;unfold maxLen;omega
  have pn:=Fr W 227 [An,I 0,I 0];have r:=BM [.slice t l.length s,I h,I p] pn rfl;have th:=B4 pn 0 3 oS;have b8:Bl W (W.alloc (.cells #[An,I 0,I 0] 227)):=(Below.refl _ _).alloc (Ai _) _;have B:=By (Ai _) [.slice t l.length s,I h,I p] 0 b8;refine AY [AM 0 1,.one 1,.one 2,.one 3]<|G4 [1,2,4,5,69,70,71,73] [(69,.slice (some (ad go oo)) x.Q.length kg),(73,vP go (Du oo (i*3)))] (Bo (oO:oX i x.Q.length))<|MX (cs:=[.slice t l.length s,I h,I p]) 74 227 a0 (.inr id)<|CH 7 (vP W.heap.size 0) (W.alloc (.cells #[An,I 0,I 0] 227))<|De 227 [.slice t l.length s,I h,I p] (by rfl) th<|BG [1,2,4,5,7,69,70,71] ?_;obtain⟨z,f,a4,J⟩:∃z f,z=W.heap.size/\f=((W.alloc (.cells #[An,I 0,I 0] 227)).setCells W.heap.size 0 [.slice t l.length s,I h,I p]):=⟨_,_,rfl,rfl⟩;rw[<-J,<-a4];have r:Ba W.heap.size f (vS z 1 1) (227,3,1,[.slice t l.length s,I h,I p]):=by rw[J,a4];exact r
  have B:Bl W f:=by rw[J];exact B
  have y:=Aw hW B;have a8:f.ownsRow A.heap.size 25 1 V4 i G:=A9 h4 B;refine Ae (Ad (Ad ?_));have C3:Aj [(ad z 0,.slice t l.length s),(ad z 1,I h),(ad z 2,I p)] f:= .cons (BE r rfl) (.cons (BE r rfl) (.cons (BE r rfl) .nil));by_cases h0:l.length=0
  .have qb:((l.length:Int)==(0:Int))=true:=by simp[h0]
   refine BA [(1,.c 0),(3,.T)] [1,2,4,5,7,69,70,71,90] [qv 7 z,(90,bT)] (Bo (vB qb)) C3<|Ae (Bg rfl (Ad<|B8 [] [2] [(2,I 1)]<|Ae (Br (Bc nR (BL (Bc nR (B6 nR (BL (hR M f y)))))))))
  have qb:((l.length:Int)==(0:Int))=false:=beq_eq_false_iff_ne.2 oO
  cases ho:Je h with
  |true=>
   refine BA (O:=[(.bool ((l.length:Int)==(0:Int)):Value)=bF,(∀d,CR none f d->Cg 97 #[I h] d fun C g=>C=Ending.returned (.bool true)/\d=g)]) [(1,.c 0),(3,.F),(7,.c 1),(8,.q bT)] [1,2,4,5,7,69,70,71,90] [qv 7 z,(90,bT)] ⟨(vB qb),(fun d e=>ho▸On h d),trivial⟩ C3<|Ae (Bg rfl (Ad<|B8 [] [2] [(2,I 1)]<|Ae (Br (Bc nR (BL (Bc nR (B6 nR (BL (hR M f y)))))))))
  |false=>
   cases a2:Je p with
   |true=>
    refine BA (O:=[(.bool ((l.length:Int)==(0:Int)):Value)=bF,(∀d,CR none f d->Cg 97 #[I h] d fun C g=>C=Ending.returned (.bool false)/\d=g),(∀d,CR none f d->Cg 97 #[I p] d fun C g=>C=Ending.returned (.bool true)/\d=g)]) [(1,.c 0),(3,.F),(7,.c 1),(8,.q bF),(13,.c 2),(14,.q bT)] [1,2,4,5,7,69,70,71,90] [qv 7 z,(90,bT)] ⟨(vB qb),(fun d e=>ho▸On h d),(fun d e=>a2▸On p d),trivial⟩ C3<|Ae (Bg rfl (Ad<|B8 [] [2] [(2,I 1)]<|Ae (Br (Bc nR (BL (Bc nR (B6 nR (BL (hR M f y)))))))))
   |false=>
    refine BA (O:=[(.bool ((l.length:Int)==(0:Int)):Value)=bF,(∀d,CR none f d->Cg 97 #[I h] d fun C g=>C=Ending.returned (.bool false)/\d=g),(∀d,CR none f d->Cg 97 #[I p] d fun C g=>C=Ending.returned (.bool false)/\d=g)]) [(1,.c 0),(3,.F),(7,.c 1),(8,.q bF),(13,.c 2),(14,.q bF)] [1,2,4,5,7,69,70,71,90] [qv 7 z,(90,bF)] ⟨(vB qb),(fun d e=>ho▸On h d),(fun d e=>a2▸On p d),trivial⟩ C3<|Ae (B1 rfl (AZ (Ae ?_)));have⟨c6,b4,hz⟩:=Af.1 i25;injection hz with hz H;injection H with H a9;have⟨A5,c5,w5,er,b1,b5,c8⟩:=GH (P:=prog) f A.heap.size 22 22 25 u22 b4 hz H a9 rfl a8 25 (u:= .slice t l.length s) rfl (by unfold lim at S;unfold maxLen;omega) (by unfold lim at S;omega) y.size;have b9:=below_grown y b5 fun k hk=>(Ax a8 k hk).1
    have C4:Aj [(ad z 0,.slice t l.length s)] f:= .cons (BE r rfl) .nil;refine AY [Cu 0 3 [(2,.c 0)],.one 3,.one 4,AM 5 1]<|DO [1,2,4,5,7,69,70,71,91,93] [(91,V4),(93,.slice t l.length s)] C4<|CH 94 (vS f.heap.size 1 1) (f.alloc (.cells #[.slice t l.length s] 25))<|DY 95 22 22 (V4) (vS f.heap.size 1 1) oK oK oK oK er (.inl oK)<|AN [1,2,4,5,7,69,70,71] [(4,.slice A5 (i+1) c5)]<|AK<|BN (Ae<|Be [(0,.e (N (i+1)))] [1,2,4,5,69,70,71] [(71,N (i+1))] (Bo (vJ (Ec q2 rfl)))<|BV (BF (m:=x.Q.length-(i+1)) oO ⟨i+1,_,_,rfl,b9,b1,fun j l' o Y=>?_,oO,rfl⟩));have b0:G.length=i:=by have:G.length=i*1:=h4.1;omega
    by_cases b3:j<i
    .have⟨U,h1,h2⟩:=hv j l' b3 Y;exact⟨U,by rw[AW oO];exact h1,h2⟩
    .obtain rfl:j=i:=oO;have:l'=l:=by rw[Bz,hl] at Y;simpa using Y.symm
     subst this;exact⟨_,by rw[BR oO,b0];simp,D⟩
 .have q1:¬(i:Int)<(x.Q.length:Int):=oO;refine Be [(0,.F)] [1,2,4,5,69,70,71,72] [(72,bF)] (Bo (Er q1))<|Ae (Ad ?_);obtain rfl:i=x.Q.length:=oO;refine B1 rfl (BQ (Bc nX (B6 nX (Ck (BV (hQ W V4 hW ⟨G,?_,fun j l o=>?_⟩))))))
  .have:=h4.rd;simpa using this
  .have⟨U,h1,h2⟩:=hv j l (by have:=(Aa.1 o).1;simpa using this) o;exact⟨U,h1,h2.below (Aw a5 hW)⟩
