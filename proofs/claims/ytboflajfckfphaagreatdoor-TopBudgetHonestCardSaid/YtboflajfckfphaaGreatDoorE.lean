/- A part of the proof of TopBudgetHonest. -/
import Derived.Shelf.SlSortCmp.NoneTotal
import Derived.Shelf.SlicesE.Delete
import Derived.Shelf.SlicesE.DeleteFunc
import Derived.Shelf.SlicesE.Index
import Derived.Shelf.SlicesG.Cmp
import Derived.Sort.OwnSortedInts
import Derived.Test.YtboflajfckfphaaGreatDoorD
set_option linter.all false
namespace Go.Proofs.YtboflajfckfphaaGreatDoor
open Go.RowKit Bud Go Go.Proofs.Tryz
set_option maxRecDepth 1000000
def ig:Sh:= .seq (.reg 0) (.seq (.reg 1) (.seq (.reg 2) (.seq (.reg 3) (.seq (.reg 4) (.seq (.seq (.reg 5) (.block 0 (.loop gO))) cx)))))
theorem eH:f104.body=some (ig.code f104):=oK
theorem ai {a:Array Value} {w:World} {b:Nat} {v x:Value} (g:a[4]?=some (vP b 0)) (f:a[5]?=some x) (e:w.cell? (ad b 0)=some v) (h:v.oneCell'=true):(results f104 a).run prog w= .ok (.tuple #[v,x]) w:=by
 have d:f104.results=#[.cell 4 25,.tmp 5]:=oK;have c:prog.underlying 25=some (.slice 3):=oK;simp[results,d,go_sem,g,f,loadVar,isAgg,run_underlying c,e,asAddr]
def eI (B:Nat) (p:Px) (S:Sl) (w:World) (s:St) (l:List Int) (d:Nat) (e:Ending) (a:World):Prop:=
 ∃A c,e= .returned (.tuple #[.slice A l.length c,N d])/\Rep B p s S a/\Step S S w a/\Ba w.heap.size a (.slice A l.length c) (3,1,l.length,l.map I)/\∀b,(Value.slice A l.length c).ownBlock=some b->∀r,(S r).ownBlock≠some b
theorem Wv {B:Nat} {p:Px} {s s2:St} {S:Sl} {w:World} {e c0 c lv:Nat} {l:List Int} (h:Rep B p s S w) (U:S .E=vS e 1 c0) (d:N7 s c=some (s2,l,lv)):
 Cg 104 #[vP e 0,E6 S c] w (eI B p S w s2 l lv):=by
 unfold N7 at d;split at d
 .cases d
 rename_i y;have y:s.Y.length<=lim:=oO;split at d
 .cases d
 rename_i s1 m o b5 t;split at d
 .cases d
 rename_i a9 D;split at d
 .cases d
 rename_i s3 a4;split at d
 .cases d
 rename_i l' b3 C;have d:=Ah d;injection d with e1 d;injection d with e2 e3;subst e1 e2 e3;obtain⟨x,hc⟩:∃x,s.K[c]?=some x:=by
  unfold DF at t
  cases hc:s.K[c]? with
  |none=>rw[hc] at t;cases t
  |some x=>exact⟨x,rfl⟩
 have⟨gc,_,_,hP,_⟩:=h.clA hc;have⟨A5,c5,a6,e5,a3,a1,a2⟩:=h.trailE U;have ho:=MD _ t (Ha _);have G:=K0 _ t;refine Mz (f:=f104) oK eH oK ?_;rw[hP];show HW f104 ig _ [qv 0 e,qv 1 gc] w;refine Ad ?_;have h0:=Loc.init h;have h1:=h0.new 2 136 (vP e 0);refine AY [.one 0,.one 1,AM 2 1]<|M1 2 136 (vP e 0) oK oK oK oK (.inl oK) ?_;have v:=h1.new 4 25 An;generalize c7:w.heap.size=n at h1 v⊢;generalize(w.alloc (.cells #[vP e 0] 136))=w1 at h1 v⊢;refine FX 4 25 (An) oK oK oK oK (.inl oK) ?_;generalize c6:w1.heap.size=Q at v⊢;generalize(w1.alloc (.cells #[An] 25))=w2 at v⊢;clear h1;refine AN [0,1,2,4,5] [qv 2 n,qv 4 Q,(5,I 0)]<|AK<|Ae (Ad ?_);have h3:=v.new 6 25 An;refine AY [.one 0]<|FX 6 25 (An) oK oK oK oK (.inl oK)<|BG [0,1,2,4,5,6]<|Ae (Ad ?_);generalize c3:w2.heap.size=r at h3⊢;generalize(w2.alloc (.cells #[An] 25))=w3 at h3⊢;clear v;have h4:=h3.new 7 243 .nilFunc;refine AY [AM 0 1,.one 1,.one 2]<|AN [0,1,2,4,5,6,22] [qv 6 r,(22,.func (.func 199) #[] #[vP n 0,vP r 0])]<|FX 7 243 (.nilFunc) oK oK oK oK (.inl oK)<|Cz (.func (.func 199) #[] #[vP n 0,vP r 0]) (h4.cell 7 (AB _ _ _) (j:=0) (u:= .nilFunc) (by rw[AB];rfl)) (h4.free 7 (AB _ _ _) 0)<|BG [0,1,2,4,5,6,7]<|Ae (Ad ?_);have M:=h4.put 7 (AB _ _ _) 0 (.func (.func 199) #[] #[vP n 0,vP r 0]);rw[AB] at M;generalize c2:w3.heap.size=b7 at h4 M⊢;generalize((w3.alloc (.cells #[.nilFunc] 243)).setCell (ad b7 0) (.func (.func 199) #[] #[vP n 0,vP r 0]))=w5 at M⊢;have J:=M.new 40 3 (I 0);refine AY [.one 0,.one 1]<|Fa 23 25 3 (I 0) (.int .i64 0) oK oK oK oK oK oK (.inr rfl) rfl (.inl oK) ?_;generalize b0:w5.heap.size=k at J⊢;generalize(w5.alloc (.cells #[I 0] 3))=w6 at J⊢;clear M;have t4:(CI (CI (CI (CI (CI (fun _=>An) 2 (vS n 1 1)) 4 (vS Q 1 1)) 6 (vS r 1 1)) 7 (vS b7 1 1)) 40 (vS k 1 1)) 4=vS Q 1 1:=rfl;have h7:=J.put 4 t4 0 (vS k 1 1);refine Cz (vS k 1 1) (J.cell 4 t4 (j:=0) (u:=An) rfl) (J.free 4 t4 0)<|BG [0,1,2,4,5,6,7]<|Ae (Ad ?_);generalize(w6.setCell (ad Q 0) (vS k 1 1))=w7 at h7⊢;have Z:=h7.new 8 3 (I 0);refine AY [.one 0,.one 1,AM 2 1]<|FX 8 3 (I 0) oK oK oK oK (.inl oK)<|Cz (I 0) (Z.cell 8 (AB _ _ _) (j:=0) (u:=I 0) (by rw[AB];rfl)) (Z.free 8 (AB _ _ _) 0)<|AN [0,1,2,4,5,6,7,8,9] [qv 8 w7.heap.size,(9,I 0)]<|AK ?_;have H:=Z.put 8 (AB _ _ _) 0 (I 0);generalize c1:w7.heap.size=b8 at Z H⊢;generalize((w7.alloc (.cells #[I 0] 3)).setCell (ad b8 0) (I 0))=w9 at H⊢;refine Ae (Ad (Ad ?_));have o2:=H.cell 2 (g:=n) rfl (j:=0) (u:=vP e 0) rfl;have⟨A5,c5,a6,e5,a3,a1,a2⟩:=H.rep.trailE U;have C9:Aj [(ad n 0,vP e 0),(ad e 5,.slice A5 s.L.length c5)] w9:= .cons o2 (.cons e5 .nil);refine Fi [(0,.c 0),(3,.c 1)] [0,1,2,4,5,6,7,8,9,10] [qv 8 b8,(10,N s.L.length)] C9<|BV (L':=[qv 1 gc,qv 2 n,qv 4 Q,(5,I 0),qv 6 r,qv 7 b7,qv 8 b8,(9,I 0),(10,N s.L.length)]) (Ae (Yv (S:=S) H U ⟨rfl,rfl,rfl,rfl,rfl,rfl,rfl,rfl,rfl,rfl,rfl,rfl⟩ hP t oO fun ds b1 c9 e4 a8 z=>Ae<|WE a8 U z (by rw[ho.2];exact y) ho.1 G D a4 C fun a0 c8 e0 bm ob P a7 hl b9 A O t4=>?_));have⟨R,t50,c4⟩:=A;intro a ha;show LeavesInM Fence.wide 0 prog f104 a.tmps _ a.defers .returning a0;rw[ha.2.1];have q:=a7.unmark;have om:∀b∈ds,(b,Obj.deferred (some []))∈MS ds:=fun b hb=>BB.2 ⟨b,hb,rfl⟩
 have a5:ds.Nodup:=by have:=q.mks.1;rwa [No] at this
 refine J9 ds ⟨a5,fun b hb=>(q.mks.2 _ (om b hb)).1⟩ fun w' hx=>?_
 have i:=q.exc (by rw[No];exact hx);rw[<-hl] at t50 c4 O;refine⟨_,ai (ha.2.2 4 _ rfl) (ha.2.2 5 _ rfl) (i.cell 4 t4 (j:=0) (u:= .slice R l'.length P) (by rw[c4];rfl)) rfl,R,P,rfl,i.rep,i.st,?_,?_⟩
 .have:=i.part 50
  rwa [t50,O] at this
 .have:=i.out 50
  rwa [t50] at this
def jN:Sh:= .block 3 (.seq (.reg 15) (.cond (.tmp 81) (.reg 16) .skip))
def jO:Sh:= .seq (.reg 8) (.seq (.seq (.reg 9) (.cond (.tmp 54) (.exit 1) .skip)) (.seq (.reg 10) (.seq (.seq (.reg 11) (.cond (.tmp 64) (.seq (.reg 12) (.exit 1)) .skip)) (.seq (.reg 13) (.block 2 (.rangeFunc (.tmp 71) #[72] (.reg 14) jN))))))
def mR:Sh:= .seq (.seq (.reg 6) (.cond (.tmp 40) .skip (.exit 0))) (.seq (.block 1 jO) (.reg 7))
def mS:Sh:= .seq (.reg 0) (.seq (.reg 1) (.seq (.seq (.reg 2) (.cond (.tmp 21) (.seq (.reg 3) .ret) .skip)) (.seq (.reg 4) (.seq (.seq (.reg 5) (.block 0 (.loop mR))) (.seq (.reg 17) .ret)))))
theorem fI:f111.body=some (mS.code f111):=oK
structure CV (e b2 b6 f:Nat) (T:Nat->Value) (C:Nat->Cn):Prop where
 t2:T 2=vS b2 1 1
 c2:C 2=(136,1,1,[vP e 0])
 t6:T 6=vS b6 1 1
 c6:C 6=(134,1,1,[.map (some f)])
def CM (W:World) (f M:Nat):Prop:=∃K n,E5 W f n (kf K)/\∀z,K z≠none->B7 z<M
theorem CM.keep {W W':World} {f M:Nat} (h:CM W f M) (a:W'.heap[f]?=W.heap[f]?):CM W' f M:=by
 have⟨K,n,c,b⟩:=h;exact⟨K,n,c.keep a,b⟩
theorem CM.obj {W:World} {f M:Nat} (h:CM W f M):∃o,W.heap[f]?=some o/\o.isCells=false:=by
 have⟨K,n,a,b⟩:=h;exact a.obj
variable{W:World} {f M:Nat}
theorem CM.set {v:Nat} (h:CM W f M) (m:v<M) (o:M<=lim):∃a,(Instr.mapUpdate 134 (.map (some f)) (N v) bT).run prog W= .ok () a/\CM a f M/\W.grownBy a (some f):=by
 have⟨K,n,l,i⟩:=h;have j:=l.small (M:=M) (fun k c=>i k (by unfold kf at c;intro e;rw[e] at c;exact c rfl));have⟨a,r,d,g⟩:=j.update RN (by unfold lim maxLen at*;omega) (k:=(v:Int)) (wf64 (by unfold B7 lim maxLen at*;omega)) bT;rw[XY] at d;refine⟨a,r,⟨_,_,d,fun z b=>?_⟩,g⟩;unfold OM at b;split at b
 .rename_i e;subst e;unfold B7;omega
 .exact i z b
theorem CM.at_ {v:Nat} (h:CM W f M) (c:v<=maxLen):∃b,(Instr.lookup 134 (.map (some f)) (N v) false).run prog W= .ok (.bool b) W:=by
 have⟨K,n,a,d⟩:=h;have:=a.look1 RN (HZ W) (k:=(v:Int)) (wf64 (by unfold B7;omega));rw[this];unfold kf
 cases K (v:Int) with
 |none=>exact⟨false,rfl⟩
 |some b=>exact⟨b,rfl⟩
def mT (B:Nat) (p:Px) (s:St) (S:Sl) (a:World) (c:List Nat) (f:Nat) (T:Nat->Value) (C:Nat->Cn) (r:List Int) (W:World):Prop:=∃b,Loc B p s S S a W T C ((f,b)::MS c)/\CM W f s.H.length/\∀y∈r,B7 y<s.H.length
theorem Y9 {B:Nat} {p:Px} {s:St} {S:Sl} {w0:World} {Q:List Nat} {T:Nat->Value} {C:Nat->Cn} {e c0 t D l d:Nat} {y:Int} {r:List Int} {z:Option Nat}
 (he:S .E=vS e 1 c0) (P:CV e t D f T C) (hM:s.H.length<=lim) (hl:∃rec:Loop,W.heap[l]?=some (.loop rec)) (hd:∃Q,W.heap[d]?=some (.deferred Q)) (a0:l≠f) (a1:d≠f)
 (hJ:mT B p s S w0 Q f T C (y::r) W):
 GS z [] f111 jN (Rd l d (mT B p s S w0 Q f T C r) (fun _=>False) W) [qv 2 t,qv 6 D,(10,I y)] W:=by
 have⟨ob,h,hm,G⟩:=hJ;have⟨rec,hl⟩:=hl;have⟨dd,hd⟩:=hd;have m:=G y oS;have G:∀y∈r,B7 y<s.H.length:=fun x hx=>G x (by simp[hx])
 obtain⟨v,n⟩:∃v,v=B7 y:=⟨_,rfl⟩;rw[<-n] at m;obtain⟨k,Z⟩:∃k,s.H[v]?=some k:=⟨_,Ab m⟩;have⟨A,cv,hV,e3,_,_,rV,fV,_,a3⟩:=h.rep.levelA he oO;have R:=rV _ _ Z;have o2:=h.cell 2 P.t2 (j:=0) (u:=vP e 0) (by rw[P.c2];rfl);have o6:=h.cell 6 P.t6 (j:=0) (u:= .map (some f)) (by rw[P.c6];rfl);have OF:∀L,Cg 43 #[I y] L fun o b=>o= .returned (N v)/\L=b:=fun L=>n▸FT y (by rw[<-n];omega) L
 refine Bd (Ad ?_);have C0:Aj [(ad t 0,vP e 0),(ad e 3,vQ A s.H cv),(ad A v,N k)] W.drew:= .cons o2 (.cons e3 (.cons R .nil));by_cases hk:0<k
 .have q1:(0:Int)<(k:Int):=oO;refine Dr (O:=[(∀b,CR (some (Aj [(ad t 0,vP e 0),(ad e 3,vQ A s.H cv),(ad A v,N k)])) W.drew b->Cg 43 #[I y] b fun o i=>o=Ending.returned (N v)/\b=i),0<=(v:Int)/\(v:Int)<(s.H.length:Int),(.bool (decide ((0:Int)<(k:Int))):Value)=bT]) [] (Gi [(0,.c 0),(3,.c 1),(5,.q (N v)),(7,.c 2),(8,.T)] 0 9) [] [2,6,10,81] [qv 2 t,qv 6 D,(10,I y),(81,bT)] ⟨(fun b _=>OF b),oO,(EE q1),trivial⟩ C0<|AK<|Ae (Bg rfl ?_);have⟨L,up,J,g⟩:=(hm.keep (W':=W.drew.drew) rfl).set m hM;have⟨U,Y,a2⟩:=J.obj;have h2:=h.drew.drew.kept g Y a2;have C2:Aj [(ad D 0,.map (some f))] W.drew.drew:= .cons o6 .nil;refine Dr (O:=[(∀b,CR (some (Aj [(ad D 0,.map (some f))])) W.drew.drew b->Cg 43 #[I y] b fun o i=>o=Ending.returned (N v)/\b=i)]) [3] (Gi [(0,.c 0),(2,.q (N v))] 0 3) [.one 3] [2,6,10,82,84] [(82,.map (some f)),(84,N v)] ⟨(fun b _=>OF b),trivial⟩ C2<|I9 134 (.map (some f)) (N v) bT oK oK oK up (.inl oK)<|BG [2]<|BN (fun a _=>⟨⟨?_,?_⟩,U,h2,J,G⟩)
  .exact g.block l (Ak.1 hl).1 (fun e'=>a0 (Ah e'))
  .exact g.block d (Ak.1 hd).1 (fun e'=>a1 (Ah e'))
 .have q1:¬(0:Int)<(k:Int):=oO;refine Dr (O:=[(∀b,CR (some (Aj [(ad t 0,vP e 0),(ad e 3,vQ A s.H cv),(ad A v,N k)])) W.drew b->Cg 43 #[I y] b fun o i=>o=Ending.returned (N v)/\b=i),0<=(v:Int)/\(v:Int)<(s.H.length:Int),(.bool (decide ((0:Int)<(k:Int))):Value)=bF]) [] (Gi [(0,.c 0),(3,.c 1),(5,.q (N v)),(7,.c 2),(8,.F)] 0 9) [] [2,6,10,81] [qv 2 t,qv 6 D,(10,I y),(81,bF)] ⟨(fun b _=>OF b),oO,(Er q1),trivial⟩ C0<|AK<|Ae (B1 rfl (AZ (BN (fun a _=>⟨⟨rfl,rfl⟩,ob,h.drew,hm.keep rfl,G⟩))))
def Sq (s:St) (x:Int) (r:List Int):Prop:=∀y∈r,y=x∨(y∈s.L/\s.Y[B7 y]?=some none)
def fM (B:Nat) (p:Px) (s:St) (S:Sl) (b:World) (e g f a:Nat) (x:Int) (r:List Int) (V:Value) (d:List Nat) (W:World):Prop:=
 ∃c T C,Loc B p s S S b W T C ((a,c)::MS d)/\CV e g f a T C/\CM W a s.H.length/\T 50=V/\C 50=(3,1,r.length,r.map I)/\Sq s x r
theorem YC {s:St} {x:Int} (h:Kw s x=true) {k:Nat} (g:s.H[B7 x]?=some (k+1)):s.H.length<=lim/\s.L.length<lim/\0<s.D.length/\∀y∈s.L,∃w,s.Y[B7 y]?=some w/\∀c,w=some c->∃z,s.K[c]?=some z/\∀u∈z.l,B7 u<s.H.length:=by
 unfold Kw at h;rw[g] at h;simp[AE,decide_eq_true_eq,Bi] at h;refine⟨h.1.1,h.1.2.1,h.1.2.2,fun y e=>?_⟩;have:=h.2 y e;split at this
 .cases this
 .rename_i a;exact⟨_,a,fun c b=>by cases b⟩
 .rename_i c a;refine⟨_,a,fun i b=>?_⟩;obtain rfl:=Ah b;split at this
  .cases this
  .rename_i z d;exact⟨z,d,fun u f=>by simpa using(Bi.1 this) u f⟩
theorem YD {B:Nat} {p:Px} {s:St} {S:Sl} {w0 w:World} {e c0 k R d j c5:Nat} {x l:Int} {r:List Int} {A5:Option Addr} {P:List Nat} {Q:EO} [BZ Q]
 (h:fM B p s S w0 e k R d x r (.slice A5 r.length c5) P w) (he:S .E=vS e 1 c0) (hM:s.H.length<=lim) (g1:s.L.length<lim) (hj:s.L[j]?=some l) (g2:r.length<lim)
 (b7:∃w,s.Y[B7 l]?=some w/\∀c,w=some c->∃z,s.K[c]?=some z/\∀u∈z.l,B7 u<s.H.length)
 (hQ:∀w1 r' A' c' b3,fM B p s S w0 e k R d x r' (.slice A' r'.length c') b3 w1->r'.length<=r.length+1->∀t:Exit,(t= .normal∨t= .exit 1)->GK (b3.map mk) f111 (fun a w=>Q t a w) [qv 2 k,(4,An),(5,.slice A' r'.length c'),qv 6 R,(7,N j)] w1):
 GS none (P.map mk) f111 jO Q [qv 2 k,(4,An),(5,.slice A5 r.length c5),qv 6 R,(7,N j)] w:=by
 have⟨Z,T,C,h,n,o,t50,J,a6⟩:=h;have⟨wy,hw,b8⟩:=b7;have o2:=h.cell 2 n.t2 (j:=0) (u:=vP e 0) (by rw[n.c2];rfl);have⟨gt,ct,_,e5,e8,e9,rT,_,_,_⟩:=h.rep.trailA he (by have:=(Aa.1 hj).1;omega);have ol:=rT _ _ hj;have g4:=(Aa.1 hj).1;refine Ad ?_;have C0:Aj [(ad k 0,vP e 0),(ad e 5,vS gt s.L.length ct),(ad gt j,I l)] w:= .cons o2 (.cons e5 (.cons ol .nil));refine BA [(0,.c 0),(3,.c 1),(6,.c 2)] [2,4,5,6,7,8] [qv 2 k,(4,An),(5,.slice A5 r.length c5),qv 6 R,(7,N j),(8,I l)] (Bo (oO:oX j s.L.length)) C0<|Ae (Ad (Ad ?_));obtain⟨v,G⟩:∃v,v=B7 l:=⟨_,rfl⟩;have g0:v<s.Y.length:=by rw[G];exact(Aa.1 hw).1
 have⟨M,cw,_,e4,e7,e6,rW,_,_,_⟩:=h.rep.whyA he oO;rw[<-G] at hw;have OF:∀W',Cg 43 #[I l] W' fun t b=>t= .returned (N v)/\W'=b:=fun W'=>G▸FT l (by rw[<-G];omega) W'
 have⟨bt,a4⟩:=(o.keep (W':=w.drew) rfl).at_ (v:=v) oO;have C1:Aj [(ad R 0,.map (some d))] w.drew:= .cons (h.cell 6 n.t6 (j:=0) (u:= .map (some d)) (by rw[n.c6];rfl)) .nil;refine Dr (O:=[(∀b,CR (some (Aj [(ad R 0,.map (some d))])) w.drew b->Cg 43 #[I l] b fun t D=>t=Ending.returned (N v)/\b=D)]) [] (Gi [(0,.c 0),(2,.q (N v))] 0 3) [.one 3,.qs [(4,.p)]] [2,4,5,6,7,8,50,52] [(50,.map (some d)),(52,N v)] ⟨(fun b _=>OF b),trivial⟩ C1<|LF 53 134 (.map (some d)) (N v) (.bool bt) false oK oK oK oK a4 (.inr id) ?_
 cases bt with
 |false=>
  refine FW (O:=[]) _ [2,4,5,6,7,8,54] [(54,bT)] trivial C1 (fun _ h=>h)<|AK<|Ae (Bg rfl (BQ (Bc nX<|BV (hQ _ r A5 c5 P ⟨Z,T,C,h.drew,n,o.keep rfl,t50,J,a6⟩ oO _ (.inr rfl)))))
 |true=>
  refine FW (O:=[]) _ [2,4,5,6,7,8,54] [(54,bF)] trivial C1 (fun _ h=>h)<|AK<|Ae (B1 rfl (AZ (Ae (Ad ?_))));have h:=h.drew;have o:=o.keep rfl;have m:Aj [(ad k 0,vP e 0),(ad e 4,vS M s.Y.length cw),(ad M v,IS S wy)] w.drew.drew:= .cons o2 (.cons e4 (.cons (rW _ _ hw) .nil))
  cases wy with
  |none=>
   have m:Aj [(ad k 0,vP e 0),(ad e 4,vS M s.Y.length cw),(ad M v,.pointer none)] w.drew.drew:=m;refine Dr (O:=[(∀b,CR (some (Aj [(ad k 0,vP e 0),(ad e 4,vS M s.Y.length cw),(ad M v,.pointer none)])) w.drew.drew b->Cg 43 #[I l] b fun t D=>t=Ending.returned (N v)/\b=D),0<=(v:Int)/\(v:Int)<(s.Y.length:Int)]) [] (Gi [(0,.c 0),(3,.c 1),(5,.q (N v)),(7,.c 2)] 0 9) [] [2,4,5,6,7,8,9] [(9,.pointer none)] ⟨(fun b _=>OF b),oO,trivial⟩ m<|AK<|Ae (Ad (Ad ?_));have h:=h.drew;have o:=o.keep (W':=w.drew.drew) rfl;refine B8 [] [2,4,5,6,7,8,9,64] [(64,bT)] ?_;have⟨A',c',w3,er,h3⟩:=h.appI 50 t50 J l oO;refine Ae (Bg rfl (Ad<|AY [AM 0 2,.one 2,.one 3,AM 4 1]<|AN [2,4,5,6,7,8,9,65,66] [(65,.slice A5 r.length c5),(66,I l)]<|Fa 67 25 3 (I l) (.int .i64 0) oK oK oK oK oK oK (.inr rfl) rfl (.inl oK)<|DY 68 25 25 (.slice A5 r.length c5) (vS w.drew.drew.heap.size 1 1) oK oK oK oK er (.inl oK)<|AN [2,4,5,6,7,8,9] [(5,.slice A' (r.length+1) c')]<|AK ?_));have g3:w3.heap[d]?=some Z:=(h3.mks.2 (d,Z) oS).1;have a3:(r++[l]).length=r.length+1:=oS;have a9:Sq s x (r++[l]):=fun y hy=>by
    rcases B0.1 hy with hy|hy
    .exact a6 y hy
    .obtain rfl:y=l:=by simpa using hy
     exact .inr ⟨AQ hj,by rw[<-G];exact hw⟩
   have hq:=hQ w3 (r++[l]) A' c' P ⟨Z,_,_,h3,⟨n.t2,n.c2,n.t6,n.c6⟩,o.keep (g3.trans (h.mks.2 (d,Z) oS).1.symm),by rw[AB,a3],by rw[AB,a3];simp,a9⟩ oO (.exit 1) (.inr rfl);rw[a3] at hq;refine Ae (BQ (Bc nX (BV hq)))
  |some c=>
   have⟨z,hz,b4⟩:=b8 c rfl;have⟨i,cc,_,hP,_,_,_,_,_,_⟩:=h.rep.clA hz;have m:Aj [(ad k 0,vP e 0),(ad e 4,vS M s.Y.length cw),(ad M v,vP i 0)] w.drew.drew:=by have:=m;rw[show IS S (some c)=vP i 0 from hP] at this;exact this
   refine Dr (O:=[(∀b,CR (some (Aj [(ad k 0,vP e 0),(ad e 4,vS M s.Y.length cw),(ad M v,vP i 0)])) w.drew.drew b->Cg 43 #[I l] b fun t D=>t=Ending.returned (N v)/\b=D),0<=(v:Int)/\(v:Int)<(s.Y.length:Int)]) [] (Gi [(0,.c 0),(3,.c 1),(5,.q (N v)),(7,.c 2)] 0 9) [] [2,4,5,6,7,8,9] [qv 9 i] ⟨(fun b _=>OF b),oO,trivial⟩ m<|AK<|Ae (Ad (Ad ?_));have h:=h.drew;have o:=o.keep (W':=w.drew.drew) rfl;refine B8 [] [2,4,5,6,7,8,9,64] [(64,bF)]<|Ae (B1 rfl (AZ (Ae (Ad<|AY [AM 0 2,.one 2]<|AN [2,4,5,6,7,8,9,69,70] [qv 69 i,(70,I l)]<|BW 71 ((J3 i l w.drew.drew).mono ?_)))));rintro t W2 ⟨rfl,rfl⟩;refine⟨_,rfl,.inl oK,?_⟩;generalize w.drew.drew=W1 at h o⊢;refine BG [2,4,5,6,7,8,9,71] ?_;have h2:=(h.new 20 237 (vP i 0)).new 21 3 (I l);have e2:(W1.alloc (.cells #[vP i 0] 237)).heap.size=W1.heap.size+1:=oS;rw[e2] at h2;have b9:((W1.alloc (.cells #[vP i 0] 237)).alloc (.cells #[I l] 3)).heap.size=W1.heap.size+2:=oS;have m2:=o.keep (((h2.mks.2 (d,Z) oS).1).trans (h.mks.2 (d,Z) oS).1.symm);have e0:=(Ak.1 (h.mks.2 (d,Z) oS).1).1;generalize a0:(CI (CI T 20 (vS W1.heap.size 1 1)) 21 (vS (W1.heap.size+1) 1 1))=T2 at h2;generalize a2:(CI (CI C 20 (237,1,1,[vP i 0])) 21 (3,1,1,[I l]))=m at h2;have a8:CV e k R d T2 m:=by subst a0 a2;exact⟨n.t2,n.c2,n.t6,n.c6⟩
   have t50:T2 50= .slice A5 r.length c5:=by subst a0;exact t50
   have J:m 50=(3,1,r.length,r.map I):=by subst a2;exact J
   have t20:T2 20=vS W1.heap.size 1 1:=by subst a0;rfl
   have c9:m 20=(237,1,1,[vP i 0]):=by subst a2;rfl
   have t21:T2 21=vS (W1.heap.size+1) 1 1:=by subst a0;rfl
   have c8:m 21=(3,1,1,[I l]):=by subst a2;rfl
   generalize((W1.alloc (.cells #[vP i 0] 237)).alloc (.cells #[I l] 3))=U at h2 b9 m2⊢;have⟨A,cap,hA,b5,_⟩:=h2.lits hz;have a5:∀j,U.heap.size<=j->j∉(_::MS P).map (·.1):=fun j hj o=>by have:=h2.obs_lt o;omega
   have c4:w0.heap.size<=U.heap.size:=h2.st.size;refine Ae (Bd ?_);refine Rb (A:=A) (cap:=cap) (gc:=i) (lit:=l) rfl oK b5
    (mT B p s S w0 P d T2 m) (fun _=>False) (fun r W hJ=>?_) (fun r=>?_) ⟨fun _ _ _ _ h=>h.elim⟩ (fun o1 o2=>?_)
    (fun y=>[qv 2 k,qv 6 R,(10,I y)]) (fun y Q' W hh=>?_) (fun y r W hJ hl hd=>?_) (fun W hJ hd=>?_) (fun W hf=>hf.elim)
   .have⟨f,hL,_,_⟩:=hJ;have⟨c7,g5,_,b0,q0,_⟩:=hL.rep.clA hz;rw[hP] at b0;obtain rfl:i=c7:=by injection b0 with a1;injection a1 with a1;injection a1 with a1
    rw[hA] at q0;refine⟨hL.cell 20 t20 (by rw[c9];rfl),hL.cell 21 t21 (by rw[c8];rfl),q0,fun j y hj=>?_⟩;have⟨A3,e1,b1,_,q1⟩:=hL.lits hz;have⟨g,q2,q3⟩:=q1 j y hj;rw[hA] at b1;injection b1 with e3;exact⟨g,e3.trans q2,q3⟩
   .refine⟨fun W kk o1 o2 hJ hk ho hc=>?_⟩;have⟨f,hL,a7,c1⟩:=hJ;have n1:U.heap.size+1∉((d,f)::MS P).map (·.1):=by have:=a5 (U.heap.size+1) oO;simpa using this
    have n2:U.heap.size∉((d,f)::MS P).map (·.1):=by have:=a5 U.heap.size oO;simpa using this
    exact⟨f,(Loc.abides oO oO n1 n2).put W kk o1 o2 hL hk ho hc,a7.keep (World.putObj_heap_other (by rcases hk with rfl|rfl<;>omega)),c1⟩
   .refine⟨Z,h2.below (((Below.refl _ _).alloc (Ai _) _).alloc oS _),m2.keep ((((Below.refl _ _).alloc (Ai _) _).alloc oS _:Bl U _).block d oO),fun y hy=>b4 y (GF.1 hy).1⟩
   ·
    refine B8 [] [2,6,10] [qv 2 k,qv 6 R,(10,I y)]<|hh
   .exact Y9 he a8 hM hl hd oO oO hJ
   .have⟨f,hL,a7,_⟩:=hJ;have c3:=a5 U.heap.size (Ai _);have h5:=hL.mark hd rfl c4 (by simpa using c3);have h6:Loc B p s S S w0 W T2 m ((d,f)::MS (U.heap.size::P)):=⟨h5.rep,h5.st,h5.part,h5.apart,h5.out,by
     have q:=h5.mks.1;simp[BI,MS,Dc,Az,not_or] at q⊢;exact⟨⟨Ne.symm q.1.1,q.2.1⟩,q.1.2,q.2.2⟩,fun q hq=>h5.mks.2 q (by simp[MS,BI,Az] at hq⊢;rcases hq with h|h|h;exact .inr (.inl h);exact .inl h;exact .inr (.inr h))⟩
    exact BN (BV (hQ W r A5 c5 (U.heap.size::P) ⟨f,T2,m,h6,a8,a7,t50,J,a6⟩ oO _ (.inl rfl)))
theorem bU {a:Array Value} {w:World} {v:Value} (c:a[4]?=some v):(results f111 a).run prog w= .ok v w:=by
 have b:f111.results=#[.tmp 4]:=oK;simp[results,b,go_sem,c]
def Y3 (B:Nat) (p:Px) (s:St) (S:Sl) (w:World) (x:Int) (d:Ending) (a:World):Prop:=
 ∃l A c,d= .returned (.slice A l.length c)/\Rep B p s S a/\Step S S w a/\Ba w.heap.size a (.slice A l.length c) (3,1,l.length,l.map I)/\(∀b,(Value.slice A l.length c).ownBlock=some b->∀r,(S r).ownBlock≠some b)/\Sq s x l/\l.length<=s.L.length+1
theorem PC {B:Nat} {p:Px} {s:St} {S:Sl} {j W:World} {T:Nat->Value} {C:Nat->Cn} {x:Int} {r:List Int} {A5:Option Addr} {c5:Nat} {ds:List Nat} {a:Act} {L:Sts}
 (h:Loc B p s S S j W T C (MS ds)) (t50:T 50= .slice A5 r.length c5) (i:C 50=(3,1,r.length,r.map I)) (f:Sq s x r) (d:r.length<=s.L.length+1) (k:Has f111.ntmps (ds.map mk) L a) (n:lk L 4=some (.slice A5 r.length c5)):
 JT f111 (Y3 B p s S j x) .ret a W:=by
 show LeavesInM Fence.wide 0 prog f111 a.tmps _ a.defers .returning W;rw[k.2.1];have l:∀b∈ds,(b,Obj.deferred (some []))∈MS ds:=fun b g=>BB.2 ⟨b,g,rfl⟩
 have e:ds.Nodup:=by have:=h.mks.1;rwa [No] at this
 refine J9 ds ⟨e,fun b g=>(h.mks.2 _ (l b g)).1⟩ fun o m=>?_
 have c:=h.exc (by rw[No];exact m);refine⟨_,bU (k.2.2 4 _ n),r,A5,c5,rfl,c.rep,c.st,?_,?_,f,d⟩
 .have:=c.part 50
  rwa [t50,i] at this
 .have:=c.out 50
  rwa [t50] at this
theorem Y4 {B:Nat} {p:Px} {s:St} {S:Sl} {w:World} {e c0:Nat} {x:Int} (h:Rep B p s S w) (he:S .E=vS e 1 c0) (M:Kw s x=true):
 Cg 111 #[vP e 0,I x] w (Y3 B p s S w x):=by
 obtain⟨k,hk⟩:∃k,s.H[B7 x]?=some k:=by
  have:=M;unfold Kw at this
  cases hl:s.H[B7 x]? with
  |none=>rw[hl] at this;cases this
  |some k=>exact⟨k,rfl⟩
 refine Mz (f:=f111) oK fI oK<|Ad ?_;have h1:=(Loc.init h).new 2 136 (vP e 0);refine AY [.one 0,AM 1 1]<|M1 2 136 (vP e 0) oK oK oK oK (.inl oK) ?_;generalize e0:w.heap.size=d at h1⊢;generalize c4:(w.alloc (.cells #[vP e 0] 136))=w1 at h1⊢;refine AN [1,2,4] [qv 2 d,(4,.slice none 0 0)]<|AK<|Ae (Ad ?_);have Y:=h1.new 50 3 (I x);refine AY [AM 0 1,.one 1,AM 2 1]<|AN [1,2,4,11] [(11,I x)]<|Fa 12 25 3 (I x) (.int .i64 0) oK oK oK oK oK oK (.inr rfl) rfl (.inl oK) ?_;generalize w1.heap.size=b5 at Y⊢;generalize(w1.alloc (.cells #[I x] 3))=i at Y⊢;refine AN [1,2,4,5] [(5,vS b5 1 1)]<|AK<|Ae (Ad (Ad ?_));have A:Sq s x [x]:=fun y hy=> .inl (by simpa using hy)
 obtain⟨v,R⟩:∃v,v=B7 x:=⟨_,rfl⟩;have b1:=hk;rw[<-R] at hk;have a4:v<s.H.length:=(Aa.1 hk).1;have⟨gv,cv,hV,e3,_,_,rV,fV,_,b8⟩:=Y.rep.levelA he oO;have a9:=rV _ _ hk;have o2:=Y.cell 2 (g:=d) rfl (j:=0) (u:=vP e 0) rfl;have OF:∀W',Cg 43 #[I x] W' fun P b=>P= .returned (N v)/\W'=b:=fun W'=>R▸FT x (by rw[<-R];omega) W'
 have C2:Aj [(ad d 0,vP e 0),(ad e 3,vQ gv s.H cv),(ad gv v,N k)] i.drew:= .cons o2 (.cons e3 (.cons a9 .nil));by_cases hk0:k=0
 .have q1:((k:Int)==0)=true:=by simpa using hk0
  refine Dr (O:=[(∀b,CR (some (Aj [(ad d 0,vP e 0),(ad e 3,vQ gv s.H cv),(ad gv v,N k)])) i.drew b->Cg 43 #[I x] b fun P o=>P=Ending.returned (N v)/\b=o),0<=(v:Int)/\(v:Int)<(s.H.length:Int),(.bool ((k:Int)==(0:Int)):Value)=bT]) [] (Gi [(0,.c 0),(3,.c 1),(5,.q (N v)),(7,.c 2),(8,.T)] 0 9) [] [1,2,4,5,21] [(21,bT)] ⟨(fun b _=>OF b),oO,(vB q1),trivial⟩ C2<|AK<|Ae (Bg rfl (Ad<|B8 [] [4] [(4,vS b5 1 1)]<|Ae (Br (Bc nR (fun a ha=>PC (r:=[x]) (ds:=[]) (A5:=some (ad b5 0)) (c5:=1) Y.drew rfl rfl A oS ha rfl)))))
 .have q1:((k:Int)==0)=false:=by simpa using hk0
  refine Dr (O:=[(∀b,CR (some (Aj [(ad d 0,vP e 0),(ad e 3,vQ gv s.H cv),(ad gv v,N k)])) i.drew b->Cg 43 #[I x] b fun P o=>P=Ending.returned (N v)/\b=o),0<=(v:Int)/\(v:Int)<(s.H.length:Int),(.bool ((k:Int)==(0:Int)):Value)=bF]) [] (Gi [(0,.c 0),(3,.c 1),(5,.q (N v)),(7,.c 2),(8,.F)] 0 9) [] [1,2,4,5,21] [(21,bF)] ⟨(fun b _=>OF b),oO,(vB q1),trivial⟩ C2<|AK ?_;obtain⟨k,rfl⟩:∃j,k=j+1:=⟨k- 1,oO⟩;have⟨hM,U,a2,a5⟩:=YC M b1;refine Ae (B1 rfl (AZ (Ae (Ad ?_))));have h3:=((Y.drew.below ((Below.refl i.drew.heap.size i.drew).alloc (Ai _) (.map #[] 0))).mark (heap_alloc_new i.drew _) rfl Y.st.size oS);have m3:CM (i.drew.alloc (.map #[] 0)) i.drew.heap.size s.H.length:=⟨fun _=>none,0,E5.made i.drew,fun z hz=>absurd rfl hz⟩;generalize b0:(Obj.map #[] 0)=ob at h3 m3;refine AY [.one 0,Cu 1 2 [(2,.q (N v))],.one 3,AM 4 1,.one 5,.one 6]<|OK 23 oK oK oK oK (.inl oK) ?_;rw[b0];generalize i.drew.heap.size=Q at h3 m3⊢;generalize(i.drew.alloc ob)=w3 at h3 m3⊢;have⟨w4,up,m4,g4⟩:=m3.set a4 hM;have⟨a0,a3,b4⟩:=m4.obj;have h4:=h3.kept g4 a3 b4;refine G4 (O:=[(∀b,CR none w3 b->Cg 43 #[I x] b fun P o=>P=Ending.returned (N v)/\b=o)]) [1,2,4,5,23,25] [(23,.map (some Q)),(25,N v)] ⟨(fun b _=>OF b),trivial⟩<|I9 134 (.map (some Q)) (N v) bT oK oK oK up (.inl oK)<|AN [1,2,4,5,26] [(26,.map (some Q))] ?_;have h5:=h4.new 6 134 (.map none);refine FX 6 134 (.map none) oK oK oK oK (.inl oK) ?_;have Z:=h5.put 6 (AB _ _ _) 0 (.map (some Q));refine Cz (.map (some Q)) (h5.cell 6 (AB _ _ _) (j:=0) (u:= .map none) (by rw[AB];rfl)) (h5.free 6 (AB _ _ _) 0)<|BG [1,2,4,5,6] ?_;have k6:=(Z.mks.2 (Q,a0) oS).1;have m6:=m4.keep (k6.trans a3.symm);generalize w4.heap.size=t at Z m6 k6⊢;generalize((w4.alloc (.cells #[.map none] 134)).setCell (ad t 0) (.map (some Q)))=w6 at Z m6 k6⊢;refine Ae (Ad (Ad ?_));have o2:=Z.cell 2 (g:=d) rfl (j:=0) (u:=vP e 0) rfl;have⟨J,G,e1,e5,c3,b9,c1⟩:=Z.rep.trailE he;have q2:IntKind.i64.wrap ((s.L.length:Int)-(1:Int))=(s.L.length:Int)- 1:=Bb _ (by unfold lim at U;omega);have C6:Aj [(ad d 0,vP e 0),(ad e 5,sq J s.L G)] w6:= .cons o2 (.cons e5 .nil);refine BA [(0,.c 0),(3,.c 1),(5,.e (I ((s.L.length:Int)- 1)))] [1,2,4,5,6,7] [qv 6 t,(7,I ((s.L.length:Int)- 1))] (Bo (vJ q2)) C6 ?_;obtain⟨st,a1⟩:∃a,s.D[0]?=some a:=⟨_,Ab a2⟩;refine BV (L':=[qv 2 d,(4,An),(5,vS b5 1 1),qv 6 t,(7,I ((s.L.length:Int)- 1))]) (Ae (Bd ?_));refine Ty (fun n L D W=>∃k r J G ds,D=ds.map mk/\L=[qv 2 d,(4,An),(5,sq J r G),qv 6 t,(7,I (((k:Nat):Int)- 1))]/\k=n/\k<=s.L.length/\r.length+k<=s.L.length+1/\fM B p s S w e d t Q x r (sq J r G) ds W) (n:=s.L.length)
   ⟨s.L.length,[x],some (ad b5 0),1,[],rfl,rfl,rfl,Ai _,oT,a0,_,_,Z,⟨rfl,rfl,rfl,rfl⟩,m6,rfl,rfl,A⟩ ?_
  rintro n L D W ⟨k,r,J,G,ds,rfl,rfl,rfl,c9,c6,hJ⟩;have⟨ob,T,C,h,hv,hm,t50,b7,A⟩:=id hJ;have o2:=h.cell 2 hv.t2 (j:=0) (u:=vP e 0) (by rw[hv.c2];rfl);have⟨gs,cs,_,e6,_,_,rS,_,_,_⟩:=h.rep.startsA he a2;have a8:=rS _ _ a1;refine Ad (Ad ?_);have C6:Aj [(ad d 0,vP e 0),(ad e 6,vQ gs s.D cs),(ad gs 0,N st)] W:= .cons o2 (.cons e6 (.cons a8 .nil));by_cases c8:st<k
  .have q1:(st:Int)<=((k:Int)- 1:Int):=oO;refine BA [(1,.c 0),(4,.c 1),(6,.c 2),(7,.T)] [2,4,5,6,7,40] [qv 2 d,(4,An),(5,sq J r G),qv 6 t,(7,I ((k:Int)- 1)),(40,bT)] (EP (oO:oX 0 s.D.length) (EE q1)) C6<|Ae (Bg rfl (AZ (Ae (Ad (Bd ?_)))));obtain⟨j,rfl⟩:∃j,k=j+1:=⟨k- 1,oO⟩;have ej:(((j+1:Nat):Int)- 1)=(j:Int):=oO;rw[ej];obtain⟨l,hj⟩:∃l,s.L[j]?=some l:=⟨_,Ab oO⟩;refine Eu (L':=[qv 2 d,(4,An),(5,sq J r G),qv 6 t,(7,N j)]) (YD hJ he hM U hj oO (a5 l (AQ hj)) fun w1 r' A' c' a7 a6 c7 P b3=>?_);have q3:IntKind.i64.wrap ((j:Int)-(1:Int))=(j:Int)- 1:=Bb _ (by unfold lim at U;omega);rcases b3 with rfl|rfl
   .refine BN (Ae<|Be [(1,.e (I ((j:Int)- 1)))] [2,4,5,6,7] [qv 2 d,(4,An),(5,sq A' r' c'),qv 6 t,(7,I ((j:Int)- 1))] (Bo (vJ q3))<|My (m:=j) oO ⟨j,r',A',c',a7,rfl,rfl,rfl,oO,oO,a6⟩)
   .refine Ck (Ae<|Be [(1,.e (I ((j:Int)- 1)))] [2,4,5,6,7] [qv 2 d,(4,An),(5,sq A' r' c'),qv 6 t,(7,I ((j:Int)- 1))] (Bo (vJ q3))<|My (m:=j) oO ⟨j,r',A',c',a7,rfl,rfl,rfl,oO,oO,a6⟩)
  .have q1:¬(st:Int)<=((k:Int)- 1:Int):=oO;refine BA [(1,.c 0),(4,.c 1),(6,.c 2),(7,.F)] [2,4,5,6,7,40] [qv 2 d,(4,An),(5,sq J r G),qv 6 t,(7,I ((k:Int)- 1)),(40,bF)] (EP (oO:oX 0 s.D.length) (Er q1)) C6<|Ae (B1 rfl (BQ (Bc nX (Tx nX (Ck (Ae (Ad<|B8 [] [4] [(4,sq J r G)]<|Ae (Br (fun a ha=>PC h.unmark t50 b7 A oO ha rfl)))))))))
def nk:Sh:= .seq (.reg 0) (.seq (.seq (.reg 1) (.cond (.tmp 4) (.seq (.reg 2) .ret) .skip)) (.seq (.reg 3) .ret))
theorem ce:f22.body=some (nk.code f22):=oK
variable{w:World} {V:Value} {n:Nat}
theorem KR {k:List Int} (h:Dj w V 1 n (k.map I)) (t:n<=lim):
 Cg 22 #[V] w fun H l=>∃z,H= .returned z/\Ba w.heap.size l z (3,1,n,k.map I)/\Bl w l:=by
 refine CN ce<|Ad<|B8 [] [0,2] [(2,.slice none 0 0)]<|Ae (Ad (Ad ?_));rcases h.2 with⟨c,rfl,rfl⟩|⟨g,o,c,rfl,C,D⟩
 .refine AY [AM 0 1,.one 1]<|AN [0,2,3] [(0,.slice none 0 c),(3,.slice none 0 c)]<|CH 4 bT w<|BG [0,2,4]<|Ae (Bg rfl (Ad<|B8 [] [2] []<|Ae (Br (Bc nR (Bu rfl (v:= .slice none 0 0) rfl ⟨_,rfl,⟨h.1,.inl ⟨rfl,rfl⟩⟩,Below.refl _ _⟩)))))
 .refine AY [AM 0 1,.one 1]<|AN [0,2,3] [(0,.slice (some (ad g o)) n c),(3,.slice (some (ad g o)) n c)]<|CH 4 bF w<|BG [0,2,4]<|Ae (B1 rfl (AZ (Ae (Ad ?_))));have⟨m,B,q⟩:=Af.1 Ek;injection q with q a;injection a with a p;have f:(w.alloc (.cells #[] 3)).ownsRow w.heap.size 3 1 (vS w.heap.size 0 0) 0 []:=⟨rfl,.inr ⟨w.heap.size,0,#[],rfl,Ai _,heap_alloc_new w _,Ai _,oD,oS,oS⟩⟩;have d:Bl w (w.alloc (.cells #[] 3)):=(Below.refl _ _).alloc (Ai _) _;have s:Reads (w.alloc (.cells #[] 3)) (fun _=>True) 1 (some (ad g o)) n (k.map I):=⟨h.1,fun _=>⟨_,rfl,trivial,fun j u r=>by
   rw[show((ad g o):Addr).add j=(ad g (o+j)) by cases j<;>simp[Addr.add]];exact(Gs (d.block g C) _).trans (D j u r)⟩⟩
  have⟨J,l,G,q2,q3,q4⟩:=DW (P:=prog) (w.alloc (.cells #[] 3)) w.heap.size 25 25 3 m _ 1 8 u25 B q a p rfl oO _ 0 [] f _ _ n c (k.map I) s (fun u r=>by obtain⟨x,_,rfl⟩:=BB.1 r;rfl) (by unfold lim at t;unfold maxLen;omega) (by unfold lim at t;omega) oS;rw[CC] at q2;obtain⟨A,y,rfl⟩:=Cr q2;refine AY [.one 0,AM 1 1,.one 2,AM 3 1]<|CH 5 (vS w.heap.size 0 0) (w.alloc (.cells #[] 3))<|AN [0,2,5,6] [(5,vS w.heap.size 0 0),(6,.slice (some (ad g o)) n c)]<|DY 7 25 25 (vS w.heap.size 0 0) (.slice (some (ad g o)) n c) oK oK oK oK G (.inl oK)<|AN [2] [(2,.slice A n y)]<|AK<|Ae (Br (Bu rfl (v:= .slice A n y) rfl ⟨_,rfl,q2,q3.os.trans d.os,q3.tape.trans d.tape,q3.output.trans d.output,Bj d.size q3.size,fun b i=>(q3.block b (Bx i d.size) (fun e=>?_)).trans (d.block b i)⟩));have e:=Ah e;simp at e;omega
theorem dl {j:List Int} (h:aH w V 1 n (j.map I)) (q:n<=lim):
 Cg 22 #[V] w fun C k=>∃s,C= .returned s/\Ba w.heap.size k s (3,1,n,j.map I)/\Bl w k:=by
 rcases h with h|⟨rfl,i,A,c,rfl⟩
 .exact KR h q
 cases A with
 |none=>exact KR ⟨by simp[i],.inl ⟨c,rfl,rfl⟩⟩ q
 |some ad=>
 have i:j=[]:=List.map_eq_nil_iff.1 i;subst i;refine CN ce<|Ad<|B8 [] [0,2] [(2,.slice none 0 0)]<|Ae (Ad (Ad<|AY [AM 0 1,.one 1]<|AN [0,2,3] [(3,.slice (some ad) 0 c)]<|CH 4 bF w<|BG [0,2,4]<|Ae (B1 rfl (AZ (Ae (Ad ?_))))));have⟨l,y,o⟩:=Af.1 Ek;injection o with o a;injection a with a m;have f:(w.alloc (.cells #[] 3)).ownsRow w.heap.size 3 1 (vS w.heap.size 0 0) 0 []:=⟨rfl,.inr ⟨w.heap.size,0,#[],rfl,Ai _,heap_alloc_new w _,Ai _,oD,oS,oS⟩⟩;have d:Bl w (w.alloc (.cells #[] 3)):=(Below.refl _ _).alloc (Ai _) _;have p:Reads (w.alloc (.cells #[] 3)) (fun _=>True) 1 (some ad) 0 []:=⟨rfl,fun z=>absurd z oO⟩;have⟨D,k,B,q2,q3,q4⟩:=DW (P:=prog) (w.alloc (.cells #[] 3)) w.heap.size 25 25 3 l _ 1 8 u25 y o a m rfl oO _ 0 [] f _ _ 0 c [] p (fun u x=>by cases x) (by unfold maxLen;omega) oO oS;obtain⟨t,r,rfl⟩:=Cr q2;refine AY [.one 0,AM 1 1,.one 2,AM 3 1]<|CH 5 (vS w.heap.size 0 0) (w.alloc (.cells #[] 3))<|AN [0,2,5,6] [(5,vS w.heap.size 0 0),(6,.slice (some ad) 0 c)]<|DY 7 25 25 (vS w.heap.size 0 0) (.slice (some ad) 0 c) oK oK oK oK B (.inl oK)<|AN [2] [(2,.slice t 0 r)]<|AK<|Ae (Br (Bu rfl (v:= .slice t 0 r) rfl ⟨_,rfl,q2,q3.os.trans d.os,q3.tape.trans d.tape,q3.output.trans d.output,Bj d.size q3.size,fun b g=>(q3.block b (Bx g d.size) (fun e=>?_)).trans (d.block b g)⟩));have e:=Ah e;simp at e;omega
theorem TF:(prog.info? 4).map (fun i=>(i.zero,i.size,i.bytes))=some (some bF,1,1):=oK
theorem u32b:prog.underlying 32=some (.slice 4):=oK
def cb0:Sh:= .seq (.reg 0) (.seq (.seq (.reg 1) (.cond (.tmp 4) (.seq (.reg 2) .ret) .skip)) (.seq (.reg 3) .ret))
theorem iJ:f101.body=some (cb0.code f101):=oK
theorem iK {k:List Bool} (h:Dj w V 1 n (k.map Value.bool)) (t:n<=lim):
 Cg 101 #[V] w fun H l=>∃z,H= .returned z/\Ba w.heap.size l z (4,1,n,k.map Value.bool)/\Bl w l:=by
 refine CN iJ<|Ad<|B8 [] [0,2] [(2,.slice none 0 0)]<|Ae (Ad (Ad ?_));rcases h.2 with⟨c,rfl,rfl⟩|⟨g,o,c,rfl,C,D⟩
 .refine AY [AM 0 1,.one 1]<|AN [0,2,3] [(0,.slice none 0 c),(3,.slice none 0 c)]<|CH 4 bT w<|BG [0,2,4]<|Ae (Bg rfl (Ad<|B8 [] [2] []<|Ae (Br (Bc nR (Bu rfl (v:= .slice none 0 0) rfl ⟨_,rfl,⟨h.1,.inl ⟨rfl,rfl⟩⟩,Below.refl _ _⟩)))))
 .refine AY [AM 0 1,.one 1]<|AN [0,2,3] [(0,.slice (some (ad g o)) n c),(3,.slice (some (ad g o)) n c)]<|CH 4 bF w<|BG [0,2,4]<|Ae (B1 rfl (AZ (Ae (Ad ?_))));have⟨m,B,q⟩:=Af.1 TF;injection q with q a;injection a with a p;have f:(w.alloc (.cells #[] 4)).ownsRow w.heap.size 4 1 (vS w.heap.size 0 0) 0 []:=⟨rfl,.inr ⟨w.heap.size,0,#[],rfl,Ai _,heap_alloc_new w _,Ai _,oD,oS,oS⟩⟩;have d:Bl w (w.alloc (.cells #[] 4)):=(Below.refl _ _).alloc (Ai _) _;have s:Reads (w.alloc (.cells #[] 4)) (fun _=>True) 1 (some (ad g o)) n (k.map Value.bool):=⟨h.1,fun _=>⟨_,rfl,trivial,fun j u r=>by
   rw[show((ad g o):Addr).add j=(ad g (o+j)) by cases j<;>simp[Addr.add]];exact(Gs (d.block g C) _).trans (D j u r)⟩⟩
  have⟨J,l,G,q2,q3,q4⟩:=DW (P:=prog) (w.alloc (.cells #[] 4)) w.heap.size 32 32 4 m _ 1 1 u32b B q a p rfl oO _ 0 [] f _ _ n c (k.map Value.bool) s (fun u r=>by obtain⟨x,_,rfl⟩:=BB.1 r;rfl) (by unfold lim at t;unfold maxLen;omega) (by unfold lim at t;omega) oS;rw[CC] at q2;obtain⟨A,y,rfl⟩:=Cr q2;refine AY [.one 0,AM 1 1,.one 2,AM 3 1]<|CH 5 (vS w.heap.size 0 0) (w.alloc (.cells #[] 4))<|AN [0,2,5,6] [(5,vS w.heap.size 0 0),(6,.slice (some (ad g o)) n c)]<|DY 7 32 32 (vS w.heap.size 0 0) (.slice (some (ad g o)) n c) oK oK oK oK G (.inl oK)<|AN [2] [(2,.slice A n y)]<|AK<|Ae (Br (Bu rfl (v:= .slice A n y) rfl ⟨_,rfl,q2,q3.os.trans d.os,q3.tape.trans d.tape,q3.output.trans d.output,Bj d.size q3.size,fun b i=>(q3.block b (Bx i d.size) (fun e=>?_)).trans (d.block b i)⟩));have e:=Ah e;simp at e;omega
end Go.Proofs.YtboflajfckfphaaGreatDoor
section

end
namespace Go.Proofs.YtboflajfckfphaaGreatDoor
open Go.RowKit Bud Go
set_option maxRecDepth 1000000
section
theorem P9 {s:St} (h:Hs s=true):(∀(k:Nat) (r:List Nat),s.W[k]?=some r->∀c∈r,c<s.K.length)/\(∀c∈s.Q,c<s.K.length)/\∀(x:Option Nat),x∈s.Y->∀c,x=some c->c<s.K.length:=by
 unfold Hs at h;rw[AE,AE,Bi,Bi,Bi] at h;have⟨⟨i,f⟩,e⟩:=h;refine⟨fun k r d c a=>?_,fun c a=>by simpa using f c a,fun x b c a=>?_⟩
 .have:=i r (AQ d);rw[Bi] at this;simpa using this c a
 .subst a;simpa using e _ b
def EX (S:Sl) (n g:Nat) (V:Value):Sl
 | .cl i=>if i=n then vS g 1 1 else S (.cl i)
 | .lit i=>if i=n then V else S (.lit i)
 |r=>S r
def Ko (p:Px) (n:Nat) (a:Int):Px:=⟨p.proof,fun i=>if i=n then a else p.lev i⟩
variable{g:Nat} {V:Value}
theorem Vm {S:Sl} {n:Nat} {i:Nat} (h:i≠n):E6 (EX S n g V) i=E6 S i:=by
 unfold E6;show Sk (if i=n then _ else _)=_;rw[if_neg h]
theorem NL {S:Sl} {n:Nat}:E6 (EX S n g V) n=vP g 0:=by
 show Sk (if n=n then _ else _)=_;rw[if_pos rfl];rfl
theorem Sa {p:Px} {s:St} {S:Sl} {x:Cl} {lv:Int} (j:Hs s=true) (r:Ro) (m:r≠ .cl s.K.length) (l:r≠ .lit s.K.length):
  EX S s.K.length g V r=S r/\cont (Ko p s.K.length lv) {s with K:=s.K++[x]} (EX S s.K.length g V) r=cont p s S r:=by
 have⟨d1,d2,d3⟩:=P9 j;have old:∀c,c<s.K.length->E6 (EX S s.K.length g V) c=E6 S c:=fun c n=>Vm oO
 cases r with
 |E=>exact⟨rfl,rfl⟩
 |W=>exact⟨rfl,rfl⟩
 |V=>exact⟨rfl,rfl⟩
 |H=>exact⟨rfl,rfl⟩
 |L=>exact⟨rfl,rfl⟩
 |D=>exact⟨rfl,rfl⟩
 |X=>exact⟨rfl,rfl⟩
 |O=>exact⟨rfl,rfl⟩
 |P=>exact⟨rfl,rfl⟩
 |F=>exact⟨rfl,rfl⟩
 |U=>exact⟨rfl,rfl⟩
 |Y=>
  refine⟨rfl,?_⟩;simp only[cont];rw[Di (g:=IS S) fun y b=>?_]
  cases y with
  |none=>rfl
  |some c=>exact old c (d3 _ b c rfl)
 |Q=>
  refine⟨rfl,?_⟩;simp only[cont];rw[Di (g:=E6 S) fun y b=>old y (d2 y b)]
 |row k=>
  refine⟨rfl,?_⟩;simp only[cont]
  cases f:s.W[k]? with
  |none=>rfl
  |some a=>
   simp only;rw[Di (g:=E6 S) fun y b=>old y (d1 k a f y b)]
 |cl i=>
  have d:i≠s.K.length:=fun e=>m (by rw[e])
  refine⟨if_neg d,?_⟩;have e:(s.K++[x])[i]?=s.K[i]?:=by
   rcases Do i s.K.length with h|h
   .exact AW h
   .rw[BX oT,BX h]
  simp only[cont];rw[e]
  cases s.K[i]? with
  |none=>rfl
  |some c=>
   simp only[FN,EX,Ko,if_neg d]
 |lit i=>
  have d:i≠s.K.length:=fun e=>l (by rw[e])
  refine⟨if_neg d,?_⟩;have e:(s.K++[x])[i]?=s.K[i]?:=by
   rcases Do i s.K.length with h|h
   .exact AW h
   .rw[BX oT,BX h]
  simp only[cont];rw[e]
section
variable{B:Nat} {p p':Px} {s s':St} {S0 S S':Sl} {w0 w w':World} {T:Nat->Value} {C:Nat->Cn} {bs:List (Nat×Obj)}
theorem Loc.addCl (h:Loc B p s S0 S w0 w T C bs) (P:B<=w0.heap.size) (k:Nat) {l:List Int} (O:C k=(3,1,l.length,l.map I)) (J:Hs s=true) (b:Bool) (i act:Int):
  Loc B (Ko p s.K.length i) {s with K:=s.K++[⟨l,b,act⟩]} S0 (EX S s.K.length w.heap.size (T k)) w0 (w.alloc (.cells #[T k,.bool b,I i,I act] 239)) (CI T k An) (CI C k F1) bs:=by
 have M:(w.alloc (.cells #[T k,.bool b,I i,I act] 239)).heap[w.heap.size]?=some (.cells #[T k,.bool b,I i,I act] 239):=heap_alloc_new w _;have u:Bl w (w.alloc (.cells #[T k,.bool b,I i,I act] 239)):=(Below.refl _ _).alloc (Ai _) _;have L:EX S s.K.length w.heap.size (T k) (.cl s.K.length)=vS w.heap.size 1 1:=if_pos rfl;have el:EX S s.K.length w.heap.size (T k) (.lit s.K.length)=T k:=if_pos rfl;have v:∀r c,(EX S s.K.length w.heap.size (T k) r).ownBlock=some c->(r= .cl s.K.length/\c=w.heap.size)∨(r= .lit s.K.length/\(T k).ownBlock=some c)∨(r≠ .cl s.K.length/\r≠ .lit s.K.length/\(S r).ownBlock=some c):=fun r c o=>by
  by_cases f:r= .cl s.K.length
  .subst f;rw[L] at o;exact .inl ⟨rfl,(Ah o).symm⟩
  by_cases d:r= .lit s.K.length
  .subst d;rw[el] at o;exact .inr (.inl ⟨rfl,o⟩)
  .rw[(Sa (p:=p) (x:=⟨l,b,act⟩) (lv:=i) J r f d).1] at o;exact .inr (.inr ⟨f,d,o⟩)
 refine⟨⟨fun r=>?_,fun r t c n f d=>?_,Bj h.rep.base u.size⟩,⟨u.os.trans h.st.os,u.tape.trans h.st.tape,u.output.trans h.st.output,Bj h.st.size u.size,fun c A H=>(u.block c (Bx A h.st.size)).trans (h.st.keep c A H),fun r c o=>?_⟩,fun j=>?_,fun j m c n f d=>?_,fun j c z r o=>?_,⟨h.mks.1,fun q G=>⟨(u.block q.1 (Ak.1 (h.mks.2 q G).1).1).trans (h.mks.2 q G).1,(h.mks.2 q G).2⟩⟩⟩
 .by_cases f:r= .cl s.K.length
  .subst f;rw[L];have a:cont (Ko p s.K.length i) {s with K:=s.K++[⟨l,b,act⟩]} (EX S s.K.length w.heap.size (T k)) (.cl s.K.length)=(239,4,1,[T k,.bool b,I i,I act]):=by
    simp[cont,FN,EX,Ko]
   rw[a];exact⟨rfl,.inr ⟨w.heap.size,1,#[T k,.bool b,I i,I act],rfl,h.rep.base,M,Ai 1,oD,oS,oS⟩⟩
  by_cases d:r= .lit s.K.length
  .subst d;rw[el];have a:cont (Ko p s.K.length i) {s with K:=s.K++[⟨l,b,act⟩]} (EX S s.K.length w.heap.size (T k)) (.lit s.K.length)=(3,1,l.length,l.map I):=by
    simp[cont]
   rw[a,<-O];exact(h.part k).mono fun c y=>⟨Bj P (h.lo y).1,u.block c (h.lo y).2⟩
  .have⟨D,a⟩:=Sa (p:=p) (S:=S) (g:=w.heap.size) (V:=T k) (x:=⟨l,b,act⟩) (lv:=i) J r f d;rw[D,a];exact(h.rep.part r).mono fun c y=>⟨(h.rep.lo y).1,u.block c (h.rep.lo y).2⟩
 .rcases v r c f with⟨D,a⟩|⟨D,a⟩|⟨_,_,a⟩<;>rcases v t c d with⟨f1,f2⟩|⟨f1,f2⟩|⟨_,_,f2⟩
  .exact n (D.trans f1.symm)
  .have:=(h.lo f2).2;omega
  .have:=(h.rep.lo f2).2;omega
  .have:=(h.lo a).2;omega
  .exact n (D.trans f1.symm)
  .exact h.out k c a t f2
  .have:=(h.rep.lo a).2;omega
  .exact h.out k c f2 r a
  .exact h.rep.apart r t c n a f2
 .rcases v r c o with⟨_,a⟩|⟨_,a⟩|⟨_,_,a⟩
  .exact .inr (by rw[a];exact h.st.size)
  .exact .inr (h.lo a).1
  .exact h.st.own r c a
 .by_cases e:j=k
  .subst e;rw[AB,AB];exact⟨rfl,.inl ⟨rfl,rfl⟩⟩
  .rw[Au _ _ e,Au _ _ e];exact(h.part j).mono fun c y=>⟨(h.lo y).1,u.block c (h.lo y).2⟩
 .by_cases e:j=k
  .subst e;rw[AB] at f;cases f
  .by_cases a:m=k
   .subst a;rw[AB] at d;cases d
   .rw[Au _ _ e] at f;rw[Au _ _ a] at d;exact h.apart j m c n f d
 .by_cases e:j=k
  .subst e;rw[AB] at z;cases z
  .rw[Au _ _ e] at z;rcases v r c o with⟨_,a⟩|⟨_,a⟩|⟨_,_,a⟩
   .have:=(h.lo z).2;omega
   .exact h.apart j k c e z a
   .exact h.out j c z r a
theorem Rep.putProof {e n:Nat} (h:Rep B p s S w) (f:S .E= vS e 1 n) (v:Value):
  Rep B ⟨v,p.lev⟩ s S (w.setCell (ad e 14) v)/\Step S S w (w.setCell (ad e 14) v):=by
 have l:(w.setCell (ad e 14) v).heap.size=w.heap.size:=oS;have⟨a,k⟩:=h.put .E (s':=s) f 14 p.proof (by simp[cont,El]) (fun t _=>rfl);refine⟨h.upd (R:=fun t=>t= .E) oO (fun t c=>⟨rfl,by cases t<;>first|rfl|exact absurd rfl c⟩) (fun t b c d=>Below.heap_setCell _ _ _ _ (fun j=>?_)) (fun t c=>?_) (fun t _ b d=> .inl d) (fun t o b a k i=>absurd (a.trans k.symm) i),?_⟩
 .have:b=e:=j;subst this;exact h.apart t .E b c d (by rw[f];rfl)
 .subst c;have a:=h.part .E;unfold Ba at a⊢;rw[f] at a⊢;have:=FY a 14 v;exact this.1
 .exact⟨by simp[World.setCell],by simp[World.setCell],by simp[World.setCell],oO,fun b _ d=>Below.heap_setCell _ _ _ _ (fun j=>d .E (by rw[f];have:b=e:=j;subst this;rfl)),fun r b m=> .inl ⟨r,m⟩⟩
end
end
end Go.Proofs.YtboflajfckfphaaGreatDoor
namespace Go.Proofs.YtboflajfckfphaaGreatDoor
open Go.RowKit Bud Go Go.Proofs.Tryz
set_option maxRecDepth 1000000
def jZ:Sh:= .seq (.reg 9) (.cond (.tmp 61) (.reg 10) .skip)
def dI:Sh:= .seq (.reg 17) (.seq (.reg 18) (.exit 3))
def dJ:Sh:= .seq (.seq (.reg 14) (.cond (.tmp 103) .skip (.exit 4))) (.seq (.block 5 (.seq (.reg 16) (.cond (.tmp 115) dI .skip))) (.reg 15))
def dK:Sh:= .seq (.reg 12) (.exit 3)
def YX:Sh:= .seq (.reg 21) (.seq (.reg 22) (.seq (.reg 23) (.seq (.reg 24) .ret)))
def ja:Sh:= .seq (.reg 8) (.seq jZ (.seq (.seq (.reg 11) (.cond (.tmp 92) dK .skip)) (.seq (.seq (.reg 13) (.block 4 (.loop dJ))) (.seq (.reg 19) (.seq (.seq (.reg 20) (.cond (.tmp 182) YX .skip)) (.reg 25))))))
def jc:Sh:= .seq (.reg 7) (.seq (.cond (.tmp 49) .skip (.exit 2)) (.seq (.block 3 ja) (.reg 26)))
def mY:Sh:= .seq (.reg 2) (.seq (.reg 3) (.seq (.reg 4) (.seq (.reg 5) (.seq (.label 0) (.seq (.seq (.reg 6) (.block 2 (.loop jc))) (.reg 27))))))
def mZ:Sh:= .seq (.seq (.reg 1) (.cond (.tmp 18) .skip (.exit 0))) (.block 1 (.scope mY))
def ma:Sh:= .seq (.reg 0) (.seq (.block 0 (.loop mZ)) (.seq (.reg 28) .ret))
theorem fg:f103.body=some (ma.code f103):=oK
theorem me {B:Nat} {p:Px} {u:St} {S:Sl} {w:World} {e v c m n o k i:Nat} {x:Cl} {d a b:Int} {Q:EO} [BZ Q]
 (h:Rep B p u S w) (g:u.K[c]?=some x) (A:x.l[0]?=some a) (r:x.l[1]?=some b) (hP:E6 S c=vP v 0) (t:IntKind.i64.wrap (-d)=-d)
 (U:∀(P:St) (J:World),(if a=-d then Gb u c 0 1 else some u)=some P->Rep B p P S J->Step S S w J->HN f103 (fun a w=>Q .normal a w) [qv 0 e,(3,I d),(4,vS m n o),(5,vS m k o),(6,N i),qv 7 v,(46,vS m n o),(47,N n),(48,N i)] J):
 HW f103 jZ Q [qv 0 e,(3,I d),(4,vS m n o),(5,vS m k o),(6,N i),qv 7 v,(46,vS m n o),(47,N n),(48,N i)] w:=by
 have⟨O,cc,hC,f,M,_,_,_,_,lc⟩:=h.clA g;rw[hP] at f;obtain rfl:v=O:=by injection f with f;injection f with f;injection f with f
 have a2:1<x.l.length:=(Aa.1 r).1;have⟨s,q,D,a1,a0,R,fL,ll⟩:=h.litA g oO;rw[D] at M;have y:=R 0 a A;have z:=R 1 b r;refine Ad ?_;have C0:Aj [(ad v 0,vQ s x.l q),(ad s 0,I a),(ad s 1,I b)] w:= .cons M (.cons y (.cons z .nil));by_cases G:a=-d
 .have L:(a==-d)=true:=by simpa using G
  refine BA [(3,.c 0),(5,.c 1),(7,.e (I (-d))),(8,.T)] [0,3,4,5,6,7,46,47,48,61] [qv 0 e,(3,I d),(4,vS m n o),(5,vS m k o),(6,N i),qv 7 v,(46,vS m n o),(47,N n),(48,N i),(61,bT)] (NW (oO:oX 0 x.l.length) (vJ t) (vB L)) C0<|Ae<|Bg rfl ?_;have C1:Aj [(ad v 0,vQ s x.l q),(ad s 0,I a),(ad s 1,I b)] w.drew:= .cons M (.cons y (.cons z .nil));refine Dr [21,23] (Gi [(3,.c 0),(7,.c 0),(11,.c 0),(13,.c 2),(17,.c 0),(19,.c 1)] 0 21) [.one 21,.ps [(22,.p)],.one 23] [0,3,4,5,6,7,46,47,48,69,75,81,82] [(69,vQ s x.l q),(75,I b),(81,I a),qv 82 s] (NW (oO:oX 1 x.l.length) (oO:oX 0 x.l.length) (oO:oX 0 x.l.length)) C1 ?_;have H:=(h.drew.putLit g D 0 b);have C:({u with K:=u.K.set c {x with l:=x.l.set 0 b}}:St).K[c]?=some {x with l:=x.l.set 0 b}:=AD (Aa.1 g).1;have Z:=H.1.putLit C D 1 a;refine Cz (I b) y (fL 0)<|Fh [0,3,4,5,6,7,46,47,48,81,83] [(83,vP s 1)] (Bo (oO:oX 1 x.l.length))<|Cz (I a) (H.1.cell (.lit c) D (j:=1) (u:= .int .i64 b) (by simp[cont,AD (Aa.1 g).1,List.getElem?_set,r])) (H.1.free (.lit c) D 1) ?_;refine BG [0,3,4,5,6,7,46,47,48]<|U {u with K:=u.K.set c {x with l:=(x.l.set 0 b).set 1 a}} _ ?_ ?_ ((Step.refl S w).drew.trans (H.2.trans Z.2))
  .rw[if_pos G];unfold Gb;rw[g];simp only[A,r]
  .have Y:=Z.1;simp only[Hr] at Y;exact Y
 .have L:(a==-d)=false:=by simpa using G
  refine BA [(3,.c 0),(5,.c 1),(7,.e (I (-d))),(8,.F)] [0,3,4,5,6,7,46,47,48,61] [qv 0 e,(3,I d),(4,vS m n o),(5,vS m k o),(6,N i),qv 7 v,(46,vS m n o),(47,N n),(48,N i),(61,bF)] (NW (oO:oX 0 x.l.length) (vJ t) (vB L)) C0<|Ae<|B1 rfl (AZ (BV (U u _ (if_neg G) h (Step.refl _ _))))
def GB (x:Ro):Prop:=isRow x∨x= .L
variable{u:St} {a:Int}
theorem TT {t:St} {y:Option Nat} (h:Ik u a y=some t) (x:List (List Nat)):Ik {u with W:=x} a y=some {t with W:=x}:=by
 unfold Ik at h⊢;split at h
 case isFalse=>cases h
 rename_i b;rw[if_pos b];injection h with h;subst h;rfl
theorem WB {t:St} {y:Option Nat} (h:Ik u a y=some t):t.W=u.W/\t.K=u.K/\t.d=u.d:=by
 unfold Ik at h;split at h
 case isFalse=>cases h
 injection h with h;subst h;exact⟨rfl,rfl,rfl⟩
theorem RQ:(prog.info? 237).map (fun i=>(i.zero,i.size))=some (some (.pointer none),1):=oK
theorem WC:prog.underlying 232=some (.slice 237):=oK
theorem RR {B:Nat} {p:Px} {S:Sl} {w:World} {K e n d k c f:Nat} {b:List Nat} (h:Rep B p u S w) (j:u.W[K]?=some b) (i:S (.row K)=vS e n d) (q:k<n) (s:E6 S c=vP f 0):
  ∃W,(Builtin.append_ #[232,232] 232 #[vS e k d,vS w.heap.size 1 1]).run prog (w.alloc (.cells #[vP f 0] 237))= .ok (vS e (k+1) d) W/\Rep B p {u with W:=u.W.set K (b.set k c)} S W/\Step S S w W:=by
 have⟨y,l,G,D,C,A,z⟩:=h.rowCells j i;have⟨m,r,g⟩:=Af.1 RQ;injection g with g o;have⟨W,x,v,t⟩:=du (P:=prog) w 232 232 237 WC r o l 237 (u:=vP f 0) rfl (oO:k+1<=d) oO;exact⟨W,x,h.keepRow j i q l (by rw[s];exact v) t⟩
theorem mG {B:Nat} {p:Px} {S:Sl} {w:World} {e c0 o c b n d k i K:Nat} {x:Cl} {g:Int} {t:List Nat} {Q:EO} [BZ Q]
 (h:Rep B p u S w) (Z:S .E=vS e 1 c0) (C:u.K[c]?=some x) (A:x.l[0]?=some a) (hP:E6 S c=vP o 0) (hr:u.W[K]?=some t) (hv:S (.row K)=vS b n d) (hk:k<n)
 {s:Option Bool} (y:KK u a=some s)
 (M:s=some true->∀D,Rep B p {u with W:=u.W.set K (t.set k c)} S D->Step S S w D->HN f103 (fun a w=>Q (.exit 3) a w) [qv 0 e,(3,I g),(4,vS b n d),(5,vS b (k+1) d),(46,vS b n d),(47,N n),(48,N i)] D)
 (P:s≠some true->HN f103 (fun a w=>Q .normal a w) [qv 0 e,(3,I g),(4,vS b n d),(5,vS b k d),(6,N i),qv 7 o,(46,vS b n d),(47,N n),(48,N i)] w):
 HW f103 (.seq (.reg 11) (.cond (.tmp 92) dK .skip)) Q [qv 0 e,(3,I g),(4,vS b n d),(5,vS b k d),(6,N i),qv 7 o,(46,vS b n d),(47,N n),(48,N i)] w:=by
 have⟨R,cc,hC,f,Y,_,_,_,_,lc⟩:=h.clA C;rw[hP] at f;obtain rfl:o=R:=by injection f with f;injection f with f;injection f with f
 have J:0<x.l.length:=(Aa.1 A).1;have⟨gl,v,hL,a1,a0,rL,fL,ll⟩:=h.litA C J;rw[hL] at Y;have G:=rL 0 a A;refine Ad ?_;have C0:Aj [(ad o 0,vQ gl x.l v),(ad gl 0,I a)] w:= .cons Y (.cons G .nil);by_cases j:s=some true
 .subst j;refine BA (O:=[0<=(0:Int)/\(0:Int)<(x.l.length:Int),(∀m,CR none w m->Cg 110 #[vP e 0,I a] m fun U r=>U=Ending.returned (.int .i8 1)/\m=r),(.bool (decide ((0:Int)<(1:Int))):Value)=bT]) [(4,.c 0),(6,.c 1),(7,.q (.int .i8 1)),(8,.T)] [0,3,4,5,6,7,46,47,48,92] [qv 0 e,(3,I g),(4,vS b n d),(5,vS b k d),(6,N i),qv 7 o,(46,vS b n d),(47,N n),(48,N i),(92,bT)] ⟨oO,(fun m e=>e▸G7 h Z a y),(EE oD),trivial⟩ C0<|Ae<|Bg rfl (Ad<|AY [AM 0 2,.one 2,.one 3,AM 4 1]<|AN [0,3,4,5,46,47,48,93,94] [(93,vS b k d),qv 94 o] ?_);have⟨W,e1,e2,e3⟩:=RR h hr hv hk hP;refine Fa 95 232 237 (vP o 0) (.pointer none) oK oK oK oK oK oK (.inl rfl) rfl (.inl oK)<|DY 96 232 232 (vS b k d) (vS w.heap.size 1 1) oK oK oK oK e1 (.inl oK)<|AN [0,3,4,5,46,47,48] [(5,vS b (k+1) d)]<|AK<|Ae (BQ (M rfl W e2 e3))
 .have L:∃z,v8 s= .int .i8 z/\¬0<z:=by rcases s with _|_|_<;>first|exact⟨_,rfl,oD⟩|exact absurd rfl j
  have⟨z,hz,H⟩:=L;refine BA (O:=[0<=(0:Int)/\(0:Int)<(x.l.length:Int),(∀m,CR none w m->Cg 110 #[vP e 0,I a] m fun U r=>U=Ending.returned (.int .i8 z)/\m=r),(.bool (decide ((0:Int)<(z:Int))):Value)=bF]) [(4,.c 0),(6,.c 1),(7,.q (.int .i8 z)),(8,.F)] [0,3,4,5,6,7,46,47,48,92] [qv 0 e,(3,I g),(4,vS b n d),(5,vS b k d),(6,N i),qv 7 o,(46,vS b n d),(47,N n),(48,N i),(92,bF)] ⟨oO,(fun m e=>e▸(hz▸G7 h Z a y)),(Er H),trivial⟩ C0<|Ae<|B1 rfl (AZ (BV (P j)))
variable{w:World}
theorem Aj.grown {C:Cells} {a:World} {o:Option Nat} (h:Aj C w) (c:w.grownBy a o) (d:∀p∈C,some p.1.block≠o):Aj C a:=fun p b=>c.cell (h p b) (d p b)
theorem Aj.alloc {C:Cells} {w:World} (h:Aj C w) (o:Obj):Aj C (w.alloc o):=fun p a=>(World.cell?_alloc_lt _ _ _ (Cb w _ (h p a))).trans (h p a)
theorem Rz {u f:St} {c i j:Nat} {x:Cl} {a b:Int} (e:u.K[c]?=some x) (h:x.l[i]?=some a) (g:x.l[j]?=some b) (d:Gb u c i j=some f):f={u with K:=u.K.set c {x with l:=(x.l.set i b).set j a}}:=by
 unfold Gb at d;rw[e] at d;simp only[h,g] at d;exact(Ah d).symm
theorem XB:(prog.info? 237).map (fun i=>(i.zero,i.size,i.bytes))=some (some (.pointer none),1,8):=oK
theorem aV {B:Nat} {p:Px} {u G u3:St} {S:Sl} {e c0 C c Y n Z k s i K:Nat} {x:Cl} {a5 M b:Int} {Q:EO} [BZ Q]
 (h:Rep B p u S w) (he:S .E=vS e 1 c0) (v:u.K[c]?=some x) (b6:x.l[1]?=some M) (R:x.l[s]?=some b) (g4:2<=s) (hP:E6 S c=vP C 0) (hs:Gb u c 1 s=some G) (U:Et G b c=some u3) (b3:EC (-b)≠K)
 (hQ:∀(S':Sl) (w1:World),Rep B p u3 S' w1->(∀x,¬isRow x->S' x=S x)->S' (.row K)=S (.row K)->Step S S' w w1->HN f103 (fun a w=>Q (.exit 3) a w) [qv 0 e,(3,I a5),(4,vS Y n Z),(5,vS Y k Z),(46,vS Y n Z),(47,N n),(48,N i)] w1):
 HW f103 dI Q [qv 0 e,(3,I a5),(4,vS Y n Z),(5,vS Y k Z),(6,N i),qv 7 C,(8,N s),(46,vS Y n Z),(47,N n),(48,N i)] w:=by
 have⟨e4,cc,hC,f,o0,_,_,_,_,lc⟩:=h.clA v;rw[hP] at f;obtain rfl:C=e4:=by injection f with f;injection f with f;injection f with f
 have g2:s<x.l.length:=(Aa.1 R).1;have⟨o,m,hL,g0,c1,rL,fL,ll⟩:=h.litA v oO;rw[hL] at o0;have J:=rL 1 M b6;have b0:=rL s b R;have b2:=Rz v b6 R hs;refine Ad ?_;have C1:Aj [(ad C 0,vQ o x.l m),(ad o 1,I M),(ad o s,I b)] w.drew:= .cons o0 (.cons J (.cons b0 .nil));refine Dr [23,25] [(0,.p),(1,.p),(2,.p),(3,.c 0),(4,.p),(5,.p),(6,.p),(7,.c 0),(9,.p),(10,.p),(11,.p),(12,.c 0),(13,.p),(14,.p),(15,.c 2),(16,.p),(17,.p),(18,.p),(19,.c 0),(20,.p),(21,.c 1),(22,.p)] [.ps [(8,.p)],.one 23,.ps [(24,.p)],.one 25] [0,3,4,5,6,7,8,46,47,48,123,131,137,138] [qv 0 e,(3,I a5),(4,vS Y n Z),(5,vS Y k Z),(6,N i),qv 7 C,(8,N s),(46,vS Y n Z),(47,N n),(48,N i),(123,vQ o x.l m),(131,I b),(137,I M),(138,vP o 1)] (NW (oO:oX s x.l.length) (oO:oX 1 x.l.length) (oO:oX 1 x.l.length)) C1<|Fh (O:=[]) [0,3,4,5,6,7,8,46,47,48,123,124,131,137,138] [(124,N s)] trivial ?_;have h1:=(h.drew.putLit v hL 1 b);have a3:({u with K:=u.K.set c {x with l:=x.l.set 1 b}}:St).K[c]?=some {x with l:=x.l.set 1 b}:=AD (Aa.1 v).1;have h2:=h1.1.putLit a3 hL s M;refine Cz (I b) J (fL 1)<|Fh [0,3,4,5,6,7,8,46,47,48,137,139] [(139,vP o s)] (Bo (oO:oX s x.l.length)) ?_;refine Cz (I M) (h1.1.cell (.lit c) hL (j:=s) (u:= .int .i64 b) (by simp[cont,AD (Aa.1 v).1,List.getElem?_set,R];omega)) (h1.1.free (.lit c) hL s) ?_;refine BG [0,3,4,5,6,7,8,46,47,48] ?_;have z:Rep B p G S ((w.drew.setCell (ad o 1) (I b)).setCell (ad o s) (I M)):=by have z:=h2.1;simp only[Hr] at z;rw[b2];exact z
 have a9:Step S S w ((w.drew.setCell (ad o 1) (I b)).setCell (ad o s) (I M)):=(Step.refl S w).drew.trans (h1.2.trans h2.2);generalize((w.drew.setCell (ad o 1) (I b)).setCell (ad o s) (I M))=w3 at z a9⊢;have a2:G.K[c]?=some {x with l:=(x.l.set 1 b).set s M}:=by rw[b2];exact AD (Aa.1 v).1
 have b5:((x.l.set 1 b).set s M)[1]?=some b:=by rw[AI oO,AD oO]
 clear h1 h2 rL fL a3 C1 o0 J b0;refine Ae (Ad ?_);have⟨e3,g6,g3,b8,o0,_,_,_,_,c1⟩:=z.clA a2;rw[hP] at b8;obtain rfl:C=e3:=by injection b8 with f;injection f with f;injection f with f
 have⟨e2,a6,b9,e7,e6,rL,fL,e9⟩:=z.litA a2 oT;rw[hL] at b9;obtain⟨rfl,e8,rfl⟩:o=e2/\x.l.length=_/\m=a6:=by injection b9 with x1 x2 x3;injection x1 with x1;injection x1 with x1;exact⟨x1,x2,x3⟩
 rw[hL] at o0;have J:=rL 1 b b5;unfold Et at U;obtain⟨j,hj⟩:∃j,j=EC (-b):=⟨_,rfl⟩;rw[<-hj] at U b3
 cases t:G.W[j]? with
 |none=>rw[t] at U;cases U
 |some r=>
 rw[t] at U;simp only at U;split at U
 case isFalse=>cases U
 rename_i b4;have c3:=Ah U;have c5:j<G.W.length:=(Aa.1 t).1;have⟨A,cw,hW,e1,g5,e5,rW,fW,le,lw⟩:=z.watchA he oO;have⟨P,ra,d⟩:=z.rowE t;have a0:=rW j c5;rw[d] at a0;have a1:=z.rowOwn t;rw[d] at a1;have AT:∀W,Cg 198 _ W fun en D=>en= .returned (N j)/\W=D:=fun W=>hj▸QH (-b) (by rw[<-hj];omega) W
 have qb:IntKind.i64.wrap (-b)=-b:=by
  unfold EC at hj;unfold maxLen at e5;refine Bb _ ?_;split at hj<;>omega
 have b7:∀g,(Value.slice P _ ra).ownBlock=some g->g≠A:=fun g hg H=>z.apart (.row j) .W g oS (by rw[d];exact hg) (by rw[hW,H];rfl)
 have e0:∀g,(Value.slice P _ ra).ownBlock=some g->g≠e:=fun g hg H=>z.apart (.row j) .E g oS (by rw[d];exact hg) (by rw[he,H];rfl)
 have c9:∀g,(Value.slice P _ ra).ownBlock=some g->g≠C:=fun g hg H=>z.apart (.row j) (.cl c) g oS (by rw[d];exact hg) (by rw[hC,H];rfl)
 have c8:∀g,(Value.slice P _ ra).ownBlock=some g->g≠o:=fun g hg H=>z.apart (.row j) (.lit c) g oS (by rw[d];exact hg) (by rw[hL,H];rfl)
 have C1:Aj [(ad e 1,vQ A G.W cw),(ad C 0,vQ o x.l m),(ad o 1,I b),(ad A j,sq P r ra)] w3.drew:= .cons e1 (.cons o0 (.cons J (.cons a0 .nil)));refine Dr (O:=[0<=(1:Int)/\(1:Int)<(x.l.length:Int),(I (IntKind.i64.wrap (-(b:Int))):Value)=I (-b),(∀D,CR (some (Aj [(ad e 1,vQ A G.W cw),(ad C 0,vQ o x.l m),(ad o 1,I b),(ad A j,sq P r ra)])) w3.drew D->Cg 198 #[I (-b)] D fun en a4=>en=Ending.returned (N j)/\D=a4),0<=(1:Int)/\(1:Int)<(x.l.length:Int),(I (IntKind.i64.wrap (-(b:Int))):Value)=I (-b),(∀D,CR (some (Aj [(ad e 1,vQ A G.W cw),(ad C 0,vQ o x.l m),(ad o 1,I b),(ad A j,sq P r ra)])) w3.drew D->Cg 198 #[I (-b)] D fun en a4=>en=Ending.returned (N j)/\D=a4),0<=(j:Int)/\(j:Int)<(G.W.length:Int)]) [30] (Gi [(3,.c 0),(7,.c 1),(9,.c 2),(10,.e (I (-b))),(11,.q (N j)),(15,.c 0),(19,.c 1),(21,.c 2),(22,.e (I (-b))),(23,.q (N j)),(25,.c 3)] 0 27) [.one 27,.one 28,.qs [(29,.p)],.one 30] [0,3,4,5,6,7,8,46,47,48,143,151,165,166] [(143,vQ A G.W cw),(151,N j),(165,sq P r ra),qv 166 C] ⟨oO,(vI qb),(fun D _=>AT D),oO,(vI qb),(fun D _=>AT D),oO,trivial⟩ C1<|Fa 167 232 237 (vP C 0) (.pointer none) oK oK oK oK oK oK (.inl rfl) rfl (.inr fun _=>C1.alloc _) ?_;have⟨g1,hi,hz⟩:=Af.1 XB;injection hz with hz a7;injection a7 with a7 c2;unfold lim at b4;have⟨A6,c6,w6,er,c4,a8,c7⟩:=GH w3.drew B 232 232 237 WC hi hz a7 c2 rfl a1 237 (u:=vP C 0) rfl (by unfold maxLen;omega) oO z.base;have C2:Aj [(ad e 1,vQ A G.W cw),(ad C 0,vQ o x.l m),(ad o 1,I b),(ad A j,sq P r ra)] w6:=C1.grown a8 (by
  intro p hp H;simp only[Az,Dm,or_false] at hp;rcases hp with rfl|rfl|rfl|rfl
  .exact e0 _ H.symm rfl
  .exact c9 _ H.symm rfl
  .exact c8 _ H.symm rfl
  .exact b7 _ H.symm rfl)
 refine DY 168 232 232 _ (vS w3.drew.heap.size 1 1) oK oK oK oK er (.inr fun _=>C2)<|FW _ [0,3,4,5,6,7,8,46,47,48,168,169] [(168,.slice A6 (r.length+1) c6),(169,vP A j)] (Bo (oO:oX j G.W.length)) C2 (fun _ h=>h)<|Cz (.slice A6 (r.length+1) c6) (C2 (ad A j,sq P r ra) oS) ((CT (a8.block A lw (fun hh=>b7 A hh.symm rfl))).trans (fW j)) ?_;refine BG [0,3,4,5,6,7,8,46,47,48] ?_;have L:=z.drew.pushRow hW j r t c (.slice A6 (r.length+1) c6) w6 (by rw[hP];exact c4) (by rw[d];exact a8) (by rw[d];exact c7);rw[c3] at L;refine Ae (BQ (BV (hQ _ _ L.1 (fun y hy=>CE _ _ (fun hh=>hy ⟨j,hh⟩)) (CE _ _ (fun hh=>b3 (by injection hh with hh;exact hh.symm))) (a9.drew.trans L.2))))
def jk:Sh:= .seq (.reg 2) (.seq (.cond (.tmp 12) .skip (.exit 0)) (.seq (.block 1 (.seq (.reg 3) (.reg 4))) (.reg 5)))
def jl:Sh:= .seq (.reg 0) (.seq (.seq (.reg 1) (.block 0 (.loop jk))) (.seq (.reg 6) (.seq (.reg 7) (.seq (.reg 8) (.seq (.seq (.reg 9) (.cond (.tmp 58) (.reg 10) .skip)) (.reg 11))))))
theorem gE:f106.body=some (jl.code f106):=oK
theorem Aj.below {C:Cells} {w b:World} (h:Aj C w) (d:Bl w b):Aj C b:=fun q c=>by
 have:=h q c;have a:=Cb w _ this;unfold World.cell? at this⊢;rw[d.block _ a];exact this
theorem Uw {s t:St} {c:Nat} (h:Gw s c=some t):t.K=s.K:=by
 have f:∀{s t:St} {x:Int},Et s x c=some t->t.K=s.K:=fun{s t x} h=>by
  unfold Et at h;split at h
  .split at h
   .rw[<-Ah h]
   .cases h
  .cases h
 unfold Gw at h;split at h
 case h_2=>cases h
 split at h
 case h_2=>cases h
 split at h
 case h_2=>cases h
 rename_i a;exact(f h).trans (f a)
theorem Zi {B:Nat} {p:Px} {s:St} {S0 S:Sl} {U w:World} {T:Nat->Value} {C:Nat->Cn} {bs:List (Nat×Obj)} {e c0 t cl b kl:Nat} {y:Obj} {l:List Int} {Q:EO} [BZ Q]
 (h:Loc B p s S0 S U w T C ((b,y)::bs)) (he:S .E=vS e 1 c0) (hT:T kl=vQ t l cl) (hC:C kl=(3,1,l.length,l.map I)) (J:E5 w b 0 (fun _=>none)) (d:N8 s l=true) (a7:l.length<=lim)
 (hQ:∀R o n f,Loc B p s S0 S U R T C ((b,o)::bs)->E5 R b n f->HN f106 (fun a w=>Q .normal a w) [qv 0 e,(1,vQ t l cl),(4,.map (some b))] R):
 HW f106 (.block 0 (.loop jk)) Q [qv 0 e,(1,vQ t l cl),(4,.map (some b)),(9,vQ t l cl),(10,N l.length),(11,N 0)] w:=by
 refine Bd<|Ct (fun n L W=>∃i y f,L=[qv 0 e,(1,vQ t l cl),(4,.map (some b)),(9,vQ t l cl),(10,N l.length),(11,N i)]/\i<=l.length/\n=l.length-i/\Loc B p s S0 S U W T C ((b,y)::bs)/\E5 W b i f) (n:=l.length) ⟨0,y,_,rfl,oO,oO,h,J⟩ ?_;rintro n L W ⟨i,y,f,rfl,hi,rfl,h,J⟩;refine Ad ?_;by_cases a2:i<l.length
 .have q1:(i:Int)<(l.length:Int):=oO;refine Be [(0,.T)] [0,1,4,9,10,11,12] [(12,bT)] (Bo (EE q1))<|Ae (Ad<|Bg rfl (AZ (Ae (Ad (Bd (Ad ?_))))));obtain⟨x,hx⟩:∃x,l[i]?=some x:=⟨_,Ab a2⟩;obtain⟨v,r⟩:∃v,v=B7 x:=⟨_,rfl⟩;obtain⟨k,G,a8⟩:∃k,s.H[v]?=some k/\k<=lim:=by
   unfold N8 at d;rw[Bi] at d;have:=d x (AQ hx);rw[r];split at this
   .rename_i k hk;exact⟨k,hk,of_decide_eq_true this⟩
   .cases this
  have a3:v<s.H.length:=(Aa.1 G).1;have⟨M,cv,hV,e3,a6,a5,rV,fV,_,a4⟩:=h.rep.levelA he oO;have Z:=rV _ _ G;have ox:=h.cell kl hT (j:=i) (u:=I x) (by rw[hC];simp[hx]);have q2:i<maxLen:=by unfold lim maxLen at*;omega
  have OF:∀P,Cg 43 #[I x] P fun en g=>en= .returned (N v)/\P=g:=fun P=>r▸FT x (by rw[<-r];omega) P
  have C0:Aj [(ad t i,I x)] W:= .cons ox .nil;refine BA [(1,.c 0)] [0,1,4,6,9,10,11] [(6,I x)] (Bo (oO:oX i l.length)) C0<|Ae ?_;have wk:(Lit.int .i64 (k:Int)).wf=true:=wf64 (by unfold B7 lim maxLen at*;omega);have a1:E5 W.drew b i f:=J.keep rfl;have⟨g,a0,D,hg⟩:=a1.update RN q2 wk bT;have⟨o,A,z⟩:=D.obj;have h2:=h.drew.kept hg A z;have C1:Aj [(ad e 3,vQ M s.H cv),(ad M v,N k)] W.drew:= .cons e3 (.cons Z .nil);refine Dr (O:=[(∀g,CR (some (Aj [(ad e 3,vQ M s.H cv),(ad M v,N k)])) W.drew g->Cg 43 #[I x] g fun en Y=>en=Ending.returned (N v)/\g=Y),0<=(v:Int)/\(v:Int)<(s.H.length:Int)]) [9] (Gi [(4,.c 0),(6,.q (N v)),(8,.c 1)] 0 9) [.one 9] [0,1,4,9,10,11,15,23] [(15,.map (some b)),(23,N k)] ⟨(fun g _=>OF g),oO,trivial⟩ C1<|I9 134 (.map (some b)) (N k) bT oK oK oK a0 (.inl oK)<|BG [0,1,4,9,10,11]<|BN (Ae<|Be [(0,.e (N (i+1)))] [0,1,4,9,10,11] [(11,N (i+1))] (Bo (vJ (Ec q2 rfl)))<|BF (m:=l.length-(i+1)) oO ⟨i+1,o,_,rfl,oO,rfl,h2,D⟩)
 .have q1:¬(i:Int)<(l.length:Int):=oO;refine Be [(0,.F)] [0,1,4,9,10,11,12] [(12,bF)] (Bo (Er q1))<|Ae (Ad<|B1 rfl (BQ (Bc nX (B6 nX (Ck (BV (hQ W y i f h J)))))))
section
theorem u33:prog.underlying 33=some (.slice 133):=oK
theorem PS:(prog.info? 133).map (fun i=>(i.zero,i.size,i.bytes))=some (some (.agg #[.int .i64 0,.slice none 0 0]),2,32):=oK
def Ie (Y:Nat->Prop) (w:World) (V:Value) (z n:Nat) (b:List Value):Prop:=Dj w V z n b/\∀g o d c,V= .slice (some (ad g o)) d c->Y g
def fu (Y:Nat->Prop) (a:World) (T:Nat->Value) (C:Nat->Cn) (m:Nat) (V:Value) (l:List Int):Prop:=Ie Y a V 1 l.length (l.map I)∨∃j,j<m/\T (1000+j)=V/\C (1000+j)=(3,1,l.length,l.map I)
def Hh (R:Value->List Int->Prop) (b:List Value) (ps:List (Int×List Int)):Prop:=b.length=2*ps.length/\∀(i:Nat) k l,ps[i]?=some (k,l)->b[2*i]?=some (I k)/\∃V,b[2*i+1]?=some V/\R V l/\l.length<=lim
variable{ps:List (Int×List Int)}
theorem Hh.mono {R d:Value->List Int->Prop} {b:List Value} (h:Hh R b ps) (f:∀V l,R V l->d V l):Hh d b ps:=⟨h.1,fun i k l e=>by
 have⟨j,V,g,c⟩:=h.2 i k l e;exact⟨j,V,g,f _ _ c.1,c.2⟩⟩
theorem Hh.push {R:Value->List Int->Prop} {c:List Value} (h:Hh R c ps) {k:Int} {V:Value} {l:List Int} (n:R V l) (m:l.length<=lim):Hh R (c++[I k,V]) (ps++[(k,l)]):=by
 refine⟨by simp[h.1];omega,fun i j g b=>?_⟩;by_cases d:i<ps.length
 .rw[AW d] at b;have⟨q,r,p,o⟩:=h.2 i j g b;refine⟨by rw[AW (by rw[h.1];omega)];exact q,r,by rw[AW (by rw[h.1];omega)];exact p,o⟩
 .have f:i=ps.length:=by
   have:=(Aa.1 b).1;simp at this;omega
  subst f;simp at b;obtain⟨rfl,rfl⟩:=b;have e:c.length=2*ps.length:=h.1;refine⟨by rw[BR oO];simp[e],V,by rw[BR oO];simp[e],n,m⟩
def Pf (Y:Nat->Prop) (a:World) (T:Nat->Value) (C:Nat->Cn) (v:Value) (ps:List (Int×List Int)):Prop:=
 ∃b,Hh (fu Y a T C ps.length) b ps/\((T 99=v/\C 99=(133,2,ps.length,b))∨(T 99=An/\C 99=F1/\(∃A,v= sq A ps ps.length)/\Ie Y a v 2 ps.length b))
variable{Y:Nat->Prop} {a:World} {T:Nat->Value} {C:Nat->Cn} {v:Value}
theorem Pf.same {d:Nat->Value} {e:Nat->Cn} (h:Pf Y a T C v ps) (b:∀i,i=99∨(1000<=i/\i<1000+ps.length)->d i=T i/\e i=C i):Pf Y a d e v ps:=by
 have⟨f,o,n⟩:=h;refine⟨f,o.mono fun V l c=>?_,by rw[(b 99 (.inl rfl)).1,(b 99 (.inl rfl)).2];exact n⟩;rcases c with c|⟨j,m,k,g⟩
 .exact .inl c
 .exact .inr ⟨j,m,(b _ (.inr ⟨oO,oO⟩)).1.trans k,(b _ (.inr ⟨oO,oO⟩)).2.trans g⟩
theorem Pf.form {Y:Nat->Prop} {a w:World} {B:Nat} {p:Px} {s:St} {i S:Sl} {T:Nat->Value} {C:Nat->Cn} {g:List (Nat×Obj)} (h:Loc B p s i S a w T C g) {v:Value} {ps:List (Int×List Int)} (d:Pf Y a T C v ps):∃A c,v= sq A ps c:=by
 obtain⟨j,_,⟨f,e⟩|⟨_,_,⟨A,b⟩,_⟩⟩:=d
 .have⟨A,c,b⟩:=h.form 99;rw[e] at b;exact⟨A,c,f▸b⟩
 .exact⟨A,_,b⟩
theorem Loc.pushPf {B:Nat} {p:Px} {s:St} {S:Sl} {w:World} {bs:List (Nat×Obj)} (h:Loc B p s noS S a w T C bs) (hp:Pf Y a T C v ps) (O:ps.length<=lim) (k:Int) {l:List Int} {A:Option Addr} {c:Nat} (a2:l.length<=lim) (hV:fu Y a T C (ps.length+1) (sq A l c) l):
  ∃q o w' y,(Builtin.append_ #[33,33] 33 #[v,vS w.heap.size 1 1]).run prog (w.alloc (.cells #[I k,sq A l c] 133))= .ok (.slice q (ps.length+1) o) w'/\Loc B p s noS S a w' (CI T 99 (.slice q (ps.length+1) o)) (CI C 99 (133,2,ps.length+1,y)) bs/\
   Pf Y a (CI T 99 (.slice q (ps.length+1) o)) (CI C 99 (133,2,ps.length+1,y)) (.slice q (ps.length+1) o) (ps++[(k,l)]):=by
 have⟨z,h1,h2⟩:=hp;have⟨G,L,H⟩:=Af.1 PS;injection H with hy g;injection g with g J;have M:∀q o,Pf Y a (CI T 99 (.slice q (ps.length+1) o)) (CI C 99 (133,2,ps.length+1,z++[I k,sq A l c])) (.slice q (ps.length+1) o) (ps++[(k,l)]):=fun q o=>by
  refine⟨z++[I k,sq A l c],((h1.mono fun V' l' r=>?_).push (R:=fu Y a T C (ps.length+1)) hV a2).mono fun V' l' r=>?_,.inl ⟨AB _ _ _,by rw[AB];simp⟩⟩
  .rcases r with r|⟨j,g1,g2⟩
   .exact .inl r
   .exact .inr ⟨j,oO,g2⟩
  .rcases r with r|⟨j,g1,g2⟩
   .exact .inl r
   .refine .inr ⟨j,oT,?_⟩;rw[Au _ _ oO,Au _ _ oO];exact g2
 rcases h2 with⟨Q,hC⟩|⟨Q,hC,⟨Av,rfl⟩,hr,_⟩
 .have i:=h.part 99;rw[hC,Q] at i;have i:w.ownsRow a.heap.size 133 2 v ps.length z:=i;have⟨Z,U,D,t,m,a3,e⟩:=bC (P:=prog) w a.heap.size 33 33 133 u33 L hy g J (by rfl) i 133 (u:=I k) (u':= sq A l c) rfl rfl (by unfold lim at O;unfold maxLen;omega) (by unfold lim at O;omega) h.st.size;have h8:=h.turn 99 (x:=(133,2,ps.length+1,z++[I k,sq A l c])) m (by rw[Q];exact a3) (fun b n=>by rw[Q];exact e b n);exact⟨Z,U,D,_,t,h8,M _ _⟩
 .have d:Bl w (w.alloc (.cells #[I k,sq A l c] 133)):=(Below.refl _ _).alloc (Ai _) _;have a0:=(hr.below h.bel).below d;have e2:=Mc w 133 (I k) (sq A l c);have q1:ps.length+1<=maxLen:=by unfold lim at O;unfold maxLen;omega
  have q2:(ps.length+1)*32<=140737488355328:=by unfold lim at O;omega
  have⟨Z,U,D,t,m,e⟩:=G5 (P:=prog) (w.alloc (.cells #[I k,sq A l c] 133)) 33 33 133 G _ 2 32 u33 L hy g J (by rfl) a0 (ad w.heap.size 0) 1 1 [I k,sq A l c] rfl (fun j u hu=>by
   have⟨ad,e3,_,e4⟩:=e2.2 oO;injection e3 with e3;subst e3;exact e4 j u hu) oO q1 q2
  have f:Bl w D:=⟨e.os.trans d.os,e.tape.trans d.tape,e.output.trans d.output,Bj d.size e.size,fun b n=>(e.block b (Bx n d.size)).trans (d.block b n)⟩;have a1:Ba a.heap.size D (.slice Z (ps.length+1) U) (133,2,ps.length+1,z++[I k,sq A l c]):=own_base m (Bj h.st.size d.size);have h8:=h.turn 99 a1 ⟨f.os,f.tape,f.output,f.size,fun b n _=>f.block b n⟩ (fun b n=> .inr (Bj d.size (Ax m b n).1));exact⟨Z,U,D,_,t,h8,M _ _⟩
end
variable{Y:Nat->Prop}
def VD (Y:Nat->Prop) (B:Nat) (p:Px) (g:St) (S:Sl) (c:World) (T:Nat->Value) (C:Nat->Cn) (h:Nat) (ps:List (Int×List Int)) (l:List Int) (j:Ending) (f:World):Prop:=
 j= .returned (.tuple #[])/\∃d e a b,Loc B d g noS e c f a b []/\e .E=S .E/\Pf Y c a b d.proof (ps++[(2,l)])/\∀i,i≠99->i≠h->i≠1000+ps.length->a i=T i/\b i=C i
theorem keep_any {B:Nat} {p:Px} {s s':St} {S:Sl} {w0 w:World} {T:Nat->Value} {C:Nat->Cn} {bs:List (Nat×Obj)} {e c0 c kl:Nat} {A:Option Addr} {l:List Int} {ps:List (Int×List Int)}
 (h:Loc B p s noS S w0 w T C bs) (hB:B<=w0.heap.size) (he:S .E=vS e 1 c0) (hT:T kl= sq A l c) (hC:C kl=(3,1,l.length,l.map I)) (g9:Pf Y w0 T C p.proof ps) (j5:kl<99) (hn:ps.length<=lim) (a:RB s l=some s'):
 Cg 106 #[vP e 0,sq A l c] w (VD Y B p s' S w0 T C kl ps l):=by
 have h:Loc B p s noS S w0 w T C []:=⟨h.rep,h.st,h.part,h.apart,h.out,Hq,fun q hq=>by cases hq⟩;unfold RB at a
 cases l with
 |nil=>cases a
 |cons x0 l0=>
 simp only at a;obtain⟨l,hl⟩:∃l,l=x0::l0:=⟨_,rfl⟩;have h1:l[0]?=some x0:=by rw[hl];rfl
 rw[<-hl] at a hT hC⊢;have b9:0<l.length:=by rw[hl];simp
 clear hl;split at a
 .cases a
 rename_i H;have H:Hs s=true/\N8 s l=true/\s.K.length<lim/\s.Q.length<lim/\l.length<lim:=by
  cases hd:Hs s<;>cases hv:N8 s l<;>simp[hd,hv] at H<;>exact⟨rfl,rfl,oO⟩
 have⟨c2,e5,j9,e6,j6⟩:=H;have⟨d,cl,a3,j7,g7,k0⟩:=h.formSome kl (by rw[hC];exact b9);rw[hC] at a3 g7;simp only at a3 g7;rw[hT] at a3;injection a3 with hA _ hc;subst hA hc;refine CN gE ?_;show HW f106 jl _ [qv 0 e,(1,vQ d l c)] w;refine Ad ?_;have h2:=(h.below ((Below.refl w.heap.size w).alloc (Ai _) (.map #[] 0))).mark (heap_alloc_new w _) rfl h.st.size oS;have m2:E5 (w.alloc (.map #[] 0)) w.heap.size 0 (fun _=>none):=E5.made w;refine AY [.one 0,AM 1 1]<|OK 8 oK oK oK oK (.inl oK)<|AN [0,1,4] [(4,.map (some w.heap.size))]<|AK ?_;generalize w.heap.size=bm at h2 m2⊢;generalize j4:(Obj.map #[] 0)=ob at h2 m2⊢;generalize(w.alloc ob)=w2 at h2 m2⊢;refine Ae (Ad (Ad<|B8 [] [0,1,4,9,10,11] [(4,.map (some bm)),(9,vQ d l c),(10,N l.length),(11,I 0)]<|BV (L':=[qv 0 e,(1,vQ d l c),(4,.map (some bm)),(9,vQ d l c),(10,N l.length),(11,N 0)]) (Ae (Zi h2 he hT hC m2 e5 oO fun y j0 nm f3 h3 m3=>Ae (Ad ?_)))));have⟨lv,a9⟩:=(m3.keep (w':=y.drew) rfl).len RN 3;have⟨_,_,e9,_,_,_,_⟩:=h3.rep.engF he;have C3:Aj [(ad e 9,I s.J)] y.drew:= .cons e9 .nil;refine Qm [8] [(0,.p),(1,.p),(3,.p),(4,.p),(5,.p),(6,.c 0)] [.one 2,.one 7,.one 8,.ps [(9,.p)]] [0,1,4,25,26,31] [qv 0 e,(1,vQ d l c),(4,.map (some bm)),(25,vQ d l c),(26,.map (some bm)),(31,I s.J)] C3<|gj 27 134 3 (.map (some bm)) oK oK oK oK a9<|Il 32 (v:= .agg #[vQ d l c,bT,I lv,I s.J]) (w':=y.drew) oK oK oK oK oK (.inr id)<|CH 33 (vP y.drew.heap.size 0) (y.drew.alloc (.cells #[vQ d l c,bT,I lv,I s.J] 239))<|Fh (O:=[]) [0,1,4,7] [qv 7 y.drew.heap.size] trivial<|AK ?_;have n:=h3.drew.unmark.addCl hB kl (l:=l) hC c2 true lv s.J;rw[hT] at n;have M:E6 (EX S s.K.length y.drew.heap.size (vQ d l c)) s.K.length=vP y.drew.heap.size 0:=NL;have g:EX S s.K.length y.drew.heap.size (vQ d l c) .E=vS e 1 c0:=he;have c1:EX S s.K.length y.drew.heap.size (vQ d l c) (.lit s.K.length)=vQ d l c:=if_pos rfl;generalize y.drew.heap.size=Z at n M g c1⊢;generalize EX S s.K.length Z (vQ d l c)=S4 at n M g c1;have b6:(Ko p s.K.length lv).proof=p.proof:=rfl;generalize Ko p s.K.length lv=p4 at n b6;generalize y.drew.alloc (.cells #[vQ d l c,bT,I lv,I s.J] 239)=w4 at n⊢;have k:Pf Y w0 (CI T kl An) (CI C kl F1) p4.proof ps:=by rw[b6];exact g9.same fun i hi=>⟨Au _ _ oO,Au _ _ oO⟩
 have o:∀i,i≠99->i≠kl->CI T kl An i=T i/\CI C kl F1 i=C i:=fun i _ h2=>⟨Au _ _ h2,Au _ _ h2⟩
 generalize i1:CI T kl An=T4 at n k o;generalize i5:CI C kl F1=C4 at n k o;clear i1 i5;clear h3 m3 a9 C3 e9 b6 h2 m2;refine Ae (Ad ?_);have⟨a6,a5,R,a4,_,j2,j1⟩:=n.rep.learntE g;simp only at R a4;have⟨_,_,_,_,_,fe,_⟩:=n.rep.engF g;have⟨j3,hi,hz⟩:=Af.1 Nj;injection hz with hz b4;injection b4 with b4 g8;have t:=n.rep.part .Q;unfold Ba at t;simp only[cont] at t;have⟨A5,c5,w5,er,b8,a2,e8⟩:=GH (P:=prog) w4 B 232 232 237 WC hi hz b4 g8 rfl t 237 (u:=vP Z 0) rfl (by unfold lim at e6;unfold maxLen;omega) (by unfold lim at e6;omega) n.rep.base;rw[<-M] at b8;have⟨h5,e0⟩:=n.rep.pushLearnt g s.K.length (.slice A5 (s.Q.length+1) c5) w5 b8 a2 e8;have z:=n.E h5 e0;rw[R] at er;have C4:Aj [(ad e 13,sq a6 s.Q a5)] w4:= .cons a4 .nil;refine AY [Cu 0 6 [(4,.c 0)],.one 6,.one 7,AM 8 2,.one 10]<|DO [0,1,7,34,38,39] [qv 7 Z,qv 34 e,(38,sq a6 s.Q a5),qv 39 Z] C4<|Fa 40 232 237 (vP Z 0) (.pointer none) oK oK oK oK oK oK (.inl rfl) rfl (.inl oK)<|DY 41 232 232 (sq a6 s.Q a5) (vS w4.heap.size 1 1) oK oK oK oK er (.inl oK) ?_;have b3:w5.cell? (ad e 13)=some (sq a6 s.Q a5):=a2.cell a4 (fun hh=>n.rep.apart .E .Q e oS (by rw[g];rfl) hh.symm);have b1:w5.frozen? (ad e 13)=false:=(CT (a2.block e (n.rep.lo (r:= .E) (by rw[g];rfl)).2 (fun hh=>n.rep.apart .E .Q e oS (by rw[g];rfl) hh.symm))).trans (fe 13);refine AN [0,1,7,41,43] [(41,.slice A5 (s.Q.length+1) c5),(43,vP e 13)]<|Cz (.slice A5 (s.Q.length+1) c5) b3 b1<|BG [0,1,7] ?_;have m:Dq S4 .Q (.slice A5 (s.Q.length+1) c5) .E=vS e 1 c0:=(CE _ _ oS).trans g;have a1:Dq S4 .Q (.slice A5 (s.Q.length+1) c5) (.lit s.K.length)=vQ d l c:=(CE _ _ oS).trans c1;have L:E6 (Dq S4 .Q (.slice A5 (s.Q.length+1) c5)) s.K.length=vP Z 0:=by
  unfold E6 at M⊢;rw[CE _ _ oS];exact M
 generalize Dq S4 .Q (.slice A5 (s.Q.length+1) c5)=S6 at z m a1 L;generalize(w5.setCell (ad e 13) (.slice A5 (s.Q.length+1) c5))=w6 at z⊢;clear er b8 a2 e8 h5 e0 n C4 a4 b3 b1 fe R t;obtain⟨s6,b5⟩:∃s6:St,s6={s with K:=s.K++[(⟨l,true,s.J⟩:Cl)],Q:=s.Q++[s.K.length]}:=⟨_,rfl⟩;have z:Loc B p4 s6 noS S6 w0 w6 T4 C4 []:=by rw[b5];exact z
 rw[<-b5] at a;have c3:s6.K[s.K.length]?=some ⟨l,true,s.J⟩:=by rw[b5];simp
 refine Ae (Ad ?_);have⟨Ap,cp,b0⟩:=k.form z;have⟨_,_,_,c4,_,fe,_⟩:=z.rep.engF m;rw[b0] at c4;have a8:Ba B w6.drew (vQ d l c) (3,1,l.length,l.map I):=by
  have:=z.rep.drew.part (.lit s.K.length);rw[a1] at this;simpa[cont,c3] using this
 have cl:=KR a8.rd oO;have C6:Aj [(ad e 14,sq Ap ps cp)] w6.drew:= .cons c4 .nil;refine Qm [9,12] (Gi [(4,.c 0)] 1 5) [.ps [(0,.p)],.one 6,.one 7,.one 8,.one 9,.ps [(10,.p),(11,.p)],.one 12] [0,1,7,48,49] [(48,sq Ap ps cp),(49,vQ d l c)] C6<|Fh (O:=[]) [0,1,7,44,48,49] [qv 44 e] trivial<|BW 50 (cl.mono ?_);rintro en w7 ⟨V7,rfl,a0,b7⟩;obtain⟨A7,c7,rfl⟩:=Cr a0;refine⟨_,rfl,.inr (fun hS=>Aj.below hS b7),?_⟩;have h7:=z.drew.gain (z.rep.drew.still b7).1 (z.rep.drew.still b7).2 (1000+ps.length) a0 (fun b hb r hr=>by
  have:=(Ax a0 b hb).1;have:=(z.rep.lo hr).2;have:w6.drew.heap.size=w6.heap.size:=rfl;omega)
 refine Il 51 (v:= .agg #[I 2,sq A7 l c7]) (w':=w7) oK oK oK oK oK (.inr id)<|Il 52 (v:=vS w7.heap.size 1 1) (w':=w7.alloc (.cells #[I 2,sq A7 l c7] 133)) oK oK oK oK oK (.inr (fun hS=>Aj.alloc hS _)) ?_;have a7:Pf Y w0 (CI T4 (1000+ps.length) (sq A7 l c7)) (CI C4 (1000+ps.length) (3,1,l.length,l.map I)) (sq Ap ps cp) ps:=b0▸k.same fun i hi=>⟨Au _ _ oO,Au _ _ oO⟩
 have⟨A8,c8,w8,c6,g6,h8,D⟩:=h7.pushPf a7 hn 2 (l:=l) (A:=A7) (c:=c7) oO (.inr ⟨ps.length,oO,AB _ _ _,AB _ _ _⟩);have⟨_,_,_,b2,_,g5,_⟩:=h8.rep.engF m;refine DY 53 33 33 (sq Ap ps cp) (vS w7.heap.size 1 1) oK oK oK oK g6 (.inl oK)<|Fh (O:=[]) [0,1,7,53,55] [(53,.slice A8 (ps.length+1) c8),(55,vP e 14)] trivial<|Cz (.slice A8 (ps.length+1) c8) b2 (g5 14)<|BG [0,1,7] ?_;have⟨g4,c9⟩:=h8.rep.putProof m (.slice A8 (ps.length+1) c8);have h9:=h8.E g4 c9;have f:∀i,i≠99->i≠kl->i≠1000+ps.length->CI (CI T4 (1000+ps.length) (sq A7 l c7)) 99 (.slice A8 (ps.length+1) c8) i=T i/\CI (CI C4 (1000+ps.length) (3,1,l.length,l.map I)) 99 (133,2,ps.length+1,c6) i=C i:=fun i g1 g2 g3=>by
  rw[Au _ _ g1,Au _ _ g1,Au _ _ g3,Au _ _ g3];exact o i g1 g2
 generalize CI (CI T4 (1000+ps.length) (sq A7 l c7)) 99 (.slice A8 (ps.length+1) c8)=T9 at h9 f D;generalize CI (CI C4 (1000+ps.length) (3,1,l.length,l.map I)) 99 (133,2,ps.length+1,c6)=C9 at h9 f D;generalize(w8.setCell (ad e 14) (.slice A8 (ps.length+1) c8))=w9 at h9⊢;clear h7 g6 h8 g4 c9 b2 g5 cl a8 z c4 fe C6 a0 b7 a7 k;have j8:S6 .E=S .E:=m.trans he.symm;have last:∀(s7:St) (S7:Sl) (x:World),Loc B ⟨.slice A8 (ps.length+1) c8,p4.lev⟩ s7 noS S7 w0 x T9 C9 []->S7 .E=vS e 1 c0->S7 (.lit s.K.length)=vQ d l c->E6 S7 s.K.length=vP Z 0->s7.K[s.K.length]?=some ⟨l,true,s.J⟩->Ik s7 x0 (some s.K.length)=some s'->HW f106 (.reg 11) (bodyPost prog f106 (VD Y B p s' S w0 T C kl ps l)) [qv 0 e,(1,vQ d l c),qv 7 Z] x:=by
  intro s7 S7 x U e7 h0 i4 i0 e4;have o0:=U.rep.cell (.lit s.K.length) h0 (j:=0) (u:=I x0) (by simp[cont,i0,h1]);have cs:=set_any U.rep e7 x0 (some s.K.length) e4;rw[show IS S7 (some s.K.length)=vP Z 0 from i4] at cs;have i8:Aj [(ad d 0,I x0)] x:= .cons o0 .nil;refine AY [Cu 0 5 [(3,.c 0)],.one 5]<|E3 [0,1,7,62,65,66] [qv 62 e,(65,I x0),qv 66 Z] (Bo (oO:oX 0 l.length)) i8<|BW 67 (cs.mono ?_);rintro en i9 ⟨rfl,S8,i2,i7,e2⟩;refine⟨_,rfl,.inl oK,?_⟩;have i6:=U.E i7 e2;refine BG []<|Fu rfl ⟨rfl,_,S8,T9,C9,i6,(i2 .E oS).trans (e7.trans he.symm),D,f⟩
 refine Ae (Ad (Ad ?_));by_cases G:1<l.length
 .have q1:(1:Int)<(l.length:Int):=oO;refine Be [(2,.T)] [0,1,7,58] [(58,bT)] (Bo (EE q1)) ?_;rw[if_pos G] at a;split at a
  case h_2=>cases a
  rename_i s7 g0;have ca:=Oi h9.rep m s.K.length g0;rw[L] at ca;refine Ae (Bg rfl<|AY [AM 0 2,.one 2]<|AN [0,1,7,59,60] [qv 59 e,qv 60 Z]<|BW 61 (ca.mono ?_));rintro en x ⟨rfl,S7,i3,U,e3⟩;refine⟨_,rfl,.inl oK,BG [0,1,7] ?_⟩;have e1:∀r,¬isRow r->S7 r=S6 r:=i3;exact Ae (last s7 S7 x (h9.E U e3) ((e1 .E (by rintro⟨_,h⟩;cases h)).trans m) ((e1 _ (by rintro⟨_,h⟩;cases h)).trans a1) (by unfold E6 at L⊢;rw[e1 _ (by rintro⟨_,h⟩;cases h)];exact L) (by rw[Uw g0];exact c3) a)
 .have q1:¬(1:Int)<(l.length:Int):=oO;refine Be [(2,.F)] [0,1,7,58] [(58,bF)] (Bo (Er q1)) ?_;rw[if_neg G] at a;exact Ae (B1 rfl (AZ (Ae (Eu (last s6 S6 w9 h9 m a1 L c3 a)))))
end Go.Proofs.YtboflajfckfphaaGreatDoor
namespace Go.Proofs
open Go.Shelf Go.Proofs.Tryz
def JQ:Go.Shelf.Ren:=⟨fun|6=>115|15=>213|14=>212|28=>305|29=>306|20=>297|21=>298|22=>299|23=>300|24=>301|25=>302|26=>303|27=>304|46=>364|47=>365|48=>366|49=>367|50=>368|57=>408|n=>n,fun|22=>25|24=>3|25=>157|3=>3|39=>340|0=>0|53=>417|55=>419|4=>4|46=>411|45=>410|50=>260|5=>5|9=>9|66=>465|70=>469|76=>510|77=>511|n=>n,fun|n=>n⟩
theorem OC:Go.Proofs.SlLaysF.n6 prog JQ:=⟨oK,⟨f115.name,oD,oC func115⟩,⟨f212.name,oD,oC func212⟩,oC func213,⟨f297.name,oD,oC func297⟩,⟨f298.name,oD,oC func298⟩,⟨f299.name,oD,oC func299⟩,⟨f300.name,oD,oC func300⟩,⟨f301.name,oD,oC func301⟩,⟨f302.name,oD,oC func302⟩,⟨f303.name,oD,oC func303⟩,⟨f304.name,oD,oC func304⟩,oC func305,oC func306,⟨f364.name,oD,oC func364⟩,oC func365,oC func366,⟨f367.name,oD,oC func367⟩,⟨f368.name,oD,oC func368⟩,⟨f408.name,oD,oC func408⟩,underlying0,isAgg0,sizeOf0,zeroValue0,underlying3,isAgg3,sizeOf3,zeroValue3,underlying4,isAgg4,sizeOf4,zeroValue4,underlying5,isAgg5,sizeOf5,zeroValue5,underlying9,isAgg9,sizeOf9,zeroValue9,underlying25,isAgg25,sizeOf25,zeroValue25,isAgg3,sizeOf3,underlying157,isAgg157,sizeOf157,zeroValue157,underlying340,isAgg340,sizeOf340,zeroValue340,underlying410,isAgg410,sizeOf410,zeroValue410,underlying411,isAgg411,sizeOf411,zeroValue411,underlying260,isAgg260,sizeOf260,zeroValue260,underlying417,isAgg417,sizeOf417,zeroValue417,underlying419,isAgg419,sizeOf419,zeroValue419,underlying465,isAgg465,sizeOf465,zeroValue465,underlying469,isAgg469,sizeOf469,zeroValue469,underlying510,isAgg510,sizeOf510,zeroValue510,underlying511,isAgg511,sizeOf511,zeroValue511⟩
def Pc:Go.Shelf.Ren:=⟨fun|5=>118|7=>214|n=>n,fun|22=>3|3=>3|4=>4|n=>n,fun|n=>n⟩
theorem Xt:Go.Proofs.SlLaysC2.n5 prog Pc:=⟨oK,⟨f118.name,oD,oC func118⟩,⟨f214.name,oD,oC func214⟩,underlying3,isAgg3,sizeOf3,zeroValue3,underlying4,isAgg4,sizeOf4,zeroValue4,underlying3,isAgg3,sizeOf3,zeroValue3⟩
def OD:Go.Shelf.Ren:=⟨fun|43=>292|n=>n,fun|22=>25|23=>3|3=>3|4=>4|0=>0|n=>n,fun|n=>n⟩
theorem UG:Go.Proofs.SlLaysE.n43 prog OD:=⟨oK,⟨f292.name,oD,oC func292⟩,underlying0,isAgg0,sizeOf0,zeroValue0,underlying3,isAgg3,sizeOf3,zeroValue3,underlying4,isAgg4,sizeOf4,zeroValue4,underlying25,isAgg25,sizeOf25,zeroValue25,isAgg3,sizeOf3⟩
def Pd:Go.Shelf.Ren:=⟨fun|45=>21|n=>n,fun|22=>25|23=>3|3=>3|4=>4|0=>0|n=>n,fun|n=>n⟩
theorem Xu:Go.Proofs.SlLaysE.n45 prog Pd:=⟨oK,⟨f21.name,oD,oC func21⟩,underlying0,isAgg0,sizeOf0,zeroValue0,underlying3,isAgg3,sizeOf3,zeroValue3,underlying4,isAgg4,sizeOf4,zeroValue4,underlying25,isAgg25,sizeOf25,zeroValue25,isAgg3,sizeOf3⟩
def JR:Go.Shelf.Ren:=⟨fun|10=>49|6=>120|n=>n,fun|22=>25|23=>3|25=>147|3=>3|4=>4|0=>0|n=>n,fun|n=>n⟩
theorem OE:Go.Proofs.SlLaysH.n10 prog JR:=⟨oK,⟨f120.name,oD,oC func120⟩,⟨f49.name,oD,oC func49⟩,underlying0,isAgg0,sizeOf0,zeroValue0,underlying3,isAgg3,sizeOf3,zeroValue3,underlying4,isAgg4,sizeOf4,zeroValue4,underlying25,isAgg25,sizeOf25,zeroValue25,isAgg3,sizeOf3,underlying147,isAgg147,sizeOf147,zeroValue147⟩
def OG:Go.Shelf.Ren:=⟨fun|8=>98|6=>120|n=>n,fun|22=>25|23=>3|25=>147|4=>4|3=>3|0=>0|n=>n,fun|n=>n⟩
theorem KN:Go.Proofs.SlLaysH.n8 prog OG:=⟨oK,⟨f120.name,oD,oC func120⟩,⟨f98.name,oD,oC func98⟩,underlying0,isAgg0,sizeOf0,zeroValue0,underlying3,isAgg3,sizeOf3,zeroValue3,underlying4,isAgg4,sizeOf4,zeroValue4,underlying25,isAgg25,sizeOf25,zeroValue25,isAgg3,sizeOf3,underlying147,isAgg147,sizeOf147,zeroValue147⟩
def Pe:Go.Shelf.Ren:=⟨fun|31=>51|29=>121|n=>n,fun|22=>25|23=>3|4=>4|3=>3|0=>0|n=>n,fun|n=>n⟩
theorem Ql:Go.Proofs.SlLaysE.n31 prog Pe:=⟨oK,⟨f121.name,oD,oC func121⟩,⟨f51.name,oD,oC func51⟩,underlying0,isAgg0,sizeOf0,zeroValue0,underlying3,isAgg3,sizeOf3,zeroValue3,underlying4,isAgg4,sizeOf4,zeroValue4,underlying25,isAgg25,sizeOf25,zeroValue25,isAgg3,sizeOf3⟩
end Go.Proofs
namespace Go.Proofs.YtboflajfckfphaaGreatDoor
open Go.RowKit Bud Go Go.Sort Go.Proofs Go.Lib Go.Proofs.Tryz
set_option maxRecDepth 1000000
def dM (w:World) (g:Nat) (W:World):Prop:=w.heap.size<=W.heap.size/\∀b o,b<w.heap.size->b≠g->W.cell? (ad b o)=w.cell? (ad b o)
variable{W:World} {V:Value}
theorem Dj.oth {w:World} {g z n:Nat} {f:List Value} (h:Dj w V z n f) (a:dM w g W) (k:V.ownBlock≠some g):Dj W V z n f:=by
 refine⟨h.1,?_⟩;rcases h.2 with m|⟨b,o,c,rfl,d,l⟩
 .exact .inl m
 .exact .inr ⟨b,o,c,rfl,Bx d a.1,fun j u i=>(a.2 b _ d (fun e=>k (by rw[e];rfl))).trans (l j u i)⟩
theorem Qa {w:World} {g:Nat} (h:w.grownBy W (some g)):dM w g W:=⟨h.size,fun b o d a=>Gs (h.block b d (fun e=>a (Ah e))) o⟩
theorem WV {w:World} {g:Nat} (h:Bl w W):dM w g W:=⟨h.size,fun b o a _=>Gs (h.block b a) o⟩
theorem Mq (w:World):grow w #[]=w:=by simp[grow]
section
variable{B n c g:Nat} {w:World} {f:List Int}
theorem Gk (h:Ba B w (vS g n c) (3,1,n,f.map I)):f.length=n/\n<=c/\c<=maxLen/\∃a:Array Value,B<=g/\w.heap[g]?=some (.cells a 3 (0,0))/\a.size=c*1/\a.toList.take n=f.map I:=by
 have o:(f.map I).length=n*1:=h.1;rcases h.2 with⟨d,_⟩|⟨q,cap,a,d,m,l,k,j,i,e⟩
 .cases d
 .injection d with b _ p;injection b with b;injection b with b;subst b p;exact⟨by simpa using o,k,j,a,m,l,i,by simpa using e⟩
theorem Jj (h:Ba B w (vS g n c) (3,1,n,f.map I)):Holds (Value.int .i64) w g 0 f.toArray:=by
 have⟨d,_,_,e,_,b,_,a⟩:=Gk h;exact holds_of_blockI b (by rw[d];exact a)
theorem Lx (h:Ba B w (vS g n c) (3,1,n,f.map I)) {ys:List Int} (q:ys.length=n) (m:Nat) (a:Array Obj) (k:Nat) (b:k<=n):
  Ba B (grow (putRow (Value.int .i64) (Go.Sort.ahead w m) g 0 ys.toArray) a) (vS g k c) (3,1,k,(ys.take k).map I)/\w.grownBy (grow (putRow (Value.int .i64) (Go.Sort.ahead w m) g 0 ys.toArray) a) (some g):=by
 have⟨o,s,l,p,j,i,e,r⟩:=Gk h;have:=ownsRow_sortedI (n:=m) (os:=a) (ss:=f) (ts:=ys) oO j i oO l e;rw[o] at this;have d:=Lo this b;refine⟨?_,grownBy_sortedI _⟩;show World.ownsRow _ _ _ _ _ _ _;simpa[DZ] using d
theorem Ov (h:Ba B w (vS g n c) (3,1,n,f.map I)) (q:Int->Bool) (d:Nat) (lb:Array Value) (y:∀a w,(callFunc d a).run prog w= .ok (.enter d a) w)
  (s:∀W,dM w g W->∀x,Cg d (#[I x]++lb) W fun e b=>e= .returned (.bool (q x))/\W=b):
  Cg 49 #[vS g n c,.func (.func d) #[] lb] w fun v b=>v= .returned (vS g (f.filter fun x=>!q x).length c)/\Ba B b (vS g (f.filter fun x=>!q x).length c) (3,1,(f.filter fun x=>!q x).length,(f.filter fun x=>!q x).map I)/\w.grownBy b (some g):=by
 have⟨o,u,t,_⟩:=Gk h;have i:f.toArray.size=n:=by simpa using o
 have p:n<=9223372036854775807:=by unfold maxLen at t;omega
 have k:∀W,dM w g W->∀x,FnGives prog d lb #[I x] (.bool (q x)) W:=fun W j x=>(s W j x).mono fun e b ⟨z,e2⟩=>⟨z,0,e2.symm⟩
 have l:=AnyE.slices_DeleteFunc OE (Value.int .i64) (fun _=>rfl) q d lb y 0 zeroValue3 g 0 c f.toArray w (fun W x j=>k W (WV j) x)
  (fun m C A x D=>k _ (Qa (grownBy_sortedI A)) x) (Jj h) (by rw[i];exact p) (by rw[i];exact u)
 rw[i] at l;refine l.mono ?_;rintro e b ⟨rfl,m,rfl⟩;have r:(f.filter fun x=>!q x).length<=n:=by rw[<-o];exact List.length_filter_le _ _
 have:=Lx h (ys:=(f.filter fun x=>!q x)++List.replicate (n-(f.filter fun x=>!q x).length) 0) oT m #[] _ r;rw[Mq,List.take_left] at this;exact⟨rfl,this⟩
theorem QN {P:Int->Prop} [Inhabited {x//P x}] (d:Array {x//P x}) (a:Array Value):putCells (fun x:{x//P x}=>Value.int .i64 x.1) 0 d a=putCells (Value.int .i64) 0 (d.map Subtype.val) a:=by
 unfold putCells;apply Fw;intro k;rw[Im,Im]
 cases a[k]? with
 |none=>rfl
 |some u=>
  simp only[Bf,Array.size_map];congr 1;by_cases h:0<=k/\k<0+d.size
  .rw[if_pos h,if_pos h];simp[show k<d.size by omega]
  .rw[if_neg h,if_neg h]
theorem SX (h:Ba B w (vS g n c) (3,1,n,f.map I)) (L:n<=lim) (O:g<w.heap.size) (i:Int->Int->Int) (C:SWO (ltOf i)) (R:∀x y,ltOf i x y=false->ltOf i y x=false->x=y) (P:Int->Prop) (A:P 0) (S:∀x∈f,P x) (t:Nat) (G:Array Value) (eg:∀l w,(callFunc t l).run prog w= .ok (.enter t l) w)
  (Y:∀W,dM w g W->∀x y,P x->P y->Cg t (#[I x,I y]++G) W fun e p=>e= .returned (I (i x y))/\∃q k,p=grow (W.drewN q) k):
  Cg 115 #[vS g n c,.func (.func t) #[] G] w fun Z p=>Z= .returned (.tuple #[])/\Ba B p (vS g n c) (3,1,n,(f.mergeSort fun x y=>!ltOf i y x).map I)/\w.grownBy p (some g):=by
 have⟨D,h2,h3,_⟩:=Gk h
 haveI:Inhabited {x//P x}:=⟨⟨0,A⟩⟩
 obtain⟨d,s⟩:∃d:List {x//P x},d.map Subtype.val=f:=⟨f.pmap Subtype.mk S,by rw[List.map_pmap];simp⟩;have u:d.length=n:=by rw[<-D,<-s];simp
 have J:d.toArray.size=n:=by simpa using u
 have U:Holds (fun x:{x//P x}=>Value.int .i64 x.1) w g 0 d.toArray:=fun j M=>by
  have r:j<d.length:=by simpa using M
  have:=Jj h j (by rw[<-s];simpa using r);refine⟨this.1.trans ?_,this.2⟩;congr 2;subst s;simp[r]
 have H:∀m k (o:Array {x//P x}),sortWorld (fun x:{x//P x}=>Value.int .i64 x.1) w g 0 m o k=grow (putRow (Value.int .i64) (Go.Sort.ahead w m) g 0 (o.map Subtype.val)) k:=fun m k o=>by
  unfold sortWorld putRow;rw[show putCells (fun x:{x//P x}=>Value.int .i64 x.1) 0 o=putCells (Value.int .i64) 0 (o.map Subtype.val) from funext fun c=>QN o c]
 have v:=Any.slices_SortFunc_total OC (fun x:{x//P x}=>Value.int .i64 x.1) (fun _=>rfl) (fun x y=>i x.1 y.1) ⟨fun x=>C.irrefl x.1,fun x y z=>C.trans x.1 y.1 z.1,fun x y z=>C.ntrans x.1 y.1 z.1⟩ t G g 0 c d.toArray w eg
  (fun m k o s x y=>Y _ (by rw[H];exact Qa (grownBy_sortedI _)) x.1 y.1 x.2 y.2) U O (by rw[J];unfold lim at L;omega) (fun x y a b=>Subtype.ext (R _ _ a b))
 rw[J] at v;change Cg 115 _ _ _ at v;refine v.mono ?_;rintro e p ⟨rfl,m,k,rfl⟩;have Q:(d.mergeSort fun x y=>!ltOf (fun x y:{x//P x}=>i x.1 y.1) y x).map Subtype.val=f.mergeSort fun x y=>!ltOf i y x:=by
  rw[<-s];exact List.map_mergeSort (fun a _ b _=>rfl)
 have:=Lx h (ys:=f.mergeSort fun x y=>!ltOf i y x) (by rw[List.length_mergeSort,D]) m k n (Ai _);rw[CX (by rw[List.length_mergeSort,D];exact Ai _)] at this;rw[H];refine⟨rfl,?_⟩;simp only[E4];rw[Q];exact this
theorem SY (A:Option Addr) (b:Value):Cg 115 #[.slice A 0 c,b] w fun i a=>i= .returned (.tuple #[])/\w=a:=by
 have d:=AnyF.slices_SortFunc_none (P:=prog) (ρ:=JQ) {OC with} A c b w;exact Calls.mono d fun e a ⟨h,h2⟩=>⟨h,h2.symm⟩
def MQ:Int->List Int->List Int
 |_,[]=>[]
 |p,y::r=>if y=p then MQ y r else y::MQ y r
theorem GM:∀(r:List Int) (x:Int),Cj (x::r)=x::MQ x r
 |[],x=>rfl
 |y::r,x=>by
  unfold Cj MQ;by_cases e:x=y
  .subst e;rw[if_pos rfl,if_pos rfl];exact GM r x
  .rw[if_neg e,if_neg (fun h=>e h.symm),GM r y]
theorem Qb:∀(r:List Int) (p y:Int),MQ p (r++[y])=MQ p r++(if y=(r.getLast?.getD p) then[] else[y])
 |[],p,y=>by by_cases e:y=p<;>simp[MQ,e]
 |x::r,p,y=>by
  have a:((x::r).getLast?).getD p=(r.getLast?).getD x:=by simp[List.getLast?_cons]
  rw[a];unfold MQ;have:=Qb r x y;by_cases e:x=p
  .simp only[DA,if_pos e];exact this
  .simp only[DA,if_neg e,this,DA]
theorem Ow:∀(m:Nat) (l:List Int),m<=l.length->compactUpTo l.toArray m=Cj (l.take m)
 |0,l,_=>by simp[compactUpTo,Cj]
 |m+1,l,h=>by
  rw[compactUpTo_succ,Ow m l oO,CK];have b:m<l.length:=oO;have k:l[m]?=some l[m]:=Ab b;rw[k];have d:l.toArray[m]! =l[m]:=by simp[b]
  rw[d];unfold keeps;rw[d]
  match a:l.take m with
  |[]=>
   have:m=0:=by
    have i:(l.take m).length=0:=by rw[a];rfl
    rw[Ca] at i;omega
   subst this;simp[Cj]
  |x::r=>
   have o:0<m:=by
    rcases D6 m with e|e
    .subst e;simp at a
    .exact e
   have j:l.toArray[m- 1]! =r.getLast?.getD x:=by
    have:(l.take m).getLast?=some l[m- 1]:=by
     rw[List.getLast?_eq_getElem?,Ca,F3 oO,List.getElem?_take_of_lt oO];exact Ab oO
    rw[a,List.getLast?_cons] at this;have:=Ah this;rw[this];simp[show m- 1<l.length by omega]
   rw[j];show Cj (x::r)++_=Cj (x::(r++[l[m]]));rw[GM,GM,Qb,DA];by_cases e:l[m]=r.getLast?.getD x
   .simp[e,show m≠0 by omega]
   .simp[e]
theorem Zn (h:Ba B w (vS g n c) (3,1,n,f.map I)):
  Cg 292 #[vS g n c] w fun q b=>q= .returned (vS g (Cj f).length c)/\Ba B b (vS g (Cj f).length c) (3,1,(Cj f).length,(Cj f).map I)/\w.grownBy b (some g):=by
 have⟨p,o,l,_⟩:=Gk h;have a:f.toArray.size=n:=by simpa using p
 have j:n<=9223372036854775807:=by unfold maxLen at l;omega
 have i:=AnyE.slices_Compact UG (Value.int .i64) (fun _=>rfl) (EqlAt.intD _ _ _) (NeqAt.intD _ _ _) 0 zeroValue3 g 0 c f.toArray w (Jj h) (by rw[a];exact j) (by rw[a];exact o);have d:compactUpTo f.toArray f.toArray.size=Cj f:=by rw[Ow _ f oS];simp
 rw[d,a] at i;have k:(Cj f).length<=n:=by rw[<-d];unfold compactUpTo;rw[CJ,<-a];exact Bj (List.length_filter_le _ _) oS
 refine i.mono ?_;rintro e b ⟨rfl,m,rfl⟩;have:=Lx h (ys:=Cj f++List.replicate (n-(Cj f).length) 0) oT m #[] _ k;rw[Mq,List.take_left] at this;exact⟨rfl,this⟩
theorem del_any (h:Ba B w (vS g n c) (3,1,n,f.map I)) {i:Nat} (x:i<n):
  Cg 21 #[vS g n c,N i,N (i+1)] w fun v b=>v= .returned (vS g (f.eraseIdx i).length c)/\Ba B b (vS g (f.eraseIdx i).length c) (3,1,(f.eraseIdx i).length,(f.eraseIdx i).map I)/\w.grownBy b (some g):=by
 have⟨r,u,t,_⟩:=Gk h;have j:f.toArray.size=n:=by simpa using r
 have⟨d,l,p⟩:=Af.1 Ek;injection p with p a;injection a with a s;have o:=AnyE.slices_Delete Xu (Value.int .i64) (fun _=>rfl) 0 zeroValue3 d l a g 0 c i (i+1) f.toArray w (Jj h) (by rw[j];exact u) (by unfold maxLen at t;omega) oO (by rw[j];omega);rw[j] at o;change Cg 21 _ _ _ at o;have q:f.eraseIdx i=f.take i++f.drop (i+1):=List.eraseIdx_eq_take_drop_succ f i;have k:(f.eraseIdx i).length=n-(i+1-i):=by rw[List.length_eraseIdx,if_pos oO,r];omega
 refine o.mono ?_;rintro e b ⟨rfl,m,rfl⟩;rw[k];have:=Lx h (ys:=f.take i++f.drop (i+1)++List.replicate (i+1-i) 0) oT m #[] (n-(i+1-i)) oO;rw[Mq] at this;rw[<-q,<-k,List.take_left] at this;rw[<-k];refine⟨rfl,?_⟩;rw[q] at this⊢;simpa using this
theorem V6 (h:Dj w V 1 n (f.map I)) (i:n<=maxLen) (x:Int):Cg 51 #[V,I x] w fun m a=>m= .returned (.bool (decide (x∈f)))/\w=a:=by
 have l:f.length=n:=by have:=h.1;simpa using this
 rcases h.2 with⟨c,rfl,rfl⟩|⟨g,o,c,rfl,_,k⟩
 .have b:f=[]:=BY l;subst b;refine(AnyE.slices_Contains_empty Ql none c (I x) w).mono ?_;rintro e a ⟨rfl,rfl⟩;exact⟨oS,rfl⟩
 .have b:=AnyE.slices_Contains Ql (Value.int .i64) _ (EqlAt.intD _ _ _) g o n c f x w oO (by unfold maxLen at i;omega) (fun j d=>by
   have:=k j (I f[j]) (by simp[d]);rw[this];simp[d])
  refine Calls.mono b ?_;rintro e a ⟨rfl,rfl⟩;refine⟨?_,rfl⟩;rw[CX oO];congr 2;rw[Dz];simp
theorem SZ (h:Dj w V 1 n (f.map I)) (m:n<=lim) (q:Int->Bool) (d:Nat) (lb:Array Value) (v:∀a w,(callFunc d a).run prog w= .ok (.enter d a) w)
  (s:∀W,Bl w W->∀x,Cg d (#[I x]++lb) W fun e b=>e= .returned (.bool (q x))/\W=b):Cg 98 #[V,.func (.func d) #[] lb] w fun u b=>u= .returned (.bool (f.any q))/\∃k,b=w.drewN k:=by
 have t:f.length=n:=by have:=h.1;simpa using this
 rcases h.2 with⟨c,rfl,rfl⟩|⟨g,o,c,rfl,_,p⟩
 .have i:f=[]:=BY t;subst i;refine(AnyE.slices_ContainsFunc_empty KN none c _ w).mono ?_;rintro e b ⟨rfl,rfl⟩;exact⟨oS,0,rfl⟩
 .have i:=AnyE.slices_ContainsFunc KN (Value.int .i64) q d lb v g o n c f w (fun W x r=>(s W r x).mono fun e b ⟨y,e2⟩=>⟨y,0,e2.symm⟩) oO (by unfold lim at m;omega) (fun j l=>by
   have:=p j (I f[j]) (by simp[l]);rw[this];simp[l])
  rw[CX oO] at i;exact i
theorem WW (h:aH w V 1 n (f.map I)) (j:n<=lim) (q:Int->Bool) (b:Nat) (lb:Array Value) (o:∀a w,(callFunc b a).run prog w= .ok (.enter b a) w)
  (l:∀W,Bl w W->∀x,Cg b (#[I x]++lb) W fun e d=>e= .returned (.bool (q x))/\W=d):Cg 98 #[V,.func (.func b) #[] lb] w fun m d=>m= .returned (.bool (f.any q))/\∃k,d=w.drewN k:=by
 rcases h with h|⟨rfl,i,A,c,rfl⟩
 .exact SZ h j q b lb o l
 .have i:f=[]:=List.map_eq_nil_iff.1 i;subst i;refine(AnyE.slices_ContainsFunc_empty KN A c _ w).mono ?_;rintro e d ⟨rfl,rfl⟩;exact⟨oS,0,rfl⟩
end
end Go.Proofs.YtboflajfckfphaaGreatDoor
namespace Go.Proofs.YtboflajfckfphaaGreatDoor
open Go.RowKit Bud Go
set_option maxRecDepth 1000000
section
def TU (L:Sts) (b:Op):Option (Bool×Int):=
 match b with
 | .binOp .shl _ x (.const (.int .u64 1)) _=>match ev L x with
  |some (.int .i64 a)=>some (true,a)
  |_=>none
 | .binOp .shr _ x (.const (.int .u64 1)) _=>match ev L x with
  |some (.int .i64 a)=>some (false,a)
  |_=>none
 |_=>none
theorem Ym {P:Program} {N:Nat} {D:List Deferred} {L:Sts} {a:Act} (h:Has N D L a) {o:Oper} {b:Bool} {x:Int} (c:TU L o.op=some (b,x)) (w:World):
  (execOp a.eval o).run P w= .ok (.value (.int .i64 (if b then IntKind.i64.wrap (x*2) else x.fdiv 2))) w:=by
 have⟨k,l,i,j,g,guard⟩:=o;unfold TU at c;simp only at c;split at c
 .split at c
  case h_2=>cases c
  rename_i d;obtain⟨rfl,rfl⟩:=Prod.mk.inj (Ah c);have e:a.eval (.const (.int .u64 1))= .int .u64 1:=rfl;simp[execOp,h.val d,e,eqGuard,binOp,Op.shift,IntKind.bits]
 .split at c
  case h_2=>cases c
  rename_i d;obtain⟨rfl,rfl⟩:=Prod.mk.inj (Ah c);have e:a.eval (.const (.int .u64 1))= .int .u64 1:=rfl;simp[execOp,h.val d,e,eqGuard,binOp,Op.shift,IntKind.bits]
 .cases c
section
variable{z:Option Nat} {D:List Deferred} {f:Func} {r:Nat} {Q:EO} {S:Option (World->Prop)} {Ls:List Nat} {st:List Stp} {L L':Sts} {w:World}
theorem OH {i:Nat} (d:Nat) (b:Bool) (x:Int) (v:Value) (g:DD (Bt f r) L (B5 (Bt f r) i)=some true) (l:(B5 (Bt f r) i).dst=some d) (c:Nat.blt d f.ntmps=true) (k:TU L (B5 (Bt f r) i).op=some (b,x))
  (j:(Value.int .i64 (if b then IntKind.i64.wrap (x*2) else x.fdiv 2))=v) (m:Ls.contains i=true∨(CR S w w->CR S w w)) (h:Es z D f r Q S Ls st ((d,v)::L) w):Es z D f r Q S Ls (.one i::st) L w:=by
 subst j;exact EB g fun a e=>D8 (Ym e k w) ⟨m,by rw[l];exact h _ (e.put (Bn c) _)⟩
end
end
end Go.Proofs.YtboflajfckfphaaGreatDoor
namespace Go.Proofs.YtboflajfckfphaaGreatDoor
open Go.RowKit Bud Go Go.Proofs.Tryz
set_option maxRecDepth 1000000
def jq:Sh:= .seq (.seq (.reg 4) (.cond (.tmp 12) .skip (.exit 2))) (.block 3 (.reg 5))
def mu:Sh:= .block 1 (.seq (.reg 3) (.seq (.block 2 (.loop (jq))) (.seq (.seq (.reg 6) (.cond (.tmp 18) (.seq (.reg 7) .ret) .skip)) (.reg 8))))
def mw:Sh:= .seq (.reg 0) (.seq (.seq (.reg 1) (.cond (.tmp 9) (.seq (.reg 2) .ret) .skip)) (.block 0 (.loop mu)))
theorem gI:f108.body=some (mw.code f108):=oK
theorem MR:∀(n p i:Nat),0<p->p<=2*i->i<2^n*p->i<FG n p i/\FG n p i<=2*i/\∃m,FG n p i=p*2^m
 |0,p,i,h0,h1,h2=>by unfold FG;exact⟨oO,h1,0,oO⟩
 |n+1,p,i,h0,h1,h2=>by
  unfold FG;split
  .rename_i h;have⟨a,b,m,c⟩:=MR n (2*p) i oO oO (by rw[Nat.pow_succ] at h2;rw[<-Nat.mul_assoc];exact h2);exact⟨a,b,m+1,by rw[c,Nat.pow_succ];rw[Nat.mul_comm 2 p,Nat.mul_assoc,Nat.mul_comm 2]⟩
  .exact⟨oO,h1,0,oO⟩
theorem Zo {w:World} {i n0 p:Nat} {Q:EO} [BZ Q] (l:i<1099511627776) (h:0<p) (g:p<=2*i) (e:i<2^n0*p)
 (f:HN f108 (fun a w=>Q .normal a w) [(0,N i),(2,I 0),(3,N (FG n0 p i))] w):HW f108 (.block 2 (.loop jq)) Q [(0,N i),(2,I 0),(3,N p)] w:=by
 refine Bd<|Ct (fun n L W=>∃c,L=[(0,N i),(2,I 0),(3,N c)]/\W=w/\0<c/\c<=2*i/\i<2^n*c/\FG n c i=FG n0 p i) (n:=n0) ⟨p,rfl,rfl,h,g,e,rfl⟩ ?_;generalize FG n0 p i=k at f⊢;rintro n L W ⟨p,rfl,rfl,h,g,e,b⟩;refine Ad (Ad ?_);by_cases d:p<=i
 .have q1:(p:Int)<=(i:Int):=oO;refine Be [(2,.T)] [0,2,3,12] [(3,N p),(12,bT)] (Bo (EE q1))<|Ae (Bg rfl (AZ (Ae (Bd ?_))));obtain⟨n,rfl⟩:∃m,n=m+1:=⟨n- 1,by cases n with|zero=>simp at e;omega|succ n=>rfl⟩;unfold FG at b;rw[if_pos d] at b;have q2:IntKind.i64.wrap ((p:Int)*2)=((2*p:Nat):Int):=by rw[Bb _ oO];omega
  refine AY [AM 0 1,.one 1,AM 2 1]<|AN [0,2,3,13] [(13,N p)]<|OH 14 true p (N (2*p)) oK oK oK oK (vI q2) (.inl oK)<|AN [0,2,3] [(3,N (2*p))]<|AK ?_;exact BN (BF (m:=n) oO ⟨2*p,rfl,rfl,oO,oO,by rw[<-Nat.mul_assoc,<-Nat.pow_succ];exact e,b⟩)
 .have q1:¬(p:Int)<=(i:Int):=oO;refine Be [(2,.F)] [0,2,3,12] [(3,N p),(12,bF)] (Bo (Er q1)) ?_;have j:p=k:=by
   cases n with
   |zero=>exact b
   |succ n=>unfold FG at b;rwa [if_neg d] at b
  subst j;exact Ae (B1 rfl (BQ (Bc nX (B6 nX (Ck (BV f))))))
theorem Zp {w:World} {i:Nat} (u:1<=i) (z:i<1099511627776):Cg 108 #[N i] w fun x h=>x= .returned (N (FH 64 i))/\w=h/\FH 64 i<=i:=by
 refine CN gI<|Ad<|B8 [] [0,2] [(2,I 0)]<|Ae (Ad (Ad ?_));have q1:¬(i:Int)<(1:Int):=oO;have q2:¬(1099511627776:Int)<(i:Int):=oO;refine Be [(1,.F),(4,.F)] [0,2,9] [(9,bF)] (EP (Er q1) (Er q2))<|Ae (B1 rfl (AZ (Ae (Eu (L':=[(0,N i),(2,I 0)]) (Bd ?_)))));have s:i<2^64:=oO;refine Ct (fun n L W=>∃j,L=[(0,N j),(2,I 0)]/\W=w/\1<=j/\j<=i/\j<2^n/\FH n j=FH 64 i) (n:=64) ⟨i,rfl,rfl,u,Ai _,s,rfl⟩ ?_;generalize FH 64 i=y;rintro n L W ⟨j,rfl,rfl,r,q,g,a⟩;refine Bd (Ad<|Be (O:=[(I 1:Value)=N 1]) [(0,.e (N 1))] [0,2,3] [(0,N j),(2,I 0),(3,N 1)] ⟨(vI rfl),trivial⟩ ?_);have⟨f1,f2,m,f3⟩:=MR 64 1 j oO oO oO;refine Ae (Ad (Zo (n0:=64) oO oO oO oO (Ae (Ad (Ad ?_)))));obtain⟨n,rfl⟩:∃m,n=m+1:=⟨n- 1,by cases n with|zero=>simp at g;omega|succ n=>rfl⟩;unfold FH at a;simp only at a;generalize FG 64 1 j=P at*;obtain⟨m,rfl⟩:∃k,m=k+1:=⟨m- 1,by cases m with|zero=>simp at f3;omega|succ n=>rfl⟩;have t:P=2*2^m:=by rw[f3,Nat.pow_succ];omega
 have p:0<2^m:=Nat.pow_pos oD;have c:P/2=2^m:=oO;rw[c] at a;have d:((P:Int)).fdiv 2=((2^m:Nat):Int):=by rw[t];rw[Int.fdiv_eq_ediv_of_nonneg _ oD];omega
 generalize A:2^m=M at*;have q3:IntKind.i64.wrap ((P:Int)-(1:Int))=((P- 1:Nat):Int):=by rw[Bb _ oO];omega
 by_cases b:j+1=P
 .have q4:((j:Int)==((P- 1:Nat):Int))=true:=oT;refine Be [(2,.e (N (P- 1))),(3,.T)] [0,2,3,18] [(3,N P),(18,bT)] (EP (vJ q3) (vB q4)) ?_;rw[if_pos b] at a;refine Ae (Bg rfl (Ad<|AY [AM 0 1,.one 1,AM 2 1]<|AN [2,19] [(19,N P)]<|OH 20 false P (N M) oK oK oK oK (vI d) (.inl oK)<|AN [2] [(2,N M)]<|AK<|Ae (Br (Bc nR (BL (B6 nR (BL (Bu rfl (v:=N M) rfl ⟨by rw[a],rfl,oO⟩))))))))
 .have q4:((j:Int)==((P- 1:Nat):Int))=false:=oT;refine Be [(2,.e (N (P- 1))),(3,.F)] [0,2,3,18] [(3,N P),(18,bF)] (EP (vJ q3) (vB q4)) ?_;rw[if_neg b] at a;refine Ae (B1 rfl (AZ (Ae ?_)));have q5:IntKind.i64.wrap ((M:Int)-(1:Int))=((M- 1:Nat):Int):=by rw[Bb _ oO];omega
  have l:IntKind.i64.wrap ((j:Int)-((M- 1:Nat):Int))=((j-(M- 1):Nat):Int):=by rw[Bb _ oO];omega
  refine AY [AM 0 2,.one 2,Cu 3 3 [(3,.e (N (M- 1))),(4,.e (N (j-(M- 1))))]]<|AN [0,2,21,22] [(21,N j),(22,N P)]<|OH 23 false P (N M) oK oK oK oK (vI d) (.inl oK)<|G4 [0,2] [(0,N (j-(M- 1)))] (EP (vJ q5) (vJ l))<|AK ?_;have f:m<=n:=by
   have:2^m<2^(n+1):=oO;have:=(Nat.pow_lt_pow_iff_right (oD:1<2)).1 this;omega
  have o:2^m<=2^n:=Nat.pow_le_pow_right oD f;exact BN (BF (m:=n) oO ⟨j-(M- 1),rfl,rfl,oO,oO,oO,a⟩)
variable{B n k K:Nat} {p:Px} {S:Sl} {w:World}
theorem nK {u:St} {e c0 v c f g i:Nat} {x:Cl} {o b1:Int} {ro:Option Nat} {Q:EO} [BZ Q]
 (h:Rep B p u S w) (he:S .E=vS e 1 c0) (D:u.K[c]?=some x) (J:x.l[1]?=some b1) (hP:E6 S c=vP v 0) (hk:Ju u x.l x.l.length 2=some ro)
 (a4:ro=none->HN f103 (fun a w=>Q .normal a w) [qv 0 e,(3,I o),(4,vS f n g),(5,vS f k g),(6,N i),qv 7 v,(46,vS f n g),(47,N n),(48,N i)] w)
 (a3:∀d,ro=some d->∃b u2 u3,x.l[d]?=some b/\Gb u c 1 d=some u2/\Et u2 b c=some u3/\EC (-b)≠K/\
  ∀(G:Sl) (H:World),Rep B p u3 G H->(∀x,¬isRow x->G x=S x)->G (.row K)=S (.row K)->Step S G w H->HN f103 (fun a w=>Q (.exit 3) a w) [qv 0 e,(3,I o),(4,vS f n g),(5,vS f k g),(46,vS f n g),(47,N n),(48,N i)] H):
 HW f103 (.seq (.reg 13) (.block 4 (.loop dJ))) Q [qv 0 e,(3,I o),(4,vS f n g),(5,vS f k g),(6,N i),qv 7 v,(46,vS f n g),(47,N n),(48,N i)] w:=by
 have⟨a7,cc,hC,j,R,_,_,_,_,lc⟩:=h.clA D;have a5:=hP;rw[hP] at j;obtain rfl:v=a7:=by injection j with j;injection j with j;injection j with j
 have b0:1<x.l.length:=(Aa.1 J).1;have⟨M,t,hL,a9,a8,rL,fL,ll⟩:=h.litA D oO;rw[hL] at R;refine Ad<|B8 [] [0,3,4,5,6,7,8,46,47,48] [qv 0 e,(3,I o),(4,vS f n g),(5,vS f k g),(6,N i),qv 7 v,(8,I 2),(46,vS f n g),(47,N n),(48,N i)]<|Ae (Bd<|Ct (fun m L r=>w=r/\∃d,2<=d/\L=[qv 0 e,(3,I o),(4,vS f n g),(5,vS f k g),(6,N i),qv 7 v,(8,N d),(46,vS f n g),(47,N n),(48,N i)]/\Ju u x.l m d=some ro/\x.l.length<=m+d) (n:=x.l.length) ⟨rfl,2,oO,rfl,hk,oO⟩ ?_);rintro m L r ⟨rfl,d,a6,rfl,s,hm⟩;have C0:Aj [(ad v 0,vQ M x.l t)] w:= .cons R .nil;refine Ad (Ad ?_);by_cases a2:d<x.l.length
 .have q1:(d:Int)<(x.l.length:Int):=oO;refine BA [(4,.c 0),(6,.T)] [0,3,4,5,6,7,8,46,47,48,103] [(103,bT)] (Bo (EE q1)) C0<|Ae (Bg rfl (AZ (Ae (Ad (Bd (Ad ?_))))))
  cases m with
  |zero=>omega
  |succ m=>
  obtain⟨b,Y⟩:∃b,x.l[d]?=some b:=⟨_,Ab a2⟩;have ob:=rL d b Y;unfold Ju at s;rw[Y] at s;simp only at s
  cases U:KK u b with
  |none=>rw[U] at s;cases s
  |some P=>
  rw[U] at s;by_cases A:P=some false
  .subst A;have C2:Aj [(ad v 0,vQ M x.l t),(ad M d,I b)] w:= .cons R (.cons ob .nil);refine BA (O:=[0<=(d:Int)/\(d:Int)<(x.l.length:Int),(∀r,CR none w r->Cg 110 #[vP e 0,I b] r fun en y=>en=Ending.returned (.int .i8 (-1))/\r=y),(.bool (decide ((0:Int)<=((-1):Int))):Value)=bF]) [(4,.c 0),(7,.c 1),(8,.q (.int .i8 (-1))),(9,.F)] [0,3,4,5,6,7,8,46,47,48,115] [(115,bF)] ⟨oO,(fun r e'=>e'▸G7 h he b U),(Er oD),trivial⟩ C2<|Ae (B1 rfl (AZ (BN (Ae ?_))));have q2:d<maxLen:=oO;refine Be [(1,.e (N (d+1)))] [0,3,4,5,6,7,8,46,47,48] [(8,N (d+1))] (Bo (vJ (Ec q2 rfl)))<|BF (DV m) ⟨rfl,d+1,oO,rfl,s,oO⟩
  .have a1:∃z,v8 P= .int .i8 z/\0<=z:=by rcases P with _|_|_<;>first|exact⟨_,rfl,oD⟩|exact absurd rfl A
   have⟨z,hz,a0⟩:=a1;have C2:Aj [(ad v 0,vQ M x.l t),(ad M d,I b)] w:= .cons R (.cons ob .nil);refine BA (O:=[0<=(d:Int)/\(d:Int)<(x.l.length:Int),(∀r,CR none w r->Cg 110 #[vP e 0,I b] r fun en y=>en=Ending.returned (.int .i8 z)/\r=y),(.bool (decide ((0:Int)<=(z:Int))):Value)=bT]) [(4,.c 0),(7,.c 1),(8,.q (.int .i8 z)),(9,.T)] [0,3,4,5,6,7,8,46,47,48,115] [(115,bT)] ⟨oO,(fun r e'=>e'▸(hz▸G7 h he b U)),(EE a0),trivial⟩ C2 ?_;have C:ro=some d:=by rcases P with _|_|_<;>first|exact(Ah s).symm|exact absurd rfl A
   have⟨b',u2,u3,Z,g2,g3,g4,g5⟩:=a3 d C;rw[Y] at Z;injection Z with Z;subst Z;refine Ae (Bg rfl (Eu (L':=[qv 0 e,(3,I o),(4,vS f n g),(5,vS f k g),(6,N i),qv 7 v,(8,N d),(46,vS f n g),(47,N n),(48,N i)])<|aV h he D J Y a6 a5 g2 g3 g4 fun G H r1 r2 r3 r4=>QY rfl (Bc nX (B6 nX (QY rfl (g5 G H r1 r2 r3 r4))))))
 .have q1:¬(d:Int)<(x.l.length:Int):=oO;refine BA [(4,.c 0),(6,.F)] [0,3,4,5,6,7,8,46,47,48,103] [(103,bF)] (Bo (Er q1)) C0 ?_;have C:ro=none:=by
   cases m with
   |zero=>exact(Ah s).symm
   |succ m=>
    unfold Ju at s;rw[BX oO] at s;exact(Ah s).symm
  refine Ae (B1 rfl (BQ (Bc nX (B6 nX (Ck (BV (a4 C)))))))
theorem Rep.cutRow {s:St} (h:Rep B p s S w) {i m v c:Nat} {A:Option Addr} {a:List Nat} (u:S .W=vS i m v) (l:s.W[K]?=some a) (j:S (.row K)= .slice A n c) (r:k<=n):
  Rep B p {s with W:=s.W.set K (a.take k)} (Dq S (.row K) (.slice A k c)) (w.setCell (ad i K) (.slice A k c))/\Step S (Dq S (.row K) (.slice A k c)) w (w.setCell (ad i K) (.slice A k c)):=by
 have d:=h.rowOwn l;rw[j] at d;have o:n=a.length:=by
  rcases d.2 with⟨f,e⟩|⟨g,cap,x,f,_⟩
  .injection f with _ y;omega
  .injection f
 subst o;have e:=Lo d r;rw[Nat.mul_one,<-DZ] at e;have q:(a.take k).length=k:=oT;refine h.turnRow u K l (a.take k) (.slice A k c) w (by rw[q];exact e) (World.grownBy.refl w _) fun b t=> .inl (by rw[j];cases A<;>exact t)
theorem ZK {u:St} {f m i:Nat} {a:List Nat} (h:Rep B p u S w) (x:u.W[K]?=some a) (t:S (.row K)=vS f n m) (hk:k<=i) (hi:i<n):
  ∃W,(Builtin.append_ #[232,232] 232 #[vS f (k+1) m,.slice (Gn (some (ad f 0)) (i+1) m 1) (n-(i+1)) (m-(i+1))]).run prog w= .ok (vS f (k+1+(n-(i+1))) m) W/\
   ∃b,b.take (k+1+(n-(i+1)))=a.take (k+1)++a.drop (i+1)/\b.length=n/\Rep B p {u with W:=u.W.set K b} S W/\Step S S w W:=by
 have⟨e,Y,h2,h3,h4,h5,J⟩:=h.rowCells x t;have⟨r,C,G⟩:=Af.1 RQ;injection G with G M;have o:Reads w (fun _=>True) 1 (Gn (some (ad f 0)) (i+1) m 1) (n-(i+1)) ((a.drop (i+1)).map (E6 S)):=by
  refine⟨oT,fun H=>⟨ad f (i+1),by unfold Gn;rw[if_neg oO];simp[Addr.add],trivial,fun j v q=>?_⟩⟩;rw[Bz,Dl] at q
  cases s:a[i+1+j]? with
  |none=>rw[s] at q;cases q
  |some c=>
   rw[s] at q;injection q with q;subst q;have⟨g,cap,d,_,_,D,_⟩:=h.rowA x oO;rw[t] at d;obtain rfl:f=g:=by injection d with d;injection d with d;injection d with d
   have:=D _ c s;unfold Addr.add;split
   .rename_i A;subst A;exact this
   .exact this
 have z:∀y:Value,y∈(a.drop (i+1)).map (E6 S)->y.oneCell'=true:=fun y L=>by
  obtain⟨c,_,rfl⟩:=BB.1 L;have⟨P,O⟩:=Sb (S (.cl c));unfold E6;rw[O];rfl
 have⟨W,d,D,Z⟩:=K6 (P:=prog) w 232 232 237 r WC C M f (k+1) m e Y _ _ (n-(i+1)) (m-(i+1)) _ o z oO oO;refine⟨W,d,a.take (k+1)++a.drop (i+1)++a.drop (k+1+(n-(i+1))),?_,oT,?_⟩
 .rw[List.take_append_of_le_length oT,CX oT]
 .refine h.rowPut x t oT D oT ?_ Z;have U:e.toList.take (k+1)=(a.map (E6 S)).take (k+1):=by rw[<-J,List.take_take,F3 oO]
  have R:(e.toList.drop (k+1+(n-(i+1)))).take (n-(k+1+(n-(i+1))))=(a.map (E6 S)).drop (k+1+(n-(i+1))):=by rw[<-J,List.drop_take]
  rw[List.take_append,List.take_append,CX (l:=e.toList.take (k+1)) oT,CX (l:=List.map _ _) oT,U];have Q:n-(List.take (k+1) (List.map (E6 S) a)++List.map (E6 S) (List.drop (i+1) a)).length=n-(k+1+(n-(i+1))):=oT;rw[Q,R];simp[Db,DZ,List.map_drop]
theorem WP {a:Type} {l:List a} {c:a} (h:k<l.length):(l.set k c).take (k+1)=l.take k++[c]:=by
 rw[List.take_succ_eq_append_getElem (by simpa using h),List.take_set,List.set_eq_of_length_le oT];simp
theorem mg {B:Nat} {p:Px} {u:St} {S:Sl} {w:World} {e c0 A f n b i K:Nat} {g:Int} {o:List Nat} {Q:EO} [BZ Q]
 (h:Rep B p u S w) (he:S .E=vS e 1 c0) (hr:u.W[K]?=some o) (hv:S (.row K)=vS f n b) (hk:k<=i) (hi:i<n) (hK:K=EC g) (hn:n<=maxLen)
 (hQ:∀(Z:Sl) (C:World),Rep B p {u with W:=u.W.set K (o.take (k+1)++o.drop (i+1)),d:=u.L.length} Z C->(∀x,¬isRow x->Z x=S x)->Step S Z w C->HN f103 (fun a w=>Q .ret a w) [qv 2 A] C):
 HW f103 YX Q [qv 0 e,(3,I g),(4,vS f n b),(5,vS f (k+1) b),(6,N i),qv 7 A,(46,vS f n b),(47,N n),(48,N i)] w:=by
 refine Ad ?_;have⟨W,er,j,r,a0,h1,J⟩:=ZK h hr hv hk hi;have q1:i<maxLen:=oO;refine AY [Cu 0 5 [(3,.e (N (i+1)))],.one 5,AM 6 1]<|G4 (O:=[(I (IntKind.i64.wrap ((i:Int)+(1:Int))):Value)=N (i+1),0<=(((i+1):Nat):Int)/\(((i+1):Nat):Int)<=(n:Int)]) [0,3,4,5,6,7,46,47,48,183,187] [qv 0 e,(3,I g),(4,vS f n b),(5,vS f (k+1) b),(6,N i),qv 7 A,(46,vS f n b),(47,N n),(48,N i),(183,vS f (k+1) b),(187,.slice (Gn (some (ad f 0)) (i+1) b 1) (n-(i+1)) (b-(i+1)))] ⟨(vI (Ec q1 rfl)),oO,trivial⟩<|DY 188 232 232 (vS f (k+1) b) (.slice (Gn (some (ad f 0)) (i+1) b 1) (n-(i+1)) (b-(i+1))) oK oK oK oK er (.inl oK)<|AN [0,3,4,5,6,7,46,47,48] [(5,vS f (k+1+(n-(i+1))) b)]<|AK ?_;have R:K<u.W.length:=(Aa.1 hr).1;have M:(u.W.set K j)[K]?=some j:=AD R;have⟨z,cw,hW,e1,Y,a5,rW,fW,le,lw⟩:=h1.watchA he oT;simp only[Jy] at hW e1 Y rW;have y:=rW K oO;have AT:∀W,Cg 198 #[I g] W fun U l=>U= .returned (N K)/\W=l:=fun W=>hK▸QH g (by rw[<-hK];omega) W
 refine Ae (Ad ?_);have C1:Aj [(ad e 1,vQ z u.W cw)] W.drew:= .cons e1 .nil;refine Dr (O:=[(∀l,CR (some (Aj [(ad e 1,vQ z u.W cw)])) W.drew l->Cg 198 #[I g] l fun U D=>U=Ending.returned (N K)/\l=D),0<=(K:Int)/\(K:Int)<(u.W.length:Int)]) [8] (Gi [(3,.c 0),(5,.q (N K))] 0 8) [.one 8] [0,3,4,5,6,7,46,47,48,195,196] [(195,vS f (k+1+(n-(i+1))) b),(196,vP z K)] ⟨(fun l _=>AT l),oO,trivial⟩ C1<|Cz (vS f (k+1+(n-(i+1))) b) y (fW K)<|BG [0,3,4,5,6,7,46,47,48] ?_;have⟨v,H⟩:=h1.drew.cutRow hW M hv (k:=k+1+(n-(i+1))) oO;simp only[Hr] at v;rw[r] at v;have m:=J.drew.trans H;have t:∀x,¬isRow x->Dq S (.row K) (vS f (k+1+(n-(i+1))) b) x=S x:=fun x hx=>CE _ _ (fun P=>hx ⟨K,P⟩)
 generalize Dq S (.row K) (vS f (k+1+(n-(i+1))) b)=S3 at v m t;generalize(W.drew.setCell (ad z K) (vS f (k+1+(n-(i+1))) b))=w3 at v m⊢;have s:S3 .E=vS e 1 c0:=by rw[t _ (by rintro⟨_,P⟩;cases P)];exact he
 have⟨A5,c5,a4,e5,a1,a2,a3⟩:=v.trailE s;have⟨_,e7,_,_,_,fe,_⟩:=v.engF s;have⟨h4,G⟩:=v.putHead s u.L.length;refine Ae (Ad ?_);have C2:Aj [(ad e 5,sq A5 u.L c5)] w3:= .cons e5 .nil;refine AY [Cu 0 8 [(4,.c 0)],.one 8]<|DO [0,3,4,5,6,7,46,47,48,202,204] [(202,N u.L.length),(204,vP e 7)] C2<|Cz (N u.L.length) e7 (fe 7)<|BG [0,3,4,5,6,7,46,47,48]<|Ae (Ad<|B8 [] [2] [qv 2 A]<|Ae (Br (hQ S3 _ h4 t (m.trans G))))
theorem mh {B:Nat} {p:Px} {u:St} {S:Sl} {w:World} {e c0 s c f n j i K:Nat} {x:Cl} {r a:Int} {b:List Nat} {D:Option Bool} {Q:EO} [BZ Q]
 (h:Rep B p u S w) (R:S .E=vS e 1 c0) (a4:u.K[c]?=some x) (P:x.l[0]?=some a) (hP:E6 S c=vP s 0) (hr:u.W[K]?=some b) (hv:S (.row K)=vS f n j) (hk:k<=i) (hi:i<n) (hK:K=EC r) (hn:n<=maxLen)
 (a1:KK u a=some D) (M:D≠some true)
 (a5:D=some false->∀(t:Sl) (v:World),Rep B p {u with W:=u.W.set K (b.take k++[c]++b.drop (i+1)),d:=u.L.length} t v->(∀x,¬isRow x->t x=S x)->Step S t w v->HN f103 (fun a w=>Q .ret a w) [qv 2 s] v)
 (a6:D=none->∃Y,Ik u a (some c)=some Y/\∀(t:Sl) (v:World),Rep B p {Y with W:=u.W.set K (b.set k c)} t v->(∀x,x≠ .L->t x=S x)->Step S t w v->HN f103 (fun a w=>Q .normal a w) [qv 0 e,(3,I r),(4,vS f n j),(5,vS f (k+1) j),(46,vS f n j),(47,N n),(48,N i)] v):
 HW f103 (.seq (.reg 19) (.seq (.seq (.reg 20) (.cond (.tmp 182) YX .skip)) (.reg 25))) Q [qv 0 e,(3,I r),(4,vS f n j),(5,vS f k j),(6,N i),qv 7 s,(46,vS f n j),(47,N n),(48,N i)] w:=by
 refine Ad ?_;have⟨W,er,G,H⟩:=RR h hr hv (oO:k<n) hP;refine AY [AM 0 2,.one 2,.one 3,AM 4 1]<|AN [0,3,4,5,6,7,46,47,48,170,171] [qv 0 e,(3,I r),(4,vS f n j),(5,vS f k j),(6,N i),qv 7 s,(46,vS f n j),(47,N n),(48,N i),(170,vS f k j),qv 171 s]<|Fa 172 232 237 (vP s 0) (.pointer none) oK oK oK oK oK oK (.inl rfl) rfl (.inl oK)<|DY 173 232 232 (vS f k j) (vS w.heap.size 1 1) oK oK oK oK er (.inl oK)<|AN [0,3,4,5,6,7,46,47,48] [(5,vS f (k+1) j)]<|AK ?_;have b1:b.length=n:=by
  have:=h.rowOwn hr;rw[hv] at this;rcases this.2 with⟨h2,h3⟩|⟨g,cap,b2,h2,_⟩
  .cases h2
  .injection h2 with _ x2;exact x2.symm
 have a7:K<u.W.length:=(Aa.1 hr).1;have A:({u with W:=u.W.set K (b.set k c)}:St).K[c]?=some x:=a4;have⟨a8,cc,hC,m,o0,_,_,_,_,lc⟩:=G.clA A;rw[hP] at m;obtain rfl:s=a8:=by injection m with m;injection m with m;injection m with m
 have a0:0<x.l.length:=(Aa.1 P).1;have⟨gl,J,hL,b0,a9,rL,fL,ll⟩:=G.litA A a0;rw[hL] at o0;have Z:=rL 0 a P;have y:KK {u with W:=u.W.set K (b.set k c)} a=some D:=a1;refine Ae (Ad (Ad ?_));have C0:Aj [(ad s 0,vQ gl x.l J),(ad gl 0,I a)] W:= .cons o0 (.cons Z .nil);rcases D with _|_|_
 ·
  refine BA (O:=[0<=(0:Int)/\(0:Int)<(x.l.length:Int),(∀o,CR none W o->Cg 110 #[vP e 0,I a] o fun U C=>U=Ending.returned (.int .i8 0)/\o=C),(.bool (decide ((0:Int)<(0:Int))):Value)=bF]) [(4,.c 0),(6,.c 1),(7,.q (.int .i8 0)),(8,.F)] [0,3,4,5,6,7,46,47,48,182] [(182,bF)] ⟨oO,(fun o e'=>e'▸G7 G R a y),(Er oD),trivial⟩ C0<|Ae (B1 rfl (AZ (Ae ?_)));have⟨Y,a3,hQ⟩:=a6 rfl;have a2:=TT a3 (u.W.set K (b.set k c));have z:=set_any G R a (some c) a2;rw[show IS S (some c)=vP s 0 from hP] at z;refine AY [Cu 0 8 [(4,.c 0),(6,.c 1)],.one 8]<|E3 [0,3,4,5,6,7,46,47,48,206,212,213] [qv 206 e,(212,I a),qv 213 s] (Bo (oO:oX 0 x.l.length)) C0<|BW 214 (z.mono ?_);rintro U o ⟨rfl,t,r1,r2,r3⟩;refine⟨_,rfl,.inl oK,AK (BV (hQ t o r2 r1 (H.trans r3)))⟩
 ·
  refine BA (O:=[0<=(0:Int)/\(0:Int)<(x.l.length:Int),(∀o,CR none W o->Cg 110 #[vP e 0,I a] o fun U C=>U=Ending.returned (.int .i8 (-1))/\o=C),(.bool (decide (((-1):Int)<(0:Int))):Value)=bT]) [(4,.c 0),(6,.c 1),(7,.q (.int .i8 (-1))),(8,.T)] [0,3,4,5,6,7,46,47,48,182] [(182,bT)] ⟨oO,(fun o e'=>e'▸G7 G R a y),(EE oD),trivial⟩ C0<|Ae (Bg rfl (Eu (L':=[qv 0 e,(3,I r),(4,vS f n j),(5,vS f (k+1) j),(6,N i),qv 7 s,(46,vS f n j),(47,N n),(48,N i)])<|mg G R (AD a7) hv hk hi hK hn fun t v r1 r2 r3=>Bc nR (a5 rfl t v ?_ r2 (H.trans r3))));simp only[Hr] at r1;rw[WP oO,List.drop_set_of_lt oO] at r1;exact r1
 .exact absurd rfl M
theorem PN {x:Ro} (h:¬GB x):¬isRow x:=fun a=>h (.inl a)
theorem WO {x:Ro} (h:¬GB x):x≠ .L:=fun a=>h (.inr a)
theorem Uh {u t:St} {c i j:Nat} (h:Gb u c i j=some t):t.W=u.W/\t.d=u.d/\t.L=u.L:=by
 unfold Gb at h;split at h
 case h_2=>cases h
 split at h
 .injection h with h;subst h;exact⟨rfl,rfl,rfl⟩
 .cases h
theorem mU {B:Nat} {p:Px} {u O:St} {S:Sl} {w:World} {e c0 c y n C k i K code:Nat} {m:Int} {q:List Nat} {Q:EO} [BZ Q]
 (h:Rep B p u S w) (he:S .E=vS e 1 c0) (hr:u.W[K]?=some q) (hv:S (.row K)=vS y n C) (hc:q[i]?=some c) (hk:k<=i) (hi:i<n) (hK:K=EC m) (hn:n<=maxLen) (b3:u.W.length<=maxLen)
 (f:KL u m c=some (O,code))
 (a8:code=0->∀(o:Sl) (D:World),Rep B p {O with W:=u.W.set K (q.set k c)} o D->O.W=u.W->(∀x,¬GB x->o x=S x)->o (.row K)=S (.row K)->Step S o w D->HN f103 (fun a w=>Q .normal a w) [qv 0 e,(3,I m),(4,vS y n C),(5,vS y (k+1) C),(46,vS y n C),(47,N n),(48,N i)] D)
 (b2:code=1->∀(o:Sl) (D:World),Rep B p O o D->O.W[K]?=some q->O.W.length=u.W.length->(∀x,¬GB x->o x=S x)->o (.row K)=S (.row K)->Step S o w D->HN f103 (fun a w=>Q .normal a w) [qv 0 e,(3,I m),(4,vS y n C),(5,vS y k C),(46,vS y n C),(47,N n),(48,N i)] D)
 (a7:code=2->∀(o:Sl) (D:World),Rep B p {O with W:=u.W.set K (q.take k++[c]++q.drop (i+1)),d:=O.L.length} o D->O.W=u.W->(∀x,¬GB x->o x=S x)->Step S o w D->HN f103 (fun a w=>Q .ret a w) [(2,E6 S c)] D):
 HW f103 (.block 3 ja) Q [qv 0 e,(3,I m),(4,vS y n C),(5,vS y k C),(46,vS y n C),(47,N n),(48,N i)] w:=by
 have b5:K<u.W.length:=(Aa.1 hr).1;have a3:IntKind.i64.wrap (-m)=-m:=by
  have hk:=hK;unfold EC at hk;unfold maxLen at b3;refine Bb _ ?_;split at hk<;>omega
 unfold KL at f
 cases t:u.K[c]? with
 |none=>rw[t] at f;cases f
 |some x=>
 rw[t] at f;simp only at f
 cases s:x.l[0]? with
 |none=>rw[s] at f;simp at f
 |some a=>
 cases A:x.l[1]? with
 |none=>rw[s,A] at f;simp at f
 |some b=>
 rw[s,A] at f;simp only at f;split at f
 .cases f
 rename_i U z;have b0:U.W=u.W/\∃l a1 b1,U.K[c]?=some {x with l:=l}/\l[0]?=some a1/\l[1]?=some b1:=by
  split at z
  .have h2:=Rz t s A z;refine⟨by rw[h2],_,b,a,by rw[h2];exact AD (Aa.1 t).1,?_,?_⟩
   .have:=(Aa.1 s).1;rw[AI oO,AD this]
   .have:=(Aa.1 A).1;rw[AD (by simpa using this)]
  .injection z with z;subst z;exact⟨rfl,x.l,a,b,t,s,A⟩
 have⟨r,l,a1,b1,v,J,a6⟩:=b0;rw[v] at f;simp only[Bf,J] at f
 cases R:KK U a1 with
 |none=>rw[R] at f;cases f
 |some va=>
 rw[R] at f;have⟨gc,cc,hC,hP,o0,_,_,_,_,lc⟩:=h.clA t;have oc:=h.cell (.row K) hv (j:=i) (u:=E6 S c) (by simp[cont,hr,hc]);rw[hP] at oc;rw[hP] at a7;refine Bd (Ad ?_);have C0:Aj [(ad y i,vP gc 0)] w:= .cons oc .nil;refine BA [(2,.c 0)] [0,3,4,5,6,7,46,47,48] [qv 0 e,(3,I m),(4,vS y n C),(5,vS y k C),(6,N i),qv 7 gc,(46,vS y n C),(47,N n),(48,N i)] (Bo (oO:oX i n)) C0<|Ae (Ad<|me h t s A hP a3 fun b4 D h1 r1 P=>?_);rw[z] at h1;obtain rfl:=Ah h1;have a5:U.W[K]?=some q:=by rw[r];exact hr
 refine Ae (Ad<|mG r1 he v J hP a5 hv oO R (fun e Z r2 a9=>?_) fun a2=>?_)
 .subst e;have f:=Ah f;injection f with e1 e2;subst e1;exact Bc nX (Ck (a8 e2.symm S Z (r▸r2) r (fun _ _=>rfl) rfl (P.trans a9)))
 .cases G:Ju U l l.length 2 with
  |none=>rcases va with _|_|_<;>first|exact absurd rfl a2|(rw[G] at f;simp at f)
  |some ro=>
  refine Ae (Ad<|nK (K:=K) r1 he v a6 hP G (fun e=>?_) fun k2 e=>?_)
  .subst e;refine Ae<|mh r1 he v J hP a5 hv hk hi hK hn R a2 (fun e o Z r2 r3 r4=>?_) fun e=>?_
   .subst e;rw[G] at f;have f:=Ah f;injection f with e1 e2;subst e1;exact BL (a7 e2.symm o Z (r▸r2) r (fun x hx=>r3 x (PN hx)) (P.trans r4))
   .subst e;rw[G] at f
    cases H:Ik U a1 (some c) with
    |none=>rw[H] at f;cases f
    |some s2=>
    rw[H] at f;have f:=Ah f;injection f with e1 e2;subst e1;refine⟨s2,rfl,fun o Z r2 r3 r4=>BN (a8 e2.symm o Z (r▸r2) ((WB H).1.trans r) (fun x hx=>r3 x (WO hx)) (r3 _ oS) (P.trans r4))⟩
  .subst e;have g:(match Gb U c 1 k2 with
     |none=>none
     |some s2=>match l[k2]? with
      |none=>none
      |some b=>if EC (-b)=EC m then none else(Et s2 b c).map fun s3=>(s3,1))=some (O,code):=by
    rcases va with _|_|_<;>first|exact absurd rfl a2|(rw[G] at f;exact f)
   cases a0:Gb U c 1 k2 with
   |none=>rw[a0] at g;cases g
   |some s2=>
   rw[a0] at g
   cases hb:l[k2]? with
   |none=>rw[hb] at g;cases g
   |some bb=>
   rw[hb] at g;simp only at g;split at g
   .cases g
   rename_i Y
   cases M:Et s2 bb c with
   |none=>rw[M] at g;cases g
   |some s3=>
   rw[M] at g;have f:=Ah g;injection f with e1 e2;subst e1;have a4:s3.W[K]?=some q/\s3.W.length=u.W.length:=by
    unfold Et at M;split at M
    case h_2=>cases M
    split at M
    case isFalse=>cases M
    injection M with M;subst M;have:=(Uh a0).1;simp only[Jy];rw[this,r];refine⟨?_,rfl⟩;rw[AI (by rw[hK];exact Y)];exact hr
   exact⟨bb,s2,s3,rfl,rfl,M,by rw[hK];exact Y,fun o Z r2 r3 r4 r5=>Bc nX (Ck (b2 e2.symm o Z r2 a4.1 a4.2 (fun x hx=>r3 x (PN hx)) r4 (P.trans r5)))⟩
end Go.Proofs.YtboflajfckfphaaGreatDoor
