/- A part of the proof of TopBudgetHonest. -/
import Derived.Test.YtboflajfckfphaaGreatDoorO
set_option linter.all false
namespace Go.Refl
open Go.Proofs Go.RowKit Go.Proofs.Tryz
theorem Ze:∀(l:List AV) (g:List Nat->Bool),Jq l g=true->∃s,g s=true/\l=s.map (fun n=>AV.int .u8 (.ofNat n))/\Cy s=true:=by
 intro l
 induction l with
 |nil=>exact fun g h=>⟨[],h,rfl,rfl⟩
 |cons v l e=>
  intro g;have a:Jq (v::l) g=(match v with| .int .u8 (.ofNat n)=>cond (Nat.ble n 255) (Jq l fun s=>g (n::s)) false|_=>false):=rfl;rw[a];intro d;split at d
  .rename_i n;have⟨c,k⟩:=Bs d;have⟨s,j,i,f⟩:=e _ k;have c:=ble_eq c;exact⟨n::s,j,by simp[i],by simp[Cy,f,c]⟩
  .cases d
variable{w:World} {b:Nat} {arr:Array Value}
theorem setCell_at {o:Nat} {v:Value} {e:TypeId} {c:Nat×Nat} (h:w.heap[b]?=some (.cells arr e c)) (j:Nat):
  (w.setCell ⟨b,o,none⟩ v).heap[j]?=if j=b then some (.cells (arr.setIfInBounds o v) e c) else w.heap[j]?:=by
 simp[World.setCell,DN];by_cases a:j=b
 .subst a;simp[h]
 .rw[if_neg (Ne.symm a),if_neg a]
theorem Jc {a:Addr} {v:Value}:(w.setCell a v).heap.size=w.heap.size:=by simp[World.setCell]
theorem BK.turn_any {C:Ctx} {r:BJ} {h:AH} {v:World} (k:BK C r h w) {o G:AO} {x:Loc} (J:h.m.get b=some o) (l:r b=some x) (H:o.owns=true) (L:o.ro=false)
  {m:Tr AO} (s:h.m.Put b G m) (i:C.B<=x.blk->Below C.B w v) (n:v.heap.size=w.heap.size) (A:∀j,j≠x.blk->v.heap[j]?=w.heap[j]?) (M:OR r x v G):BK C r ⟨m,h.nx⟩ v:=by
 have R:=k.own b o x J l H L;refine⟨k.below.trans (i R),by rw[n];exact k.base,k.glob,k.fresh,k.nx,fun c p y a f=>?_,fun c p y a f u t=>?_,fun c d p q y z a f u t g Q P=>?_⟩
 .by_cases e:c=b
  .subst e;rw[s c,if_pos rfl] at a;cases a;rw[l] at f;cases f;exact M
  .rw[s c,if_neg e] at a;by_cases O:p.owns=true
   .exact(k.obj c p y a f).mono (BJ.le.refl r) (A _ (k.apart c b p o y x a J f l e O H))
   .exact(k.obj c p y a f).ownless (BJ.le.refl r) (by simpa using O)
 .by_cases e:c=b
  .grind
  .rw[s c,if_neg e] at a;exact k.own c p y a f u t
 .by_cases e:c=b
  .subst e;rw[l] at u;cases u;by_cases D:d=c
   .exact absurd D.symm g
   .rw[s d,if_neg D] at f;exact k.apart c d o q x z J f l t g H P
  .rw[s c,if_neg e] at a;by_cases D:d=b
   .subst D;rw[l] at t;cases t;exact k.apart c d p o y x a J u l g Q H
   .rw[s d,if_neg D] at f;exact k.apart c d p q y z a f u t g Q P
theorem VR.ptr_at {a:BJ} {o:Nat} {x:Value} (h:VR a (.ptr b o) x):∃y,a b=some y/\x= .pointer (some ⟨y.blk,y.shift+o,none⟩):=by
 have:=VR.conc h oS;simp[Refl.conc,Af] at this;have⟨y,c,e⟩:=this;exact⟨y,c,e.symm⟩
theorem bh:∀e:Nat,e=164->liesAt prog prog.depth e (2/prog.cellsOf e) 0 164 1=true:=fun e a=>
 @Eq.rec Nat 164 (fun e _=>liesAt prog prog.depth e (2/prog.cellsOf e) 0 164 1=true) oK e a.symm
theorem bj:∀e:Nat,e=166->liesAt prog prog.depth e (2/prog.cellsOf e) 0 164 1=true:=fun e a=>
 @Eq.rec Nat 166 (fun e _=>liesAt prog prog.depth e (2/prog.cellsOf e) 0 164 1=true) oK e a.symm
theorem SN {e:Nat} (h:mX e=true):liesAt prog prog.depth e (2/prog.cellsOf e) 0 164 1=true:=by
 have c:cond (Nat.beq e 164) true (Nat.beq e 166)=true:=h
 cases a:Nat.beq e 164 with
 |true=>exact bh e (beq_eq a)
 |false=>
  rw[a,cond_false] at c;exact bj e (beq_eq c)
theorem Ut {a:Nat×Nat} {n:Nat} {i:Nat} {e:TypeId} (h:w.heap[b]?=some (.cells arr e a)) (d:a.1=a.2∨n<=a.1) (c:i<n):w.frozen? ⟨b,i,none⟩=false:=by
 simp only[World.frozen?,h];exact KX d i c
theorem WR {a b:Value} (h:arr.size=2) (d:arr[0]?=some a) (c:arr[1]?=some b):arr=#[a,b]:=by
 apply Fw;intro i
 match i with
 |0=>simpa using d
 |1=>simpa using c
 |i+2=>simp[h]
theorem bk {C:Ctx} {h:AH} {g:AV->AH->Bool} (d:YK b h g=true):∃v S,g v S=true/\ET prog C 284 [.ptr b 0] h v S:=by
 have l:∀w H,(callFunc 284 H).run prog w= .ok (.enter 284 H) w:=fun w H=>enters_of func284 oK rfl _ _
 unfold YK at d;split at d
 .rename_i p q e z M;have⟨hB,d⟩:=Bs d;have⟨J,d⟩:=Bs d;have J:=beq_eq J;subst J;have o:=SN hB;split at d
  .have⟨m,hg,G⟩:=Tr.set_spec _ _ _ _ d;refine⟨_,_,hg,l,fun A w B k O=>?_⟩;obtain⟨x,rfl,L⟩:=O.one;obtain⟨y,t,rfl⟩:=L.ptr_at;have⟨arr,U,s,Y,u,R,Q⟩:=k.obj b _ y M t;have⟨a,c⟩:=Q rfl;have c:arr.size=2:=c;rw[a] at u;rw[a];have P:arr[0]?=some (.pointer none):=by
    rcases u 0 _ rfl with r|⟨z,n,f⟩
    .cases r
    .simp only[conc] at f;cases f;simpa using n
   refine callsIn_wide.2 ((HY y.blk e o w (by rw[cell_of s];exact P) (by simp[World.shape?,s,c]) (Ut s (R rfl) oO)).mono ?_);rintro e' Z ⟨rfl,rfl⟩;refine⟨_,A,rfl,BJ.le.refl A,?_,.inr rfl⟩;refine k.turn_any M t rfl rfl G (fun r=>(Below.refl _ w).setCell r _) Jc (fun j hj=>by rw[setCell_at s,if_neg hj])<|⟨arr.setIfInBounds 0 (.pointer (some ⟨y.blk,0,none⟩)),U,by rw[setCell_at s,if_pos rfl],by simpa using Y,fun i v D=>?_,fun hr=>by simpa using R hr,fun _=>⟨a,by simpa using c⟩⟩;rw[a]
   match i,D with
   |0,D=>
    cases D;exact .inr ⟨.pointer (some ⟨y.blk,0,none⟩),by simp[c],by simp[conc,t,a]⟩
   |1,D=>
    rcases u 1 v D with r|⟨z,n,f⟩
    .exact .inl r
    .grind
  .rename_i b' o';have⟨n,hk1⟩:=Bs d;have⟨f,hk2⟩:=Bs hk1;have n:=beq_eq n;have f:=beq_eq f;subst n f;refine⟨_,_,hk2,l,fun A w B k O=>?_⟩;obtain⟨x,rfl,L⟩:=O.one;obtain⟨y,t,rfl⟩:=L.ptr_at;have⟨arr,U,s,Y,u,R,Q⟩:=k.obj _ _ y M t;have⟨a,c⟩:=Q rfl;rw[a] at u;rw[a];have P:arr[0]?=some (.pointer (some ⟨y.blk,0,none⟩)):=by
    rcases u 0 _ rfl with r|⟨z,n,f⟩
    .cases r
    .simp only[conc,t,Bf,a,Eb] at f;cases f;simpa using n
   refine callsIn_wide.2 ((M0 y.blk w (by rw[cell_of s];exact P)).mono ?_);rintro e' Z ⟨rfl,rfl⟩;exact⟨_,A,rfl,BJ.le.refl A,k,.inr rfl⟩
  .cases d
 .cases d
theorem Xs {w:World} {b o n:Nat} {arr:Array Value} {e:TypeId} {c:Nat×Nat} (h:w.heap[b]?=some (.cells arr e c)):
  ∃a,(w.freeze ⟨b,o,none⟩ n).heap[b]?=some (.cells arr e a)/\(w.freeze ⟨b,o,none⟩ n).heap.size=w.heap.size/\∀j,j≠b->(w.freeze ⟨b,o,none⟩ n).heap[j]?=w.heap[j]?:=by
 unfold World.freeze;split
 .exact⟨c,h,rfl,fun _ _=>rfl⟩
 .grind
theorem kj {e:BJ} {s:List Nat} {a:List Value} (i:Cy s=true) (h:B2 e (s.map fun n=>AV.int .u8 (.ofNat n))=some a) (j:Nat) (x:UInt8) (b:(s.map UInt8.ofNat)[j]?=some x):a[j]?=some (.int .u8 x.toNat):=by
 rw[Bz] at b
 cases c:s[j]? with
 |none=>rw[c] at b;cases b
 |some n=>
  rw[c] at b;cases b;have⟨z,f,d⟩:=CG h j (.int .u8 (.ofNat n)) (by grind);simp only[conc] at d;cases d;have g:n<=255:=(Gd s).1 i n (AQ c);rw[f];have:(UInt8.ofNat n).toNat=n:=oT;rw[this];rfl
theorem cU {C:Ctx} {b:Nat} {h:AH} {g:AV->AH->Bool} (M:YL b h g=true):∃v h',g v h'=true/\ET prog C 143 [.ptr b 0] h v h':=by
 have O:∀w S,(callFunc 143 S).run prog w= .ok (.enter 143 S) w:=fun w S=>enters_of func143 oK rfl _ _
 unfold YL at M;split at M
 .rename_i p c q n cap op e z ro hm;have⟨Y,hk1⟩:=Bs M;have⟨G,hk2⟩:=Bs hk1;have⟨D,L⟩:=Bs hk2;have⟨B,a7⟩:=Bs L;clear M hk1 hk2 L;have Y:=beq_eq Y;have G:=ble_eq G;have D:=ble_eq D;have B:=ble_eq B;subst Y;have⟨l,c1,e2,z2,b6,h1,i,hl,H,J,Q⟩:=I4 a7;have⟨s,o,hs,P⟩:=Ze _ _ h1;rw[i] at o;split at o
  .rename_i b9 e5 z5 a8;cases a8;have⟨r,o⟩:=Bs o;have r:=beq_eq r;have⟨m,hg,A⟩:=Tr.set_spec _ _ _ _ o;refine⟨_,_,hg,O,fun R w b0 k ha=>?_⟩;obtain⟨x,rfl,Z⟩:=ha.one;obtain⟨y,hy,rfl⟩:=Z.ptr_at;have⟨arr,fz,a1,a2,a3,a4,a5⟩:=k.obj b _ y hm hy;have⟨u,b7⟩:=a5 rfl;rw[u] at a3;rw[u];obtain⟨d,f,c0⟩:∃d,R c=some d/\arr[1]?=some (.slice (some ⟨d.blk,d.shift+q,none⟩) n (if op then cap+d.extra else cap)):=by
    rcases a3 1 _ rfl with hb|⟨z,h1,o⟩
    .cases hb
    .simp only[conc,Af] at o;obtain⟨d,f,rfl⟩:=o;exact⟨d,f,by simpa using h1⟩
   obtain⟨U,v1,v2,v3⟩:=Ji k i f (by rw[<-hl];exact H) (by rw[<-hl];exact Q);rw[<-hl,hs] at v1;have⟨QU,b8,b1,b2,b3,b4,b5⟩:=k.obj c _ d i f;have a0:s.length=n:=by rw[<-H,hs];simp
   have a:(s.map UInt8.ofNat).length=n:=by simpa using a0
   have a6:s.map UInt8.ofNat≠[]:=by
    intro e;rw[e] at a;simp at a;omega
   have t:=Pg y.blk d.blk (d.shift+q) (if op then cap+d.extra else cap) (s.map UInt8.ofNat) QU.size w a6 (by split<;>omega) (by rw[a];omega) (by rw[cell_of a1,c0,a]) (by simp[World.shape?,b1,r])
    (by
      rw[a];have:n≠0:=oO;rw[if_neg this] at J;omega)
    (fun j x Z=>by
     have:=v3 j _ (kj P v1 j x Z);by_cases hj:j=0
     .subst hj;simpa[Addr.add] using this
     .simpa[Addr.add,hj] using this)
   refine callsIn_wide.2 (t.mono ?_);rintro e' w' ⟨rfl,rfl⟩;refine⟨_,R,rfl,BJ.le.refl R,?_,.inr ?_⟩
   .have k1:=k.drew;obtain⟨a9,f1,f2,f3⟩:=Xs (show w.drew.heap[d.blk]?=_ from b1);refine(show BK C R h w.drew from k1).turn_any i f rfl rfl A (fun hb=>Lib.below_freeze (Below.refl _ _) hb _) f2 f3 ?_;exact⟨QU,a9,f1,b2,b3,fun e=>(by cases e),b5⟩
   .simp only[conc,P,if_true];rfl
  .cases o
 .cases M
theorem MP:∀k,(badL k).length=k
 |0=>rfl
 |k+1=>by show(AV.bad::badL k).length=k+1;simp[MP k]
theorem Zc (k:Nat):∀(i:Nat) (v:AV),(badL k)[i]?=some v->v=AV.bad:=by
 induction k with
 |zero=>intro i v h;cases h
 |succ k b=>
  intro i v h;have a:(AV.bad::badL k)[i]?=some v:=h
  cases i with
  |zero=>simpa using a.symm
  |succ i=>exact b i v (by simpa using a)
theorem bg {C:Ctx} {b:Nat} {n:Int} {h:AH} {g:AV->AH->Bool} (L:YM b n h g=true):∃v h',g v h'=true/\ET prog C 193 [.ptr b 0,.int .i64 n] h v h':=by
 have M:∀w U,(callFunc 193 U).run prog w= .ok (.enter 193 U) w:=fun w U=>enters_of func193 oK rfl _ _
 unfold YM at L;split at L
 .rename_i e z hm;have⟨hB,hk1⟩:=Bs L;have⟨Y,hk2⟩:=Bs hk1;clear L hk1;have Y:=beq_eq Y;subst Y;have t:=SN hB;split at hk2
  .rename_i B;have⟨A,a9⟩:=Bs hk2;have⟨p,a8⟩:=Bs a9;have A:=ble_eq A;have p:=ble_eq p;have⟨m1,a7,H⟩:=CO a8;have⟨m,hg,G⟩:=Tr.set_spec _ _ _ _ a7;refine⟨_,_,hg,M,fun σ w b1 k ha=>?_⟩;obtain⟨x,x2,rfl,hx,Z⟩:=ha.two;obtain⟨y,R,rfl⟩:=hx.ptr_at;have:=Z.int;subst this;have⟨arr,S,P,a2,a3,a4,a5⟩:=k.obj b _ y hm R;have⟨d,o⟩:=a5 rfl;have o:arr.size=2:=o;rw[d] at a3;rw[d];have c0:arr[0]?=some (.pointer none):=by
    rcases a3 0 _ rfl with hb|⟨z,A,p⟩
    .cases hb
    .simp only[conc] at p;cases p;simpa using A
   have c1:arr[1]?=some (.slice none 0 0):=by
    rcases a3 1 _ rfl with hb|⟨z,A,p⟩
    .cases hb
    .simp only[conc] at p;cases p;simpa using A
   have O:=WR o c0 c1;have b3:y.blk<w.heap.size:=(Ak.1 P).1;have hf:=a4 rfl;rw[o] at hf;rw[O] at P;have u:=QX y.blk B S e w t P hf p A;refine callsIn_wide.2 (u.mono ?_);rintro e' Q ⟨rfl,a,b4,l⟩;have a0:b≠h.nx:=fun e=>by rw[e,k.fresh _ (Ai _)] at R;cases R
   have k1:=k.new H 0 (a.size-B) (.cells a 5) fun b2 _=>by
    refine⟨a,(0,0),F4 _ _,by simp only[MP];omega,fun i v r=> .inl (Zc _ _ _ r),fun _=> .inl rfl,fun e=>by cases e⟩
   have J:=k.lp ⟨w.heap.size,0,a.size-B⟩;have D:=J.get _ _ R;have a6:m1.get b=some (.cells (.pnil:: .snil::[]) e 0 false):=by rw[H b,if_neg a0];exact hm
   have c:Q.heap=(((w.setCell ⟨y.blk,0,none⟩ (.pointer (some ⟨y.blk,0,none⟩))).setCell ⟨y.blk,1,none⟩ (.slice (some ⟨w.heap.size,0,none⟩) 0 a.size)).heap.push (.cells a 5)):=by rw[l];rfl
   have s:((w.setCell ⟨y.blk,0,none⟩ (.pointer (some ⟨y.blk,0,none⟩))).setCell ⟨y.blk,1,none⟩ (.slice (some ⟨w.heap.size,0,none⟩) 0 a.size)).heap.size=w.heap.size:=by rw[Jc,Jc]
   have q1:(w.setCell ⟨y.blk,0,none⟩ (.pointer (some ⟨y.blk,0,none⟩))).heap[y.blk]?=some (.cells #[.pointer (some ⟨y.blk,0,none⟩),.slice none 0 0] e S):=by rw[setCell_at P,if_pos rfl];rfl
   have b0:Q.heap[y.blk]?=some (.cells #[.pointer (some ⟨y.blk,0,none⟩),.slice (some ⟨w.heap.size,0,none⟩) 0 a.size] e S):=by
    rw[c,Array.getElem?_push,s,if_neg oO,setCell_at q1,if_pos rfl];rfl
   have q:∀j,j≠y.blk->Q.heap[j]?=(w.alloc (.cells a 5)).heap[j]?:=fun j hj=>by
    show _=(w.heap.push (.cells a 5))[j]?;rw[c,Array.getElem?_push,Array.getElem?_push,s];split
    .rfl
    .rw[setCell_at q1,if_neg hj,setCell_at P,if_neg hj]
   have f:Q.heap.size=(w.alloc (.cells a 5)).heap.size:=by
    show _=(w.heap.push (.cells a 5)).size;rw[c,Array.size_push,Array.size_push,s]
   refine⟨_,_,rfl,J,k1.turn_any a6 D rfl rfl G (fun hB=>⟨by rw[l];rfl,by rw[l];rfl,by rw[l];rfl,by rw[f];exact Ai _,fun j hj=>q j oO⟩) f q ?_,.inr rfl⟩;refine⟨#[.pointer (some ⟨y.blk,0,none⟩),.slice (some ⟨w.heap.size,0,none⟩) 0 a.size],S,b0,by rw[d];simp,fun i v r=>?_,fun _=>hf,fun _=>⟨d,rfl⟩⟩;rw[d]
   match i,r with
   |0,r=>
    cases r;exact .inr ⟨.pointer (some ⟨y.blk,0,none⟩),rfl,by simp[conc,D,d]⟩
   |1,r=>
    cases r;refine .inr ⟨.slice (some ⟨w.heap.size,0,none⟩) 0 a.size,rfl,?_⟩;have:B+(a.size-B)=a.size:=oO;simp[conc,BJ.put_same,this]
  .cases hk2
 .cases L
def Uv:Prop:=∀C,Good C->∀(b:Nat) (h:AH) (g:AV->AH->Bool),sortK b h g=true->∃v c,g v c=true/\ET prog C 349 [.fn 401 [] [.ptr b 0]] h v c
theorem GY {b:Bool} (h:some b=some true):b=true:=by simpa using h
variable{C:Ctx}
theorem Zg (k:Uv) (i:Good C):∀f e h g,Od f e h g=some true->∃v j,g v j=true/\ET prog C f e h v j:=by
 intro f e h g b;unfold Od at b
 cases c:Nat.beq f 247 with
 |true=>
  rw[c,cond_true] at b;rw[beq_eq c];split at b
  .exact gQ i (GY b)
  .cases b
 |false=>
 rw[c,cond_false] at b
 cases c:Nat.beq f 239 with
 |true=>
  rw[c,cond_true] at b;rw[beq_eq c];split at b
  .exact iP (GY b)
  .cases b
 |false=>
 rw[c,cond_false] at b
 cases c:Nat.beq f 349 with
 |true=>
  rw[c,cond_true] at b;rw[beq_eq c];split at b
  .have⟨l,b⟩:=Bs (GY b);rw[beq_eq l];exact k C i _ _ _ b
  .cases b
 |false=>
 rw[c,cond_false] at b
 cases c:Nat.beq f 284 with
 |true=>
  rw[c,cond_true] at b;rw[beq_eq c];split at b
  .exact bk (GY b)
  .cases b
 |false=>
 rw[c,cond_false] at b
 cases c:Nat.beq f 143 with
 |true=>
  rw[c,cond_true] at b;rw[beq_eq c];split at b
  .exact cU (GY b)
  .cases b
 |false=>
 rw[c,cond_false] at b
 cases c:Nat.beq f 193 with
 |true=>
  rw[c,cond_true] at b;rw[beq_eq c];split at b
  .exact bg (GY b)
  .cases b
 |false=>
 rw[c,cond_false] at b;cases b
variable{g:BJ} {a:AV} {d:List Value}
theorem len1 (h:E8 g [a] d):∃x,d=[x]:=let⟨x,h,_⟩:=h.one;⟨x,h⟩
theorem mi {b:AV} (h:E8 g [a,b] d):∃x y,d=[x,y]:=let⟨x,y,h,_⟩:=h.two;⟨x,y,h⟩
theorem mj {b c:AV} (h:E8 g [a,b,c] d):∃x y z,d=[x,y,z]:=by
 have⟨e,_⟩:=h
 match d,e with
 |[x,y,z],_=>exact⟨x,y,z,rfl⟩
theorem WT:∀f i,Un f i=true->(∀w j,(callFunc f j).run prog w= .ok (.enter f j) w)/\∀g h w d,BK C g h w->E8 g i d->
  CallsDIn Fence.wide 0 prog f d.toArray .returning w fun e u n=>(∃x,e= .returned x)/\u= .returning/\BK C g h n:=by
 intro f i c;unfold Un at c
 cases b:Nat.beq f 53 with
 |true=>
  rw[b,cond_true] at c;rw[beq_eq b];split at c
  .refine⟨fun w j=>enters_of func53 oK rfl _ _,fun g h w d k l=>?_⟩;obtain⟨x,y,rfl⟩:=mi l;refine(cY x y w).mono ?_;rintro e u n ⟨b,m,rfl⟩;exact⟨b,m,k⟩
  .cases c
 |false=>
 rw[b,cond_false] at c
 cases b:Nat.beq f 260 with
 |true=>
  rw[b,cond_true] at c;rw[beq_eq b];split at c
  .refine⟨fun w j=>enters_of func260 oK rfl _ _,fun g h w d k l=>?_⟩;obtain⟨x,rfl⟩:=len1 l;refine(aB x w).mono ?_;rintro e u n ⟨b,m,rfl⟩;exact⟨b,m,k⟩
  .cases c
 |false=>
 rw[b,cond_false] at c
 cases b:Nat.beq f 276 with
 |true=>
  rw[b,cond_true] at c;rw[beq_eq b];split at c
  .refine⟨fun w j=>enters_of func276 oK rfl _ _,fun g h w d k l=>?_⟩;obtain⟨x,y,z,rfl⟩:=mj l;refine(aC x y z w).mono ?_;rintro e u n ⟨b,m,rfl⟩;exact⟨b,m,k⟩
  .cases c
 |false=>
 rw[b,cond_false] at c;cases c
theorem gB (b:Uv) (c:Good C):Ep prog E0 C:=⟨Zg b c,WT⟩
noncomputable def iA {e:Type} (p:e->Bool) (t:Tr e):Bool:=
 Tr.rec (motive:=fun _=>Bool) true (fun v _ _ _ _ a b c d=>cond (match v with|some x=>p x|none=>true) (cond a (cond b (cond c d false) false) false) false) t
theorem Lw {j:Type} {p:j->Bool}:∀(t:Tr j),iA p t=true->I5 (fun _ x=>p x=true) t
 | .leaf,_=>trivial
 | .node v a b c d,h=>by
  have m:cond (match(generalizing:=false) v with|some x=>p x|none=>true) (cond (iA p a) (cond (iA p b) (cond (iA p c) (iA p d) false) false) false) false=true:=h;have⟨l,i⟩:=Bs m;have⟨i,g⟩:=Bs i;have⟨g,f⟩:=Bs g;have⟨f,k⟩:=Bs f;exact⟨fun x e=>by subst e;exact l,Lw a i,Lw b g,Lw c f,Lw d k⟩
theorem Zd:iA (fun x:Func=>!(x.name== "runtime.NumGoroutine")) OJ=true:=oK
theorem Us {C:Ctx} (b:Good C):Em prog E0 C where
 ng:=b.1.symm
 ty:=fun t a h=>dV.get t a h
 fn:=fun f x h=>⟨dW.get f x h,by
  have:=(Lw _ Zd).get f x h;simpa using this⟩
theorem mixed:prog.follows .mixedOrders=true:=oK
end Go.Refl
