/- A part of the proof of TopBudgetHonest. -/
import Derived.BigQuiet
import Derived.Deep.AppendLies
import Derived.Deep.DeepCutAuto
import Derived.Deep.RegionHeld3
import Derived.OpenShut
import Derived.ProofKit
import Derived.WalkSpells
import Derived.Test.YtboflajfckfphaaGreatDoorA
set_option linter.all false
namespace Go.Proofs.YtboflajfckfphaaGreatDoor
open Go.RowKit
section
theorem Q0 (a:Addr) (n:Nat):(a.add n).block=a.block:=by unfold Addr.add;split<;>rfl
theorem TR (a:Addr) (i j:Nat):(a.add i).add j=a.add (i+j):=by
 unfold Addr.add;by_cases g:i=0<;>by_cases e:j=0<;>simp[g,e,Ea]
theorem add_zero (a:Addr):a.add 0=a:=by simp[Addr.add]
theorem Yj {a b:Bool} (h:a=b):Ending.returned (.bool a)= .returned (.bool b):=by rw[h]
def Reads (w:World) (S:Nat->Prop) (size:Nat) (A:Option Addr) (n:Nat) (d:List Value):Prop:=
 d.length=n*size/\(0<n->∃ad,A=some ad/\S ad.block/\∀j u,d[j]?=some u->w.cell? (ad.add j)=some u)
section
variable{w w':World} {S S':Nat->Prop} {size n:Nat} {A:Option Addr} {d:List Value}
theorem Reads.none_:Reads w S size A 0 []:=⟨oS,fun h=>absurd h oO⟩
variable{k:Nat}
theorem Reads.at_ (h:Reads w S 1 A n d) (l:k<n):∃ad u,A=some ad/\S ad.block/\d[k]?=some u/\w.cell? (ad.add k)=some u:=by
 have⟨ad,e,j,i⟩:=h.2 oO;have g:k<d.length:=by have:=h.1;omega
 exact⟨ad,d[k],e,j,Ab g,i k _ (Ab g)⟩
theorem Reads.keep' (h:Reads w S size A n d) (m:∀p:Addr,S p.block->w'.cell? p=w.cell? p) (r:∀k,S k->S' k):Reads w' S' size A n d:=
 ⟨h.1,fun l=>by
  have⟨ad,e,g,q⟩:=h.2 l;exact⟨ad,e,r _ g,fun j u i=>(m _ (by rw[Q0];exact g)).trans (q j u i)⟩⟩
theorem Reads.keep (h:Reads w S size A n d) (e:∀p:Addr,S p.block->w'.cell? p=w.cell? p):Reads w' S size A n d:=h.keep' e fun _ h=>h
theorem Reads.more (h:Reads w S size A n d) (e:∀k,S k->S' k):Reads w S' size A n d:=h.keep' (fun _ _=>rfl) e
end
section
variable{P:Program} (w:World)
theorem La (b:Nat) (t p e:TypeId) (i:TypeInfo) (size:Nat) (l:P.underlying t=some (.slice e)) (m:P.info? e=some i)
  (v:Value) (n:Nat) (d:List Value) (h:w.ownsRow b e size v n d) (c:Nat):(Builtin.append_ #[t,t] p #[v,.slice none 0 c]).run P w= .ok v w:=by
 rcases h.2 with⟨rfl,rfl⟩|⟨g,cap,q,rfl,_,_,j,_⟩
 .simp[Builtin.append_,run_underlying l,sizeOf,typeInfo,m,Builtin.lenOf,Builtin.firstCells]
 .simp[Builtin.append_,run_underlying l,sizeOf,typeInfo,m,Builtin.lenOf,Builtin.firstCells,j,storeCells]
theorem DW (b:Nat) (t D e:TypeId) (i:TypeInfo) (z:Value) (size bytes:Nat) (R:P.underlying t=some (.slice e)) (U:P.info? e=some i) (Y:i.zero=some z)
  (r:i.size=size) (L:i.bytes=bytes) (G:z.cells.size=size) (H:0<size)
  (v:Value) (n:Nat) (d:List Value) (l:w.ownsRow b e size v n d)
  (S:Nat->Prop) (A:Option Addr) (m c:Nat) (g:List Value) (C:Reads w S size A m g) (h1:∀u∈g,u.oneCell'=true)
  (M:n+m<=maxLen) (q:(n+m)*bytes<=140737488355328) (s:b<=w.heap.size):
  ∃y w',(Builtin.append_ #[t,t] D #[v,.slice A m c]).run P w= .ok y w'/\w'.ownsRow b e size y (n+m) (d++g)/\w.grownBy w' v.ownBlock/\
   (y.ownBlock=v.ownBlock∨y.ownBlock=some w.heap.size):=by
 rcases A with _|ad
 .have Z:m=0:=by
   rcases D6 m with x|x
   .exact x
   .have⟨ad,h,_⟩:=C.2 x;cases h
  subst Z;have J:g=[]:=BY (by simpa using C.1);subst J;exact⟨v,w,La w b t D e i size R U v n d l c,by simpa using l,World.grownBy.refl w _,.inl rfl⟩
 .have p:∀j u,g[j]?=some u->w.cell? (ad.add j)=some u:=by
   intro j u O;rcases D6 m with x|x
   .subst x;have J:g=[]:=BY (by simpa using C.1);subst J;simp at O
   .have⟨a0,h,_,hc⟩:=C.2 x;injection h with h;subst h;exact hc j u O
  have⟨y,w',B,h2,h3,_,h5⟩:=run_append_own_at w b t D e i z size bytes R U Y r L G H v n d l ad m c g C.1 p h1 M q s;exact⟨y,w',B,h2,h3,h5⟩
variable{o:Oper} {a:Act} {Q:Exit->Act->World->Prop}
theorem Kz {K:Act->World->Prop} (s x:Operand) (t:TypeId)
  (R:o.op= .call {callee:= .builtin .append,args:=#[s,x],argTypes:=#[t,t]})
  (b:Nat) (e:TypeId) (i:TypeInfo) (z:Value) (size bytes:Nat) (L:P.underlying t=some (.slice e)) (U:P.info? e=some i) (H:i.zero=some z)
  (l:i.size=size) (D:i.bytes=bytes) (B:z.cells.size=size) (C:0<size)
  (v:Value) (n:Nat) (d:List Value) (M:a.eval s=v) (y:w.ownsRow b e size v n d)
  (S:Nat->Prop) (A:Option Addr) (m c:Nat) (g:List Value) (J:a.eval x= .slice A m c) (O:Reads w S size A m g) (h1:∀u∈g,u.oneCell'=true)
  (G:n+m<=maxLen) (j:(n+m)*bytes<=140737488355328) (p:b<=w.heap.size)
  (h:∀q w',w'.ownsRow b e size q (n+m) (d++g)->w.grownBy w' v.ownBlock->(q.ownBlock=v.ownBlock∨q.ownBlock=some w.heap.size)->K (a.put o.dst q) w'):o.wp P a w K Q:=by
 have⟨q,w',r,h2,Z,Y⟩:=DW w b t o.type e i z size bytes L U H l D B C v n d y S A m c g O h1 G j p;unfold Oper.wp execOp;simp only[R,resolve,invoke,builtin,Ay,AJ,Am,E4,BI,D4,M,J,r];exact h q w' h2 Z Y
theorem Lb {y:Array Oper} {l:List Oper} (G:o.guard=none) (s x:Operand) (t:TypeId)
  (Y:o.op= .call {callee:= .builtin .append,args:=#[s,x],argTypes:=#[t,t]})
  (b:Nat) (e:TypeId) (i:TypeInfo) (z:Value) (size bytes:Nat) (O:P.underlying t=some (.slice e)) (Z:P.info? e=some i) (L:i.zero=some z)
  (p:i.size=size) (H:i.bytes=bytes) (C:z.cells.size=size) (D:0<size)
  (v:Value) (n:Nat) (d:List Value) (R:a.eval s=v) (B:w.ownsRow b e size v n d)
  (S:Nat->Prop) (A:Option Addr) (m c:Nat) (g:List Value) (M:a.eval x= .slice A m c) (U:Reads w S size A m g) (h1:∀u∈g,u.oneCell'=true)
  (J:n+m<=maxLen) (j:(n+m)*bytes<=140737488355328) (q:b<=w.heap.size)
  (h:∀r w',w'.ownsRow b e size r (n+m) (d++g)->w.grownBy w' v.ownBlock->(r.ownBlock=v.ownBlock∨r.ownBlock=some w.heap.size)->wpList P y Q l (a.put o.dst r) w'):wpList P y Q (o::l) a w:=
 wpList_plain G fun _ hK=>Kz w s x t Y b e i z size bytes O Z L p H C D v n d R B S A m c g M U h1 J j q fun r w' h2 h3 h4=>hK _ _ (h r w' h2 h3 h4)
end
variable{b:Nat} {v:Value}
theorem Cr {w:World} {size n:Nat} {e:TypeId} {d:List Value} (h:w.ownsRow b e size v n d):∃A c,v= .slice A n c:=by
 rcases h.2 with⟨rfl,rfl⟩|⟨g,cap,i,rfl,_⟩
 .exact⟨_,_,rfl⟩
 .exact⟨_,_,rfl⟩
theorem own_base {w:World} {i size n:Nat} {e:TypeId} {d:List Value} (h:w.ownsRow b e size v n d) (q:i<=b):w.ownsRow i e size v n d:=by
 refine⟨h.1,?_⟩;rcases h.2 with m|⟨g,cap,j,l,p,r⟩
 .exact .inl m
 .exact .inr ⟨g,cap,j,l,oO,r⟩
theorem own_below {w j:World} {B size n:Nat} {e:TypeId} {d:List Value} (h:w.ownsRow b e size v n d) (s:Below B w j) (t:w.heap.size<=B):j.ownsRow b e size v n d:=by
 refine⟨h.1,?_⟩;rcases h.2 with m|⟨g,cap,i,l,q,p,r⟩
 .exact .inl m
 .exact .inr ⟨g,cap,i,l,q,(s.block g (by grind)).trans p,r⟩
theorem Is (w:World) (g:TypeId) (u:Value):Reads (w.alloc (.cells #[u] g)) (fun k=>k<w.heap.size+1) 1 (some (ad w.heap.size 0)) 1 [u]:=
 ⟨oS,fun _=>⟨_,rfl,oS,fun j x e=>by
  match j,e with
  |0,e=>simp at e;subst e;simp[Addr.add]⟩⟩
theorem DP {w g:World} {o:Obj} {e:Option Nat} (h:(w.alloc o).grownBy g e):w.grownBy g e:=
 (World.grownBy_alloc w o e).trans h
variable{o:Oper} {a:Act} {Q:Exit->Act->World->Prop}
theorem Hx {P:Program} (w:World) {q:Array Oper} {m:List Oper} (J:o.guard=none) (s x:Operand) (t:TypeId)
  (ho:o.op= .call {callee:= .builtin .append,args:=#[s,x],argTypes:=#[t,t]})
  (b:Nat) (e:TypeId) (i:TypeInfo) (z:Value) (bytes:Nat) (ht:P.underlying t=some (.slice e)) (hi:P.info? e=some i) (Y:i.zero=some z)
  (p:i.size=1) (L:i.bytes=bytes) (H:z.cells.size=1)
  (v:Value) (n:Nat) (d:List Value) (hs:a.eval s=v) (r:w.ownsRow b e 1 v n d) (U:TypeId) (u:Value) (c:Nat) (h1:u.oneCell'=true)
  (Z:a.eval x= vS w.heap.size 1 c)
  (O:n+1<=maxLen) (l:(n+1)*bytes<=140737488355328) (M:b<=w.heap.size)
  (h:∀G D w',w'.ownsRow b e 1 (.slice G (n+1) D) (n+1) (d++[u])->w.grownBy w' v.ownBlock->(∀g,(Value.slice G (n+1) D).ownBlock=some g->v.ownBlock=some g∨w.heap.size<=g)->wpList P q Q m (a.put o.dst (.slice G (n+1) D)) w'):
  wpList P q Q (o::m) a (w.alloc (.cells #[u] U)):=by
 refine Lb _ J s x t ho b e i z 1 bytes ht hi Y p L H oO v n d hs (r.alloc _) _ _ 1 c [u] Z (Is w U u) (fun y R=>by simp at R;subst R;exact h1) O l oT ?_;intro v' w' B hg C;obtain⟨G,D,rfl⟩:=Cr B;refine h G D w' B (DP hg) fun g j=>?_
 rcases C with C|C
 .exact .inl (C▸j)
 .rw[C] at j;injection j with j;simp at j;exact .inr oO
abbrev Lt (w:World):Nat->Prop:=fun k=>k<w.heap.size
theorem Yk {w:World} (o:Obj):Bl w (w.alloc o):=(Below.refl _ _).alloc (Ai _) _
theorem TS {w a b:World} (h:Bl w a) (k:Bl a b):Bl w b:=h.trans (k.mono h.size)
theorem info_parts' {P:Program} {t:TypeId} {z:Value} {s b:Nat} (h:(P.info? t).map (fun i=>(i.zero,i.size,i.bytes))=some (some z,s,b)):∃i,P.info? t=some i/\i.zero=some z/\i.size=s/\i.bytes=b:=by
 cases e:P.info? t with
 |none=>rw[e] at h;cases h
 |some i=>grind
theorem EV {w:World} {size n c:Nat} {e:TypeId} {A:Option Addr} {d:List Value} (h:w.ownsRow b e size (.slice A n c) n d):n<=c/\c<=maxLen:=by
 rcases h.2 with⟨i,l⟩|⟨g,cap,j,i,_,_,p,m,_⟩
 .grind
 .grind
class Flat (f:Type) where
 size:Nat
 cells:f->List Value
 len:∀x,(cells x).length=size
 pos:0<size
 one:∀x,∀u∈cells x,u.oneCell'=true
def flat {f:Type} [Flat f] (d:List f):List Value:=d.flatMap Flat.cells
section
variable{f:Type} [Flat f]
variable{k:Nat}
theorem flat_get {d:List f} {x:f} (h:d[k]?=some x) {j:Nat} (i:j<Flat.size f):(flat d)[k*Flat.size f+j]?=(Flat.cells x)[j]?:=by
 induction d generalizing k with
 |nil=>simp at h
 |cons y r g=>
  have e:flat (y::r)=Flat.cells y++flat r:=rfl;rw[e]
  cases k with
  |zero=>
   simp at h;subst h;rw[JS,CC,AW (by rw[Flat.len];exact i)]
  |succ k=>
   simp at h;rw[BR (by rw[Flat.len,Nat.succ_mul];omega),Flat.len,<-g h];congr 1;rw[Nat.succ_mul];omega
structure dA (w:World) (A:Option Addr) (n c:Nat) (d:List f):Prop where
 len:n=d.length
 cap:n<=c
 max:c<=maxLen
 reads:Reads w (Lt w) (Flat.size f) A n (flat d)
 none_:A=none->c=0
variable{w w':World} {n c:Nat} {A:Option Addr} {d:List f}
theorem dA.nil_:dA w none 0 0 ([]:List f):=⟨rfl,oO,by simp[maxLen],⟨by simp[flat],fun h=>absurd h oO⟩,fun _=>rfl⟩
theorem dA.at_ {x:f} (h:dA w A n c d) (g:d[k]?=some x):∃ad,A=some ad/\ad.block<w.heap.size/\∀j u,(Flat.cells x)[j]?=some u->w.cell? (ad.add (k*Flat.size f+j))=some u:=by
 have p:k<d.length:=(Aa.1 g).1;have⟨ad,e,m,l⟩:=h.reads.2 (by have:=h.len;omega);refine⟨ad,e,m,fun j u i=>l _ _ ?_⟩;rw[flat_get g,i];have:=(Aa.1 i).1
 rwa [Flat.len] at this
theorem dA.lt {ad:Addr} (h:dA w (some ad) n c d) (g:0<n):ad.block<w.heap.size:=by
 have⟨j,e,i,_⟩:=h.reads.2 g;cases e;exact i
end
structure Byte where
 n:Nat
 lt:n<256
deriving DecidableEq
instance:Flat Byte:=⟨1,fun b=>[.int .u8 (b.n:Int)],fun _=>rfl,oD,fun _ u hu=>by simp at hu;subst hu;rfl⟩
abbrev Pl:=Int×Int
instance:Flat Pl:=⟨2,fun p=>[.int .i64 p.1,.int .i64 p.2],fun _=>rfl,oD,fun _ u hu=>by simp at hu;rcases hu with rfl|rfl<;>rfl⟩
variable{k:Nat}
theorem dA.pl {w:World} {A:Option Addr} {n c:Nat} {ps:List Pl} {p:Pl} (h:dA w A n c ps) (i:ps[k]?=some p):∃ad,A=some ad/\ad.block<w.heap.size/\w.cell? (ad.add (k*2))=some (.int .i64 p.1)/\w.cell? ⟨(ad.add (k*2)).block,(ad.add (k*2)).off+1,none⟩=some (.int .i64 p.2):=by
 have⟨ad,e,j,g⟩:=h.at_ i;refine⟨ad,e,j,g 0 _ rfl,?_⟩;have l:(⟨(ad.add (k*2)).block,(ad.add (k*2)).off+1,none⟩:Addr)=(ad.add (k*2)).add 1:=rfl;rw[l,TR];exact g 1 _ rfl
end
end Go.Proofs.YtboflajfckfphaaGreatDoor
namespace Go.Proofs.YtboflajfckfphaaGreatDoor
open Go.RowKit Bud
inductive Ro where
 |E|W|V|H|Y|L|D|X|O|P|F|Q|U
 |row (k:Nat)|cl (i:Nat)|lit (i:Nat)
deriving DecidableEq
abbrev Sl:=Ro->Value
def Sk:Value->Value
 | .slice (some a) _ _=> .pointer (some a)
 |_=> .pointer none
def E6 (S:Sl) (i:Nat):Value:=Sk (S (.cl i))
def IS (S:Sl):Option Nat->Value
 |none=> .pointer none
 |some i=>E6 S i
abbrev I (n:Int):Value:= .int .i64 n
abbrev N (n:Nat):Value:= .int .i64 (n:Int)
def v8:Option Bool->Value
 |none=> .int .i8 0
 |some true=> .int .i8 1
 |some false=> .int .i8 (-1)
structure Px where
 proof:Value
 lev:Nat->Int
def El (p:Px) (s:St) (S:Sl):List Value:=
 [N s.n,S .W,S .V,S .H,S .Y,S .L,S .D,N s.d,S .X,I s.J,S .O,S .P,S .F,S .Q,p.proof,.bool s.Z,S .U]
def FN (p:Px) (S:Sl) (i:Nat) (c:Cl):List Value:=[S (.lit i),.bool c.Q,I (p.lev i),I c.X]
def cont (p:Px) (s:St) (S:Sl):Ro->TypeId×Nat×Nat×List Value
 | .E=>(235,17,1,El p s S)
 | .W=>(232,1,s.W.length,(List.range s.W.length).map fun k=>S (.row k))
 | .V=>(245,1,s.V.length,s.V.map v8)
 | .H=>(3,1,s.H.length,s.H.map N)
 | .Y=>(237,1,s.Y.length,s.Y.map (IS S))
 | .L=>(3,1,s.L.length,s.L.map I)
 | .D=>(3,1,s.D.length,s.D.map N)
 | .X=>(3,1,s.X.length,s.X.map I)
 | .O=>(3,1,s.O.length,s.O.map N)
 | .P=>(3,1,s.P.length,s.P.map I)
 | .F=>(4,1,s.F.length,s.F.map Value.bool)
 | .Q=>(237,1,s.Q.length,s.Q.map (E6 S))
 | .U=>(4,1,s.U.length,s.U.map Value.bool)
 | .row k=>match s.W[k]? with
  |some r=>(237,1,r.length,r.map (E6 S))
  |none=>(237,1,0,[])
 | .cl i=>match s.K[i]? with
  |some c=>(239,4,1,FN p S i c)
  |none=>(239,4,0,[])
 | .lit i=>match s.K[i]? with
  |some c=>(3,1,c.l.length,c.l.map I)
  |none=>(3,1,0,[])
def Ba (B:Nat) (w:World) (v:Value) (x:TypeId×Nat×Nat×List Value):Prop:=w.ownsRow B x.1 x.2.1 v x.2.2.1 x.2.2.2
structure Rep (B:Nat) (p:Px) (s:St) (S:Sl) (w:World):Prop where
 part:∀r,Ba B w (S r) (cont p s S r)
 apart:∀r t b,r≠t->(S r).ownBlock=some b->(S t).ownBlock≠some b
 base:B<=w.heap.size
structure Step (S d:Sl) (w a:World):Prop where
 os:a.os=w.os
 tape:a.tape=w.tape
 output:a.output=w.output
 size:w.heap.size<=a.heap.size
 keep:∀b,b<w.heap.size->(∀r,(S r).ownBlock≠some b)->a.heap[b]?=w.heap[b]?
 own:∀r b,(d r).ownBlock=some b->(∃t,(S t).ownBlock=some b)∨w.heap.size<=b
section
variable{B:Nat} {p:Px} {s s':St} {S d:Sl} {w a:World}
theorem Step.refl (S:Sl) (w:World):Step S S w w:=⟨rfl,rfl,rfl,Ai _,fun _ _ _=>rfl,fun r _ h=> .inl ⟨r,h⟩⟩
theorem Step.trans {f:Sl} {e:World} (h:Step S d w a) (k:Step d f a e):Step S f w e:=
 ⟨k.os.trans h.os,k.tape.trans h.tape,k.output.trans h.output,Bj h.size k.size,
  fun b m l=>(k.keep b (Bx m h.size) (fun r j=>by
   rcases h.own r b j with⟨t,i⟩|o
   .exact l t i
   .omega)).trans (h.keep b m l),
  fun r b j=>by
   rcases k.own r b j with⟨t,i⟩|o
   .exact h.own t b i
   .exact .inr (Bj h.size o)⟩
theorem Rep.lo (h:Rep B p s S w) {r:Ro} {b:Nat} (e:(S r).ownBlock=some b):B<=b/\b<w.heap.size:=Ax (h.part r) b e
theorem Rep.below (h:Rep B p s S w) (k:Step S d w a):Below B w a:=
 ⟨k.os,k.tape,k.output,k.size,fun b f=>k.keep b (Bx f h.base) (fun r e=>by have:=(h.lo e).1;omega)⟩
theorem Rep.cell (h:Rep B p s S w) (r:Ro) {g n c:Nat} (i:S r= vS g n c) {j:Nat} {u:Value} (f:(cont p s S r).2.2.2[j]?=some u):w.cell? (ad g j)=some u:=by
 have b:=h.part r;rw[i] at b;have k:n=(cont p s S r).2.2.1:=by
  rcases b.2 with⟨e,_⟩|⟨o,cap,m,e,_⟩
  .cases e
  .injection e
 subst k;have l:j<(cont p s S r).2.2.1*(cont p s S r).2.1:=by rw[<-b.1];exact(Aa.1 f).1
 rw[Ed b j l,f]
variable{g n c:Nat}
theorem Rep.free (h:Rep B p s S w) (r:Ro) (f:S r= vS g n c) (j:Nat):w.frozen? (ad g j)=false:=by
 have e:=h.part r;rw[f] at e;have i:n=(cont p s S r).2.2.1:=by
  rcases e.2 with⟨b,_⟩|⟨l,cap,k,b,_⟩
  .cases b
  .injection b
 subst i;exact DE e j
theorem Rep.drew (h:Rep B p s S w):Rep B p s S w.drew:=⟨h.part,h.apart,h.base⟩
theorem Step.drew (h:Step S d w a):Step S d w a.drew:=⟨h.os,h.tape,h.output,h.size,h.keep,h.own⟩
theorem Rep.still (h:Rep B p s S w) (e:Bl w a):Rep B p s S a/\Step S S w a:=
 ⟨⟨fun r=>own_below (h.part r) e (Ai _),h.apart,Bj h.base e.size⟩,⟨e.os,e.tape,e.output,e.size,fun b f _=>e.block b f,fun r b i=> .inl ⟨r,i⟩⟩⟩
theorem Rep.form (h:Rep B p s S w) (r:Ro):∃A c,S r= .slice A (cont p s S r).2.2.1 c:=Cr (h.part r)
theorem Rep.formSome (h:Rep B p s S w) (r:Ro) (f:0<(cont p s S r).2.2.1):∃g c,S r= vS g (cont p s S r).2.2.1 c/\B<=g/\g<w.heap.size/\(cont p s S r).2.2.1<=c/\c<=maxLen:=by
 rcases(h.part r).2 with⟨_,b⟩|⟨g,cap,e,b,l,k,j,i,_⟩
 .omega
 .grind
theorem Rep.arr (h:Rep B p s S w) {e v:Nat} (f:S .E= vS e 1 v) (r:Ro) (j:Nat) (m:(El p s S)[j]?=some (S r)) (l:0<(cont p s S r).2.2.1):
  ∃g c,S r= vS g (cont p s S r).2.2.1 c/\w.cell? (ad e j)=some (vS g (cont p s S r).2.2.1 c)/\(cont p s S r).2.2.1<=c/\c<=maxLen/\
   (∀i u,(cont p s S r).2.2.2[i]?=some u->w.cell? (ad g i)=some u)/\(∀i,w.frozen? (ad g i)=false)/\e<w.heap.size/\g<w.heap.size:=by
 have⟨g,c,b,_,t,q,o⟩:=h.formSome r l;exact⟨g,c,b,by rw[<-b];exact h.cell .E f m,q,o,fun i u k=>h.cell r b k,fun i=>h.free r b i,(h.lo (by rw[f];rfl)).2,t⟩
theorem Rep.upd (R:Ro->Prop) (h:Rep B p s S w) {o:Px} (q:w.heap.size<=a.heap.size) (l:∀r,¬R r->d r=S r/\cont o s' d r=cont p s S r)
  (y:∀r b,¬R r->(S r).ownBlock=some b->a.heap[b]?=w.heap[b]?)
  (x:∀r,R r->Ba B a (d r) (cont o s' d r))
  (v:∀r,R r->∀b,(d r).ownBlock=some b->(S r).ownBlock=some b∨w.heap.size<=b)
  (z:∀r t b,R r->R t->r≠t->(d r).ownBlock=some b->(d t).ownBlock≠some b):Rep B o s' d a where
 base:=Bj h.base q
 part r:=by
  by_cases j:R r
  .exact x r j
  .have⟨i,e⟩:=l r j;rw[i,e];have f:=h.part r;refine⟨f.1,?_⟩;rcases f.2 with m|⟨g,cap,u,m,D,C,A⟩
   .exact .inl m
   .exact .inr ⟨g,cap,u,m,D,(y r g j (by rw[m];rfl)).trans C,A⟩
 apart r t b hne i e:=by
  by_cases j:R r
  .by_cases k:R t
   .exact z r t b j k hne i e
   .rw[(l t k).1] at e;rcases v r j b i with f|f
    .exact h.apart r t b hne f e
    .have:=(h.lo e).2;omega
  .rw[(l r j).1] at i;by_cases k:R t
   .rcases v t k b e with f|f
    .exact h.apart r t b hne i f
    .have:=(h.lo i).2;omega
   .rw[(l t k).1] at e;exact h.apart r t b hne i e
theorem Rep.put (h:Rep B p s S w) (r:Ro) (o:S r= vS g n c) (j:Nat) (u:Value)
  (y:cont p s' S r=((cont p s S r).1,(cont p s S r).2.1,(cont p s S r).2.2.1,(cont p s S r).2.2.2.set j u)) (x:∀t,t≠r->cont p s' S t=cont p s S t):
  Rep B p s' S (w.setCell (ad g j) u)/\Step S S w (w.setCell (ad g j) u):=by
 have v:(w.setCell (ad g j) u).heap.size=w.heap.size:=oS;refine⟨h.upd (R:=fun t=>t=r) oO (fun t i=>⟨rfl,x t i⟩) (fun t b i f=>Below.heap_setCell _ _ _ _ (fun e=>?_)) (fun t i=>?_) (fun t _ b f=> .inl f) (fun t C b l k q=>absurd (l.trans k.symm) q),?_⟩
 .have:b=g:=e;subst this;exact h.apart t r b i f (by rw[o];rfl)
 .subst i;have l:=h.part t;rw[o] at l⊢;rw[y];have m:n=(cont p s S t).2.2.1:=by
   rcases l.2 with⟨k,_⟩|⟨D,cap,A,k,_⟩
   .cases k
   .injection k
  have z:=FY (m▸l) j u;exact m▸z.1
 .refine⟨by simp[World.setCell],by simp[World.setCell],by simp[World.setCell],oO,fun b f m=>Below.heap_setCell _ _ _ _ (fun e=>?_),fun t b f=> .inl ⟨t,f⟩⟩;have:b=g:=e;subst this;exact m r (by rw[o];rfl)
end
end Go.Proofs.YtboflajfckfphaaGreatDoor
namespace Go.Proofs.YtboflajfckfphaaGreatDoor
open Go.RowKit Bud Go.Proofs.Tryz
def Ej (B:Nat) (p:Px) (S:Sl) (w:World) (s:St) (e:Ending) (a:World):Prop:=e= .returned (.tuple #[])/\Rep B p s S a/\Step S S w a
set_option maxHeartbeats 4000000 in
set_option maxRecDepth 100000 in
theorem swap_any {B:Nat} {p:Px} {s U:St} {S:Sl} {w:World} {e c0:Nat} (h:Rep B p s S w) (L:S .E= vS e 1 c0) (i k:Nat) (c:H8 s i k=some U):
  Cg 210 #[vP e 0,.int .i64 i,.int .i64 k] w (Ej B p S w U):=by
 unfold H8 at c;split at c
 case h_2=>cases c
 rename_i A C o n;split at c
 case isFalse=>cases c
 rename_i hn;have HR:=Aq (Ah c);clear c;have hi:i<s.O.length:=(Aa.1 o).1;have hk:k<s.O.length:=(Aa.1 n).1;have⟨go,co,a,_,_,D,a1⟩:=h.formSome .O (by show 0<s.O.length;omega);have⟨g,cp,b,_,_,z,a0⟩:=h.formSome .P (by show 0<s.P.length;omega);simp only[cont] at a b D z;have J:w.cell? (ad e 10)=some (vS go s.O.length co):=by rw[<-a];exact h.cell .E L rfl
 have G:w.cell? (ad e 11)=some (vS g s.P.length cp):=by rw[<-b];exact h.cell .E L rfl
 have Z:w.cell? (ad go i)=some (.int .i64 (A:Int)):=h.cell .O a (by simp[cont,o]);have Y:w.cell? (ad go k)=some (.int .i64 (C:Int)):=h.cell .O a (by simp[cont,n]);have f1:w.frozen? (ad go i)=false:=h.free .O a _;have f2:w.frozen? (ad go k)=false:=h.free .O a _;have a2:(i:Int)<(s.O.length:Int):=oO;have hk2:(k:Int)<(s.O.length:Int):=oO;have⟨Q,x⟩:=h.put (s':={s with O:=s.O.set i C}) .O a i (.int .i64 (C:Int)) (by simp[cont,Dp]) (by intro t m;cases t<;>first|rfl|exact absurd rfl m);have⟨h2,v⟩:=Q.put (s':={s with O:=(s.O.set i C).set k A}) .O a k (.int .i64 (A:Int)) (by simp[cont,Dp]) (by intro t m;cases t<;>first|rfl|exact absurd rfl m);have q1:∃u,(w.setCell (ad go i) (.int .i64 (C:Int))).cell? (ad go k)=some u:=⟨_,Q.cell .O a (by simp only[cont,Bz];rw[Ab (by simpa using hk)];rfl)⟩;have⟨u1,q1⟩:=q1;have q2:(w.setCell (ad go i) (.int .i64 (C:Int))).frozen? (ad go k)=false:=Q.free .O a _;have HA:=Aq o;have HB:=Aq n;have H:=Aq h;have H2:=Aq h2.drew;have ST:=Aq (x.trans v).drew;have HO:=Aq a;have HP:=Aq b;clear o n h Q h2 x v a b;go_enter func210,ntmps210;go_wp2_with (fail);go_region;have d:=H2.out;have l:=ST.out;have a:=HO.out;have b:=HP.out;have o:=HA.out;have n:=HB.out;generalize((w.setCell (ad go i) (.int .i64 (C:Int))).setCell (ad go k) (.int .i64 (A:Int))).drew=f at d l⊢;clear q1 q2 Z Y f1 f2 J G H2 ST;have J:f.cell? (ad e 10)=some (vS go s.O.length co):=by rw[<-a];exact d.cell .E L rfl
 have G:f.cell? (ad e 11)=some (vS g s.P.length cp):=by rw[<-b];exact d.cell .E L rfl
 have hI:((s.O.set i C).set k A)[i]?=some C:=by
  by_cases y:i=k
  .subst y;rw[AD (by simpa using hi),<-n,o]
  .rw[AI (fun e=>y e.symm),AD hi]
 have hK:((s.O.set i C).set k A)[k]?=some A:=AD (by simpa using hk);have Z:f.cell? (ad go i)=some (.int .i64 (C:Int)):=d.cell .O a (by simp only[cont,Bz,hI];rfl);have Y:f.cell? (ad go k)=some (.int .i64 (A:Int)):=d.cell .O a (by simp only[cont,Bz,hK];rfl);have a4:A<(s.P.length:Int):=oO;have a3:C<(s.P.length:Int):=oO;have⟨M,r⟩:=d.put (s':={s with O:=(s.O.set i C).set k A,P:=s.P.set C (i:Int)}) .P b C (.int .i64 i) (by simp[cont,Dp]) (by intro t m;cases t<;>first|rfl|exact absurd rfl m);have⟨h5,q⟩:=M.put (s':={s with O:=(s.O.set i C).set k A,P:=(s.P.set C (i:Int)).set A (k:Int)}) .P b A (.int .i64 k) (by simp[cont,Dp]) (by intro t m;cases t<;>first|rfl|exact absurd rfl m);obtain⟨u1,p1⟩:∃u,f.cell? (ad g C)=some u:=⟨_,d.cell .P b (by simp only[cont,Bz];rw[Ab oO];rfl)⟩;obtain⟨u2,p2⟩:∃u,(f.setCell (ad g C) (.int .i64 i)).cell? (ad g A)=some u:=⟨_,M.cell .P b (j:=A) (u:=_) (by simp only[cont,Bz];rw[Ab oT];rfl)⟩;have g1:f.frozen? (ad g C)=false:=d.free .P b _;have g2:(f.setCell (ad g C) (.int .i64 i)).frozen? (ad g A)=false:=M.free .P b _;have H5:=Aq h5.drew;have R:=Aq (l.trans (r.trans q).drew);clear d l M r h5 q hI hK a b o n
 as_aux_lemma=>
  go_wp2_with (fail);go_region;have c:=HR.out;subst c;go_wp2;go_end0;exact⟨rfl,H5.out,R.out⟩
def Zh (a b:Int):Int:=if a<b then-1 else if b<a then 1 else 0
set_option maxHeartbeats 4000000 in
set_option maxRecDepth 100000 in
theorem SR (a b:Int) (w:World):Cg 118 #[.int .i64 a,.int .i64 b] w fun e f=>e= .returned (.int .i64 (Zh a b))/\f=w:=by
 unfold Zh;by_cases c:a<b
 .go_enter func118,ntmps118;go_wp2;go_ret;simp[c]
 .by_cases d:b<a
  .go_enter func118,ntmps118;go_wp2;go_ret;simp[c,d]
  .go_enter func118,ntmps118;go_wp2;go_ret;simp[c,d]
def ml (a b:Int):Int:=if a=0 then b else a
set_option maxHeartbeats 4000000 in
set_option maxRecDepth 100000 in
theorem gD (a b:Int) (g:Nat) (w:World) (i:w.cell? (ad g 0)=some (.int .i64 a)) (h:w.cell? (ad g 1)=some (.int .i64 b)):
  Cg 117 #[vS g 2 2] w fun e d=>e= .returned (.int .i64 (ml a b))/\d=w:=by
 unfold ml;by_cases c:a=0
 .subst c;by_cases f:b=0
  .subst f;go_enter func117,ntmps117;go_wp2;refine wp_loop_rounds 3 ?_
   repeat any_goals(rw[rounds_succ];go_wp2)
   go_ret;simp
  .go_enter func117,ntmps117;go_wp2;refine wp_loop_rounds 3 ?_
   repeat any_goals(rw[rounds_succ];go_wp2)
   go_ret;simp
 .go_enter func117,ntmps117;go_wp2;refine wp_loop_rounds 3 ?_
  repeat any_goals(rw[rounds_succ];go_wp2)
  go_ret;simp[c]
def Nl (w:World) (v:Value) (e:Ending) (a:World):Prop:=e= .returned v/\Bl w a
theorem jj {v w:Nat} (b:v<=maxLen) (a:w<=maxLen):IntKind.i64.wrap ((v:Int)-(w:Int))=(v:Int)-(w:Int):=Bb _ (by unfold maxLen at*;omega)
set_option maxHeartbeats 4000000 in
set_option maxRecDepth 100000 in
theorem Mp {B:Nat} {p:Px} {s:St} {S:Sl} {w:World} {e L:Nat} (h:Rep B p s S w) (o:S .E= vS e 1 L) (v u:Nat) {r:Bool} (g:Jm s v u=some r):
  Cg 294 #[vP e 0,.int .i64 v,.int .i64 u] w (Nl w (.bool r)):=by
 unfold Jm at g;split at g
 case h_2=>cases g
 rename_i a b k j;have M:=Aq (Ah g);clear g;have A:v<s.X.length:=(Aa.1 k).1;have D:u<s.X.length:=(Aa.1 j).1;have⟨d,ca,i,_,_,c,q⟩:=h.formSome .X (by show 0<s.X.length;omega);simp only[cont] at i c;have t:w.cell? (ad e 8)=some (vS d s.X.length ca):=by rw[<-i];exact h.cell .E o rfl
 have l:w.cell? (ad d v)=some (.int .i64 a):=h.cell .X i (by simp[cont,k]);have y:w.cell? (ad d u)=some (.int .i64 b):=h.cell .X i (by simp[cont,j]);have z:(v:Int)<(s.X.length:Int):=oO;have C:(u:Int)<(s.X.length:Int):=oO;have m:IntKind.i64.wrap ((v:Int)-(u:Int))=(v:Int)-(u:Int):=jj oO oO;have O:Hid (∀W,Cg 118 #[.int .i64 b,.int .i64 a] W fun e f=>e= .returned (.int .i64 (Zh b a))/\f=W):=Aq fun W=>SR b a W
 clear h o i k j A D c;have G:=Cb w _ t;have n:=Cb w _ l;go_enter func294,ntmps294;go_wp2_with (fail);go_region_held3 (fun f=>f.cell? (ad e 8)=some (vS d s.X.length ca)/\f.cell? (ad d v)=some (.int .i64 a)/\f.cell? (ad d u)=some (.int .i64 b)) (first|(exact⟨t,l,y⟩)|go_keep)
  (first
   |(go_at_call 118;(with_reducible refine(O.out _).mono ?_);rintro J x ⟨rfl,rfl⟩)
   |(go_at_call 117;(refine(gD (Zh b a) ((v:Int)-(u:Int)) w.heap.size _ oS oS).mono ?_);rintro J x ⟨rfl,rfl⟩))
 go_wp2;go_ret;refine⟨?_,((Below.refl _ _).alloc (Ai _) _).drew⟩;rw[<-M.out];refine Yj ?_;unfold Z5 Zh ml;by_cases H:b<a
 .simp[H]
 .grind
theorem eB {i:Nat} (b:0<i) (a:i<=maxLen):IntKind.i64.wrap ((i:Int)- 1)=((i- 1:Nat):Int)/\IntKind.i64.wrap (((i- 1:Nat):Int)/2)=(((i- 1)/2:Nat):Int):=by
 unfold maxLen at a;refine⟨by rw[Bb _ oO];omega,?_⟩;rw[Bb _ oO];omega
set_option maxHeartbeats 4000000 in
set_option maxRecDepth 100000 in
theorem XG {B:Nat} {p:Px} {s Y:St} {S:Sl} {w:World} {e c0:Nat} (h:Rep B p s S w) (he:S .E= vS e 1 c0) (i f:Nat) (hr:VE f s i=some Y):
  Cg 204 #[vP e 0,.int .i64 i] w (Ej B p S w Y):=by
 have U:=Aq he;have H:=Aq h;have HR:=Aq hr;clear h hr he;go_enter func204,ntmps204;go_wp2_with (fail);go_loopw [1] (fun v wr=>∃(f k:Nat) (t:St),v= .int .i64 k/\Rep B p t S wr/\Step S S w wr/\VE f t k=some Y) (fun v _=>(intOf v).toNat)
 case atStart=>exact⟨f,i,s,rfl,H.out,Step.refl _ _,HR.out⟩
 case round=>
  obtain⟨f,k,t,rfl,h,P,d⟩:=hrel
  cases f with
  |zero=>cases d
  |succ f=>
  unfold VE at d;by_cases Z:k=0
  .subst Z;rw[if_pos rfl] at d;have G:=Aq (Ah d);have q:=Aq h;have ST:=Aq P;clear d h P;go_wp2_with (fail);go_region;go_wp2_with (fail);go_end0;exact⟨rfl,G.out▸q.out.drew,ST.out.drew⟩
  .rw[if_neg Z] at d;split at d
   case h_2=>cases d
   rename_i a b ha hb;have hk1:k<t.O.length:=(Aa.1 ha).1;have⟨go,co,C,_,_,n,a2⟩:=h.formSome .O (by show 0<t.O.length;omega);simp only[cont] at C n;obtain⟨j,R⟩:∃j,j=(k- 1)/2:=⟨_,rfl⟩;rw[<-R] at hb d;have⟨e1,e2⟩:=eB (i:=k) oO oO;rw[<-R] at e2;have z:j<k:=oO;have g:wr.cell? (ad e 10)=some (vS go t.O.length co):=by rw[<-C];exact h.cell .E U.out rfl
   have r:wr.cell? (ad go k)=some (.int .i64 (a:Int)):=h.cell .O C (by simp[cont,ha]);have y:wr.cell? (ad go j)=some (.int .i64 (b:Int)):=h.cell .O C (by simp[cont,hb]);have q1:(k:Int)<(t.O.length:Int):=oO;have q2:(j:Int)<(t.O.length:Int):=oO;have q3:decide (0<k)=true:=oT;have q4:(0:Int)<(k:Int):=oO;have q:=Aq h;have ST:=Aq P;have HJ:=Aq R;have HK:=Aq z;have l1:=Cb wr _ g;have Q:=Cb wr _ r;clear C n ha hb h P hk1 R Z z;split at d
   .rename_i D;have G:=Aq (Ah d);have CA:Hid (∀W,Bl wr W->Cg 294 #[vP e 0,.int .i64 (a:Int),.int .i64 (b:Int)] W (Nl W bF)):=Aq fun W A=>Mp (q.out.still A).1 U.out a b D
    clear d D;go_wp2_with (fail);go_region_held3 (fun o=>o.cell? (ad e 10)=some (vS go t.O.length co)/\o.cell? (ad go k)=some (.int .i64 (a:Int))/\o.cell? (ad go j)=some (.int .i64 (b:Int))) (first|(exact⟨g,r,y⟩)|(exact⟨M,L,J⟩)|go_keep)
     (first
      |(go_at_call 294
        (with_reducible refine(CA.out _ ((Below.refl _ _).drew)).mono ?_)
        rintro e5 w5 ⟨rfl,l⟩;have c:=(Below.refl wr.heap.size wr).drew.trans l;have M:=(c.cell l1).trans g;have L:=(c.cell Q).trans r;have J:=(c.cell Q).trans y;have m:=Aq c;clear l c))
    have u:=(q.out.still m.out);go_wp2_with (fail);go_end0;exact⟨rfl,G.out▸u.1,ST.out.trans u.2⟩
   .rename_i D;split at d
    case h_2=>cases d
    rename_i t2 hS;have G:=Aq d;have CA:Hid (∀W,Bl wr W->Cg 294 #[vP e 0,.int .i64 (a:Int),.int .i64 (b:Int)] W (Nl W bT)):=Aq fun W A=>Mp (q.out.still A).1 U.out a b D
    have CS:Hid (∀W,Rep B p t S W->Cg 210 #[vP e 0,.int .i64 (k:Int),.int .i64 (j:Int)] W (Ej B p S W t2)):=Aq fun W A=>swap_any A U.out k j (HJ.out▸hS)
    clear d D hS;go_wp2_with (fail);go_region_held3 (fun o=>o.cell? (ad e 10)=some (vS go t.O.length co)/\o.cell? (ad go k)=some (.int .i64 (a:Int))/\o.cell? (ad go j)=some (.int .i64 (b:Int))) (first|(exact⟨g,r,y⟩)|(exact⟨M,L,J⟩)|go_keep)
     (first
      |(go_at_call 294
        (with_reducible refine(CA.out _ ((Below.refl _ _).drew)).mono ?_)
        rintro e5 w5 ⟨rfl,l⟩;have c:=(Below.refl wr.heap.size wr).drew.trans l;have M:=(c.cell l1).trans g;have L:=(c.cell Q).trans r;have J:=(c.cell Q).trans y;have m:=Aq c;clear l c))
    have u:=(q.out.still m.out);have H6:=Aq u.1;have a1:=Aq (ST.out.trans u.2);clear u m M L J g r y q ST
    as_aux_lemma=>
     go_wp2_with (fail)
     (with_reducible refine(CS.out _ H6.out).mono ?_)
     rintro e7 w7 ⟨rfl,h7,x⟩;have H7:=Aq h7;have a0:=Aq (a1.out.trans x);clear h7 x;go_wp2_with (fail);exact⟨⟨f,j,t2,rfl,H7.out,a0.out,G.out⟩,by simp[intOf];exact HK.out⟩
   .cases d
end Go.Proofs.YtboflajfckfphaaGreatDoor
namespace Go.Proofs.YtboflajfckfphaaGreatDoor
open Go.RowKit Bud
def Dq (S:Sl) (r:Ro) (v:Value):Sl:=fun t=>if t=r then v else S t
theorem Fe (S:Sl) (r:Ro) (v:Value):Dq S r v r=v:=by simp[Dq]
theorem CE (S:Sl) {r t:Ro} (v:Value) (h:t≠r):Dq S r v t=S t:=by simp[Dq,h]
variable{n c:Nat} {A:Option Addr}
theorem Lo {w:World} {d size k:Nat} {e:TypeId} {j:List Value} (h:w.ownsRow d e size (.slice A n c) n j) (m:k<=n):w.ownsRow d e size (.slice A k c) k (j.take (k*size)):=by
 have z:k*size<=n*size:=Ef _ m;refine⟨by rw[Ca,h.1];omega,?_⟩;rcases h.2 with⟨l,y⟩|⟨g,cap,f,l,u,t,C,r,q,o⟩
 .grind
 .injection l with x D v;subst x v;refine .inr ⟨g,c,f,rfl,u,t,oO,r,q,?_⟩;rw[<-o,List.take_take];congr 1;omega
section
variable{B:Nat} {p:Px} {s s':St} {S S':Sl} {w b:World} {e a:Nat}
theorem Rep.turn (h:Rep B p s S w) {q r:Ro} {o nq cq:Nat} (z:S q= vS o nq cq) (x:r≠q) (j:Nat) (v:Value) (G:World)
  (l:Ba B G v (cont p s' (Dq S r v) r)) (L:w.grownBy G (S r).ownBlock) (hb:∀b,v.ownBlock=some b->(S r).ownBlock=some b∨w.heap.size<=b)
  (hc:∀t,t≠r->t≠q->cont p s' (Dq S r v) t=cont p s S t)
  (hE:cont p s' (Dq S r v) q=((cont p s S q).1,(cont p s S q).2.1,(cont p s S q).2.2.1,(cont p s S q).2.2.2.set j v)):
  Rep B p s' (Dq S r v) (G.setCell (ad o j) v)/\Step S (Dq S r v) w (G.setCell (ad o j) v):=by
 have M:w.heap.size<=(G.setCell (ad o j) v).heap.size:=by simpa using L.size
 have a1:=h.lo (b:=o) (by rw[z];rfl);have O:∀b,v.ownBlock=some b->b≠o:=by
  intro b a0 e;subst e;rcases hb b a0 with f|f
  .exact h.apart r q b x f (by rw[z];rfl)
  .omega
 have m:∀b,b<w.heap.size->b≠o->(S r).ownBlock≠some b->(G.setCell (ad o j) v).heap[b]?=w.heap[b]?:=by
  intro b H f k;rw[Below.heap_setCell _ _ _ _ (by exact f)];exact L.block b H (fun e=>k e.symm)
 refine⟨h.upd (R:=fun t=>t=r∨t=q) M (fun t u=>?_) (fun t b u d=>?_) (fun t u=>?_) (fun t u b d=>?_) (fun t t' b f k C D J=>?_),?_⟩
 .have f:t≠r:=fun e=>u (.inl e)
  exact⟨CE S v f,hc t f (fun e=>u (.inr e))⟩
 .have f:t≠r:=fun e=>u (.inl e)
  have k:t≠q:=fun e=>u (.inr e)
  exact m b (h.lo d).2 (fun e=>by subst e;exact h.apart t q b k d (by rw[z];rfl)) (fun e=>h.apart t r b f d e)
 .by_cases f:t=r
  .subst f;rw[Fe];have Z:=O;refine⟨l.1,?_⟩;rcases l.2 with J|⟨g,cap,P,J,Y,U,h7⟩
   .exact .inl J
   .refine .inr ⟨g,cap,P,J,Y,?_,h7⟩;rw[Below.heap_setCell _ _ _ _ (by exact Z g (by rw[J];rfl))];exact U
  .obtain rfl:t=q:=by
    rcases u with k|k
    .exact absurd k f
    .exact k
   rw[CE S v f,z,hE];have k:=h.part t;rw[z] at k;have Q:nq=(cont p s S t).2.2.1:=by
    rcases k.2 with⟨D,_⟩|⟨g',cap,P,D,_⟩
    .cases D
    .injection D
   subst Q;have D:G.ownsRow B (cont p s S t).1 (cont p s S t).2.1 (vS o (cont p s S t).2.2.1 cq) (cont p s S t).2.2.1 (cont p s S t).2.2.2:=
    World.ownsRow.kept k L (.inr (by
     intro e;exact h.apart r t o x e.symm (by rw[z];rfl)))
   exact(FY D j v).1
 .rcases u with rfl|rfl
  .rw[Fe] at d;exact hb b d
  .by_cases f:t=r
   .subst f;exact absurd rfl x
   .rw[CE S v f] at d;exact .inl d
 .have y:∀b,(Dq S r v r).ownBlock=some b->(Dq S r v q).ownBlock≠some b:=by
   intro b Y U;rw[Fe] at Y;rw[CE S v (Ne.symm x),z] at U;have:b=o:=(Ah U).symm;exact O b Y this
  rcases f with rfl|rfl<;>rcases k with rfl|rfl
  .exact absurd rfl C
  .exact y b D J
  .exact y b J D
  .exact absurd rfl C
 .refine⟨by simpa[World.setCell] using L.os,by simpa[World.setCell] using L.tape,by simpa[World.setCell] using L.output,M,fun b H Q=>m b H (fun e=>?_) (Q r),fun t b d=>?_⟩
  .subst e;exact Q q (by rw[z];rfl)
  .by_cases f:t=r
   .subst f;rw[Fe] at d;rcases hb b d with k|k
    .exact .inl ⟨t,k⟩
    .exact .inr k
   .rw[CE S v f] at d;exact .inl ⟨t,d⟩
theorem Rep.watchA (h:Rep B p s S w) (j:S .E= vS e 1 a) (d:0<s.W.length):
  ∃g c,S .W= vS g s.W.length c/\w.cell? (ad e 1)=some (vS g s.W.length c)/\s.W.length<=c/\c<=maxLen/\(∀i:Nat,i<s.W.length->w.cell? (ad g i)=some (S (.row i)))/\(∀i,w.frozen? (ad g i)=false)/\e<w.heap.size/\g<w.heap.size:=by
 have⟨g,c,r,q,o,m,k,l⟩:=h.arr j .W 1 rfl (by simpa[cont] using d);exact⟨g,c,r,q,o,m,fun i f=>k i _ (by simp[cont,f]),l⟩
theorem Rep.valueA (h:Rep B p s S w) (j:S .E= vS e 1 a) (d:0<s.V.length):
  ∃g c,S .V= vS g s.V.length c/\w.cell? (ad e 2)=some (vS g s.V.length c)/\s.V.length<=c/\c<=maxLen/\(∀(i:Nat) (v:Option Bool),s.V[i]?=some v->w.cell? (ad g i)=some (v8 v))/\(∀i,w.frozen? (ad g i)=false)/\e<w.heap.size/\g<w.heap.size:=by
 have⟨g,c,r,q,o,m,k,l⟩:=h.arr j .V 2 rfl (by simpa[cont] using d);exact⟨g,c,r,q,o,m,fun i v f=>k i _ (by simp[cont,f]),l⟩
theorem Rep.levelA (h:Rep B p s S w) (j:S .E= vS e 1 a) (d:0<s.H.length):
  ∃g c,S .H= vS g s.H.length c/\w.cell? (ad e 3)=some (vS g s.H.length c)/\s.H.length<=c/\c<=maxLen/\(∀(i:Nat) (v:Nat),s.H[i]?=some v->w.cell? (ad g i)=some (.int .i64 (v:Int)))/\(∀i,w.frozen? (ad g i)=false)/\e<w.heap.size/\g<w.heap.size:=by
 have⟨g,c,r,q,o,m,k,l⟩:=h.arr j .H 3 rfl (by simpa[cont] using d);exact⟨g,c,r,q,o,m,fun i v f=>k i _ (by simp[cont,f]),l⟩
theorem Rep.whyA (h:Rep B p s S w) (j:S .E= vS e 1 a) (d:0<s.Y.length):
  ∃g c,S .Y= vS g s.Y.length c/\w.cell? (ad e 4)=some (vS g s.Y.length c)/\s.Y.length<=c/\c<=maxLen/\(∀(i:Nat) (v:Option Nat),s.Y[i]?=some v->w.cell? (ad g i)=some (IS S v))/\(∀i,w.frozen? (ad g i)=false)/\e<w.heap.size/\g<w.heap.size:=by
 have⟨g,c,r,q,o,m,k,l⟩:=h.arr j .Y 4 rfl (by simpa[cont] using d);exact⟨g,c,r,q,o,m,fun i v f=>k i _ (by simp[cont,f]),l⟩
theorem Rep.trailA (h:Rep B p s S w) (j:S .E= vS e 1 a) (d:0<s.L.length):
  ∃g c,S .L= vS g s.L.length c/\w.cell? (ad e 5)=some (vS g s.L.length c)/\s.L.length<=c/\c<=maxLen/\(∀(i:Nat) (v:Int),s.L[i]?=some v->w.cell? (ad g i)=some (.int .i64 v))/\(∀i,w.frozen? (ad g i)=false)/\e<w.heap.size/\g<w.heap.size:=by
 have⟨g,c,r,q,o,m,k,l⟩:=h.arr j .L 5 rfl (by simpa[cont] using d);exact⟨g,c,r,q,o,m,fun i v f=>k i _ (by simp[cont,f]),l⟩
theorem Rep.trailE (h:Rep B p s S w) (j:S .E= vS e 1 a):∃A c,S .L= .slice A s.L.length c/\w.cell? (ad e 5)=some (.slice A s.L.length c)/\e<w.heap.size/\s.L.length<=c/\c<=maxLen:=by
 have⟨A,c,d⟩:=h.form .L;simp only[cont] at d;have f:=h.part .L;unfold Ba at f;rw[d] at f;have k:=EV f;exact⟨A,c,d,by rw[<-d];exact h.cell .E j rfl,(h.lo (by rw[j];rfl)).2,k.1,k.2⟩
theorem Rep.startsA (h:Rep B p s S w) (j:S .E= vS e 1 a) (d:0<s.D.length):
  ∃g c,S .D= vS g s.D.length c/\w.cell? (ad e 6)=some (vS g s.D.length c)/\s.D.length<=c/\c<=maxLen/\(∀(i:Nat) (v:Nat),s.D[i]?=some v->w.cell? (ad g i)=some (.int .i64 (v:Int)))/\(∀i,w.frozen? (ad g i)=false)/\e<w.heap.size/\g<w.heap.size:=by
 have⟨g,c,r,q,o,m,k,l⟩:=h.arr j .D 6 rfl (by simpa[cont] using d);exact⟨g,c,r,q,o,m,fun i v f=>k i _ (by simp[cont,f]),l⟩
theorem Rep.startsE (h:Rep B p s S w) (j:S .E= vS e 1 a):∃A c,S .D= .slice A s.D.length c/\w.cell? (ad e 6)=some (.slice A s.D.length c)/\e<w.heap.size/\s.D.length<=c/\c<=maxLen:=by
 have⟨A,c,d⟩:=h.form .D;simp only[cont] at d;have f:=h.part .D;unfold Ba at f;rw[d] at f;have k:=EV f;exact⟨A,c,d,by rw[<-d];exact h.cell .E j rfl,(h.lo (by rw[j];rfl)).2,k.1,k.2⟩
theorem Rep.actA (h:Rep B p s S w) (j:S .E= vS e 1 a) (d:0<s.X.length):
  ∃g c,S .X= vS g s.X.length c/\w.cell? (ad e 8)=some (vS g s.X.length c)/\s.X.length<=c/\c<=maxLen/\(∀(i:Nat) (v:Int),s.X[i]?=some v->w.cell? (ad g i)=some (.int .i64 v))/\(∀i,w.frozen? (ad g i)=false)/\e<w.heap.size/\g<w.heap.size:=by
 have⟨g,c,r,q,o,m,k,l⟩:=h.arr j .X 8 rfl (by simpa[cont] using d);exact⟨g,c,r,q,o,m,fun i v f=>k i _ (by simp[cont,f]),l⟩
theorem Rep.actE (h:Rep B p s S w) (j:S .E= vS e 1 a):∃A c,S .X= .slice A s.X.length c/\w.cell? (ad e 8)=some (.slice A s.X.length c)/\e<w.heap.size/\s.X.length<=c/\c<=maxLen:=by
 have⟨A,c,d⟩:=h.form .X;simp only[cont] at d;have f:=h.part .X;unfold Ba at f;rw[d] at f;have k:=EV f;exact⟨A,c,d,by rw[<-d];exact h.cell .E j rfl,(h.lo (by rw[j];rfl)).2,k.1,k.2⟩
theorem Rep.orderA (h:Rep B p s S w) (j:S .E= vS e 1 a) (d:0<s.O.length):
  ∃g c,S .O= vS g s.O.length c/\w.cell? (ad e 10)=some (vS g s.O.length c)/\s.O.length<=c/\c<=maxLen/\(∀(i:Nat) (v:Nat),s.O[i]?=some v->w.cell? (ad g i)=some (.int .i64 (v:Int)))/\(∀i,w.frozen? (ad g i)=false)/\e<w.heap.size/\g<w.heap.size:=by
 have⟨g,c,r,q,o,m,k,l⟩:=h.arr j .O 10 rfl (by simpa[cont] using d);exact⟨g,c,r,q,o,m,fun i v f=>k i _ (by simp[cont,f]),l⟩
theorem Rep.orderE (h:Rep B p s S w) (j:S .E= vS e 1 a):∃A c,S .O= .slice A s.O.length c/\w.cell? (ad e 10)=some (.slice A s.O.length c)/\e<w.heap.size/\s.O.length<=c/\c<=maxLen:=by
 have⟨A,c,d⟩:=h.form .O;simp only[cont] at d;have f:=h.part .O;unfold Ba at f;rw[d] at f;have k:=EV f;exact⟨A,c,d,by rw[<-d];exact h.cell .E j rfl,(h.lo (by rw[j];rfl)).2,k.1,k.2⟩
theorem Rep.placeA (h:Rep B p s S w) (j:S .E= vS e 1 a) (d:0<s.P.length):
  ∃g c,S .P= vS g s.P.length c/\w.cell? (ad e 11)=some (vS g s.P.length c)/\s.P.length<=c/\c<=maxLen/\(∀(i:Nat) (v:Int),s.P[i]?=some v->w.cell? (ad g i)=some (.int .i64 v))/\(∀i,w.frozen? (ad g i)=false)/\e<w.heap.size/\g<w.heap.size:=by
 have⟨g,c,r,q,o,m,k,l⟩:=h.arr j .P 11 rfl (by simpa[cont] using d);exact⟨g,c,r,q,o,m,fun i v f=>k i _ (by simp[cont,f]),l⟩
theorem Rep.placeE (h:Rep B p s S w) (j:S .E= vS e 1 a):∃A c,S .P= .slice A s.P.length c/\w.cell? (ad e 11)=some (.slice A s.P.length c)/\e<w.heap.size/\s.P.length<=c/\c<=maxLen:=by
 have⟨A,c,d⟩:=h.form .P;simp only[cont] at d;have f:=h.part .P;unfold Ba at f;rw[d] at f;have k:=EV f;exact⟨A,c,d,by rw[<-d];exact h.cell .E j rfl,(h.lo (by rw[j];rfl)).2,k.1,k.2⟩
theorem Rep.phaseA (h:Rep B p s S w) (j:S .E= vS e 1 a) (d:0<s.F.length):
  ∃g c,S .F= vS g s.F.length c/\w.cell? (ad e 12)=some (vS g s.F.length c)/\s.F.length<=c/\c<=maxLen/\(∀(i:Nat) (v:Bool),s.F[i]?=some v->w.cell? (ad g i)=some (.bool v))/\(∀i,w.frozen? (ad g i)=false)/\e<w.heap.size/\g<w.heap.size:=by
 have⟨g,c,r,q,o,m,k,l⟩:=h.arr j .F 12 rfl (by simpa[cont] using d);exact⟨g,c,r,q,o,m,fun i v f=>k i _ (by simp[cont,f]),l⟩
theorem Rep.phaseE (h:Rep B p s S w) (j:S .E= vS e 1 a):∃A c,S .F= .slice A s.F.length c/\w.cell? (ad e 12)=some (.slice A s.F.length c)/\e<w.heap.size/\s.F.length<=c/\c<=maxLen:=by
 have⟨A,c,d⟩:=h.form .F;simp only[cont] at d;have f:=h.part .F;unfold Ba at f;rw[d] at f;have k:=EV f;exact⟨A,c,d,by rw[<-d];exact h.cell .E j rfl,(h.lo (by rw[j];rfl)).2,k.1,k.2⟩
theorem Rep.learntA (h:Rep B p s S w) (j:S .E= vS e 1 a) (d:0<s.Q.length):
  ∃g c,S .Q= vS g s.Q.length c/\w.cell? (ad e 13)=some (vS g s.Q.length c)/\s.Q.length<=c/\c<=maxLen/\(∀(i:Nat) (v:Nat),s.Q[i]?=some v->w.cell? (ad g i)=some (E6 S v))/\(∀i,w.frozen? (ad g i)=false)/\e<w.heap.size/\g<w.heap.size:=by
 have⟨g,c,r,q,o,m,k,l⟩:=h.arr j .Q 13 rfl (by simpa[cont] using d);exact⟨g,c,r,q,o,m,fun i v f=>k i _ (by simp[cont,f]),l⟩
theorem Rep.learntE (h:Rep B p s S w) (j:S .E= vS e 1 a):∃A c,S .Q= .slice A s.Q.length c/\w.cell? (ad e 13)=some (.slice A s.Q.length c)/\e<w.heap.size/\s.Q.length<=c/\c<=maxLen:=by
 have⟨A,c,d⟩:=h.form .Q;simp only[cont] at d;have f:=h.part .Q;unfold Ba at f;rw[d] at f;have k:=EV f;exact⟨A,c,d,by rw[<-d];exact h.cell .E j rfl,(h.lo (by rw[j];rfl)).2,k.1,k.2⟩
theorem Rep.seenA (h:Rep B p s S w) (j:S .E= vS e 1 a) (d:0<s.U.length):
  ∃g c,S .U= vS g s.U.length c/\w.cell? (ad e 16)=some (vS g s.U.length c)/\s.U.length<=c/\c<=maxLen/\(∀(i:Nat) (v:Bool),s.U[i]?=some v->w.cell? (ad g i)=some (.bool v))/\(∀i,w.frozen? (ad g i)=false)/\e<w.heap.size/\g<w.heap.size:=by
 have⟨g,c,r,q,o,m,k,l⟩:=h.arr j .U 16 rfl (by simpa[cont] using d);exact⟨g,c,r,q,o,m,fun i v f=>k i _ (by simp[cont,f]),l⟩
variable{g:Nat}
theorem Rep.putValue (h:Rep B p s S w) (d:S .V= vS g n c) (i:Nat) (v:Option Bool):
  Rep B p {s with V:=s.V.set i v} S (w.setCell (ad g i) (v8 v))/\Step S S w (w.setCell (ad g i) (v8 v)):=
 h.put .V d i _ (by simp[cont,Dp]) (by intro t f;cases t<;>first|rfl|exact absurd rfl f)
theorem Rep.putLevel (h:Rep B p s S w) (d:S .H= vS g n c) (i:Nat) (v:Nat):
  Rep B p {s with H:=s.H.set i v} S (w.setCell (ad g i) (.int .i64 (v:Int)))/\Step S S w (w.setCell (ad g i) (.int .i64 (v:Int))):=
 h.put .H d i _ (by simp[cont,Dp]) (by intro t f;cases t<;>first|rfl|exact absurd rfl f)
theorem Rep.putWhy (h:Rep B p s S w) (d:S .Y= vS g n c) (i:Nat) (v:Option Nat):
  Rep B p {s with Y:=s.Y.set i v} S (w.setCell (ad g i) (IS S v))/\Step S S w (w.setCell (ad g i) (IS S v)):=
 h.put .Y d i _ (by simp[cont,Dp]) (by intro t f;cases t<;>first|rfl|exact absurd rfl f)
theorem Rep.putAct (h:Rep B p s S w) (d:S .X= vS g n c) (i:Nat) (v:Int):
  Rep B p {s with X:=s.X.set i v} S (w.setCell (ad g i) (.int .i64 v))/\Step S S w (w.setCell (ad g i) (.int .i64 v)):=
 h.put .X d i _ (by simp[cont,Dp]) (by intro t f;cases t<;>first|rfl|exact absurd rfl f)
theorem Rep.putPlace (h:Rep B p s S w) (d:S .P= vS g n c) (i:Nat) (v:Int):
  Rep B p {s with P:=s.P.set i v} S (w.setCell (ad g i) (.int .i64 v))/\Step S S w (w.setCell (ad g i) (.int .i64 v)):=
 h.put .P d i _ (by simp[cont,Dp]) (by intro t f;cases t<;>first|rfl|exact absurd rfl f)
theorem Rep.putPhase (h:Rep B p s S w) (d:S .F= vS g n c) (i:Nat) (v:Bool):
  Rep B p {s with F:=s.F.set i v} S (w.setCell (ad g i) (.bool v))/\Step S S w (w.setCell (ad g i) (.bool v)):=
 h.put .F d i _ (by simp[cont,Dp]) (by intro t f;cases t<;>first|rfl|exact absurd rfl f)
theorem Rep.putSeen (h:Rep B p s S w) (d:S .U= vS g n c) (i:Nat) (v:Bool):
  Rep B p {s with U:=s.U.set i v} S (w.setCell (ad g i) (.bool v))/\Step S S w (w.setCell (ad g i) (.bool v)):=
 h.put .U d i _ (by simp[cont,Dp]) (by intro t f;cases t<;>first|rfl|exact absurd rfl f)
theorem Rep.putHead (h:Rep B p s S w) (j:S .E= vS e 1 a) (k:Nat):
  Rep B p {s with d:=k} S (w.setCell (ad e 7) (.int .i64 (k:Int)))/\Step S S w (w.setCell (ad e 7) (.int .i64 (k:Int))):=
 h.put .E j 7 _ (by simp[cont,El]) (by intro t f;cases t<;>first|rfl|exact absurd rfl f)
theorem Rep.putInc (h:Rep B p s S w) (f:S .E= vS e 1 a) (k:Int):
  Rep B p {s with J:=k} S (w.setCell (ad e 9) (.int .i64 k))/\Step S S w (w.setCell (ad e 9) (.int .i64 k)):=
 h.put .E f 9 _ (by simp[cont,El]) (by intro t d;cases t<;>first|rfl|exact absurd rfl d)
theorem Rep.putBroken (h:Rep B p s S w) (f:S .E= vS e 1 a) (k:Bool):
  Rep B p {s with Z:=k} S (w.setCell (ad e 15) (.bool k))/\Step S S w (w.setCell (ad e 15) (.bool k)):=
 h.put .E f 15 _ (by simp[cont,El]) (by intro t d;cases t<;>first|rfl|exact absurd rfl d)
theorem Rep.engF (h:Rep B p s S w) (f:S .E= vS e 1 a):
  w.cell? (ad e 0)=some (.int .i64 (s.n:Int))/\w.cell? (ad e 7)=some (.int .i64 (s.d:Int))/\w.cell? (ad e 9)=some (.int .i64 s.J)/\w.cell? (ad e 14)=some p.proof/\w.cell? (ad e 15)=some (.bool s.Z)/\(∀j,w.frozen? (ad e j)=false)/\e<w.heap.size:=
 ⟨h.cell .E f rfl,h.cell .E f rfl,h.cell .E f rfl,h.cell .E f rfl,h.cell .E f rfl,fun j=>h.free .E f j,(h.lo (by rw[f];rfl)).2⟩
theorem Rep.cutOrder (h:Rep B p s S w) (q:S .E= vS e 1 a) (l:S .O= .slice A n c) (k:Nat) (m:k<=s.O.length):
  Rep B p {s with O:=s.O.take k} (Dq S .O (.slice A k c)) (w.setCell (ad e 10) (.slice A k c))/\Step S (Dq S .O (.slice A k c)) w (w.setCell (ad e 10) (.slice A k c)):=by
 have d:=h.part .O;unfold Ba at d;simp only[cont] at d;rw[l] at d;have o:n=s.O.length:=by
  rcases d.2 with⟨f,y⟩|⟨z,cap,v,f,_⟩
  .injection f with _ x;omega
  .injection f
 subst o;refine h.turn q oS 10 _ w ?_ (World.grownBy.refl w _) (fun b r=> .inl (by rw[l];cases A<;>exact r)) (by intro t u j;cases t<;>first|rfl|exact absurd rfl u|exact absurd rfl j) (by simp[cont,El,Dq]);have j:=Lo d m;unfold Ba;simp only[cont];rw[Ca,F3 m,DZ];simpa using j
theorem Rep.cutTrail (h:Rep B p s S w) (q:S .E= vS e 1 a) (l:S .L= .slice A n c) (k:Nat) (m:k<=s.L.length):
  Rep B p {s with L:=s.L.take k} (Dq S .L (.slice A k c)) (w.setCell (ad e 5) (.slice A k c))/\Step S (Dq S .L (.slice A k c)) w (w.setCell (ad e 5) (.slice A k c)):=by
 have d:=h.part .L;unfold Ba at d;simp only[cont] at d;rw[l] at d;have o:n=s.L.length:=by
  rcases d.2 with⟨f,y⟩|⟨z,cap,v,f,_⟩
  .injection f with _ x;omega
  .injection f
 subst o;refine h.turn q oS 5 _ w ?_ (World.grownBy.refl w _) (fun b r=> .inl (by rw[l];cases A<;>exact r)) (by intro t u j;cases t<;>first|rfl|exact absurd rfl u|exact absurd rfl j) (by simp[cont,El,Dq]);have j:=Lo d m;unfold Ba;simp only[cont];rw[Ca,F3 m,DZ];simpa using j
theorem Rep.cutStarts (h:Rep B p s S w) (q:S .E= vS e 1 a) (l:S .D= .slice A n c) (k:Nat) (m:k<=s.D.length):
  Rep B p {s with D:=s.D.take k} (Dq S .D (.slice A k c)) (w.setCell (ad e 6) (.slice A k c))/\Step S (Dq S .D (.slice A k c)) w (w.setCell (ad e 6) (.slice A k c)):=by
 have d:=h.part .D;unfold Ba at d;simp only[cont] at d;rw[l] at d;have o:n=s.D.length:=by
  rcases d.2 with⟨f,y⟩|⟨z,cap,v,f,_⟩
  .injection f with _ x;omega
  .injection f
 subst o;refine h.turn q oS 6 _ w ?_ (World.grownBy.refl w _) (fun b r=> .inl (by rw[l];cases A<;>exact r)) (by intro t u j;cases t<;>first|rfl|exact absurd rfl u|exact absurd rfl j) (by simp[cont,El,Dq]);have j:=Lo d m;unfold Ba;simp only[cont];rw[Ca,F3 m,DZ];simpa using j
theorem Rep.pushOrder (h:Rep B p s S w) (k:S .E= vS e 1 a) (v:Nat) (u:Value) (d:World) (f:d.ownsRow B 3 1 u (s.O.length+1) (s.O.map N++[.int .i64 (v:Int)])) (j:w.grownBy d (S .O).ownBlock)
  (l:∀b,u.ownBlock=some b->(S .O).ownBlock=some b∨w.heap.size<=b):
  Rep B p {s with O:=s.O++[v]} (Dq S .O u) (d.setCell (ad e 10) u)/\Step S (Dq S .O u) w (d.setCell (ad e 10) u):=by
 refine h.turn k oS 10 _ d ?_ j l (by intro t o m;cases t<;>first|rfl|exact absurd rfl o|exact absurd rfl m) (by simp[cont,El,Dq]);simp only[cont,Cf,FB,Db,BI,D4];exact f
theorem Rep.pushTrail (h:Rep B p s S w) (k:S .E= vS e 1 a) (v:Int) (u:Value) (d:World) (f:d.ownsRow B 3 1 u (s.L.length+1) (s.L.map I++[.int .i64 v])) (j:w.grownBy d (S .L).ownBlock)
  (l:∀b,u.ownBlock=some b->(S .L).ownBlock=some b∨w.heap.size<=b):
  Rep B p {s with L:=s.L++[v]} (Dq S .L u) (d.setCell (ad e 5) u)/\Step S (Dq S .L u) w (d.setCell (ad e 5) u):=by
 refine h.turn k oS 5 _ d ?_ j l (by intro t o m;cases t<;>first|rfl|exact absurd rfl o|exact absurd rfl m) (by simp[cont,El,Dq]);simp only[cont,Cf,FB,Db,BI,D4];exact f
theorem Rep.pushStarts (h:Rep B p s S w) (k:S .E= vS e 1 a) (v:Nat) (u:Value) (d:World) (f:d.ownsRow B 3 1 u (s.D.length+1) (s.D.map N++[.int .i64 (v:Int)])) (j:w.grownBy d (S .D).ownBlock)
  (l:∀b,u.ownBlock=some b->(S .D).ownBlock=some b∨w.heap.size<=b):
  Rep B p {s with D:=s.D++[v]} (Dq S .D u) (d.setCell (ad e 6) u)/\Step S (Dq S .D u) w (d.setCell (ad e 6) u):=by
 refine h.turn k oS 6 _ d ?_ j l (by intro t o m;cases t<;>first|rfl|exact absurd rfl o|exact absurd rfl m) (by simp[cont,El,Dq]);simp only[cont,Cf,FB,Db,BI,D4];exact f
theorem Rep.pushLearnt (h:Rep B p s S w) (k:S .E= vS e 1 a) (v:Nat) (u:Value) (d:World) (f:d.ownsRow B 237 1 u (s.Q.length+1) (s.Q.map (E6 S)++[E6 S v])) (j:w.grownBy d (S .Q).ownBlock)
  (l:∀b,u.ownBlock=some b->(S .Q).ownBlock=some b∨w.heap.size<=b):
  Rep B p {s with Q:=s.Q++[v]} (Dq S .Q u) (d.setCell (ad e 13) u)/\Step S (Dq S .Q u) w (d.setCell (ad e 13) u):=by
 refine h.turn k oS 13 _ d ?_ j l (by intro t o m;cases t<;>first|rfl|exact absurd rfl o|exact absurd rfl m) (by simp[cont,El,Dq]);simp only[cont,Cf,FB,Db,BI,D4];exact f
theorem Rep.pushRow (h:Rep B p s S w) {o x J:Nat} (G:S .W= vS o x J) (k:Nat) (d:List Nat) (j:s.W[k]?=some d) (c:Nat) (u:Value) (f:World)
  (l:f.ownsRow B 237 1 u (d.length+1) (d.map (E6 S)++[E6 S c])) (C:w.grownBy f (S (.row k)).ownBlock) (D:∀b,u.ownBlock=some b->(S (.row k)).ownBlock=some b∨w.heap.size<=b):
  Rep B p {s with W:=s.W.set k (d++[c])} (Dq S (.row k) u) (f.setCell (ad o k) u)/\Step S (Dq S (.row k) u) w (f.setCell (ad o k) u):=by
 have r:k<s.W.length:=(Aa.1 j).1;refine h.turn G oS k _ f ?_ C D ?_ ?_
 .unfold Ba;simp only[cont,AD r,Cf,FB,Db,BI,D4];exact l
 .intro t v H;cases t<;>first|rfl|exact absurd rfl v|exact absurd rfl H|skip
  rename_i L;simp only[cont];rw[AI (fun e=>v (by rw[e]))];rfl
 .simp only[cont,Jy,Prod.mk.injEq,true_and];apply EM;intro i;by_cases m:i=k
  .subst m;simp[Dq,r]
  .rw[AI (fun e=>m e.symm)];rw[Bz,Bz]
   cases z:(List.range s.W.length)[i]? with
   |none=>rfl
   |some y=>
    have:y=i:=by
     have⟨M,q⟩:=Aa.1 z;rw[List.getElem_range] at q;exact q.symm
    subst this;simp[Dq,m]
variable{i:Nat}
theorem Rep.clA (h:Rep B p s S w) {c:Cl} (f:s.K[i]?=some c):∃g cap,S (.cl i)= vS g 1 cap/\E6 S i= vP g 0/\w.cell? (ad g 0)=some (S (.lit i))/\w.cell? (ad g 1)=some (.bool c.Q)/\
  w.cell? (ad g 2)=some (.int .i64 (p.lev i))/\w.cell? (ad g 3)=some (.int .i64 c.X)/\(∀j,w.frozen? (ad g j)=false)/\g<w.heap.size:=by
 have⟨g,cap,d,_,k,_⟩:=h.formSome (.cl i) (by simp[cont,f]);have l:(cont p s S (.cl i)).2.2.1=1:=by simp[cont,f]
 rw[l] at d;refine⟨g,cap,d,by unfold E6;rw[d];rfl,h.cell _ d (by simp[cont,f,FN]),h.cell _ d (by simp[cont,f,FN]),h.cell _ d (by simp[cont,f,FN]),h.cell _ d (by simp[cont,f,FN]),fun j=>h.free _ d j,k⟩
theorem Rep.litA (h:Rep B p s S w) {c:Cl} (f:s.K[i]?=some c) (q:0<c.l.length):∃g cap,S (.lit i)= vS g c.l.length cap/\c.l.length<=cap/\cap<=maxLen/\
  (∀(j:Nat) (x:Int),c.l[j]?=some x->w.cell? (ad g j)=some (.int .i64 x))/\(∀j,w.frozen? (ad g j)=false)/\g<w.heap.size:=by
 have m:(cont p s S (.lit i)).2.2.1=c.l.length:=by simp[cont,f]
 have⟨g,cap,d,_,t,k,r⟩:=h.formSome (.lit i) (by rw[m];exact q);rw[m] at d k;exact⟨g,cap,d,k,r,fun j x o=>h.cell _ d (by simp[cont,f,o]),fun j=>h.free _ d j,t⟩
theorem Rep.rowA (h:Rep B p s S w) {k:Nat} {row:List Nat} (f:s.W[k]?=some row) (q:0<row.length):∃g cap,S (.row k)= vS g row.length cap/\row.length<=cap/\cap<=maxLen/\
  (∀(j x:Nat),row[j]?=some x->w.cell? (ad g j)=some (E6 S x))/\(∀j,w.frozen? (ad g j)=false)/\g<w.heap.size:=by
 have m:(cont p s S (.row k)).2.2.1=row.length:=by simp[cont,f]
 have⟨g,cap,d,_,t,l,r⟩:=h.formSome (.row k) (by rw[m];exact q);rw[m] at d l;exact⟨g,cap,d,l,r,fun j x o=>h.cell _ d (by simp[cont,f,o]),fun j=>h.free _ d j,t⟩
theorem Rep.putClAct (h:Rep B p s S w) {cap:Nat} {c:Cl} (k:s.K[i]?=some c) (l:S (.cl i)= vS g n cap) (a:Int):
  Rep B p {s with K:=s.K.set i {c with X:=a}} S (w.setCell (ad g 3) (.int .i64 a))/\Step S S w (w.setCell (ad g 3) (.int .i64 a)):=by
 have f:i<s.K.length:=(Aa.1 k).1;have d:s.K[i]=c:=(Aa.1 k).2;refine h.put (.cl i) l 3 _ (by simp[cont,f,d,FN]) ?_;intro t m;cases t<;>first|rfl|skip
 .rename_i j;have:i≠j:=fun e=>m (by rw[e])
  simp only[cont,AI this]
 .rename_i j;by_cases e:i=j
  .subst e;simp[cont,f,d]
  .simp only[cont,AI e]
theorem Rep.putLit (h:Rep B p s S w) {cap:Nat} {c:Cl} (m:s.K[i]?=some c) (o:S (.lit i)= vS g n cap) (k:Nat) (x:Int):
  Rep B p {s with K:=s.K.set i {c with l:=c.l.set k x}} S (w.setCell (ad g k) (.int .i64 x))/\Step S S w (w.setCell (ad g k) (.int .i64 x)):=by
 have f:i<s.K.length:=(Aa.1 m).1;have d:s.K[i]=c:=(Aa.1 m).2;refine h.put (.lit i) o k _ (by simp[cont,f,d,Dp]) ?_;intro t q;cases t<;>first|rfl|skip
 .rename_i j;by_cases e:i=j
  .subst e;simp[cont,f,d,FN]
  .simp only[cont,AI e]
 .rename_i j;have:i≠j:=fun e=>q (by rw[e])
  simp only[cont,AI this]
end
def Ml (B:Nat) (p:Px) (S:Sl) (w:World) (R:Ro->Prop) (s:St) (v:Value) (e:Ending) (b:World):Prop:=
 e= .returned v/\∃S',(∀r,¬R r->S' r=S r)/\Rep B p s S' b/\Step S S' w b
theorem Ej.E {B:Nat} {p:Px} {S:Sl} {w b:World} {s:St} {e:Ending} (h:Ej B p S w s e b) (R:Ro->Prop):Ml B p S w R s (.tuple #[]) e b:=⟨h.1,S,fun _ _=>rfl,h.2⟩
end Go.Proofs.YtboflajfckfphaaGreatDoor
namespace Go.Proofs.YtboflajfckfphaaGreatDoor
open Go.RowKit Bud Go.Proofs.Tryz
def GC (s:St) (i:Nat):Nat->Option Nat
 |0=>some i
 |m+1=>match GC s i m with
  |some b=>GO s b (2*i+1+m)
  |none=>none
theorem SO (f:Nat) (s:St) (i:Nat):I7 (f+1) s i=if lim<=i then none else match GC s i 2 with
  |some a=>if a=i then some s else match H8 s i a with
   |some c=>I7 f c a
   |none=>none
  |none=>none:=by
 rw[I7];simp only[GC,Eb]
 cases GO s i (2*i+1) with
 |none=>rfl
 |some b=>rfl
variable{i:Nat}
theorem fy (a:i<lim):IntKind.i64.wrap (2*(i:Int))=2*(i:Int)/\IntKind.i64.wrap (2*(i:Int)+1)=((2*i+1:Nat):Int)/\IntKind.i64.wrap (2*(i:Int)+2)=((2*i+2:Nat):Int):=by
 unfold lim at a;refine⟨by rw[Bb _ oO],?_,?_⟩
 .rw[Bb _ oO];omega
 .rw[Bb _ oO];omega
variable{s:St} {b:Nat}
theorem WS (h:GC s i 2=some b) (m:Nat) (a:m<=2):∃c,GC s i m=some c:=by
 match m,a with
 |2,_=>exact⟨b,h⟩
 |0,_=>exact⟨i,rfl⟩
 |1,_=>
  rw[GC] at h
  cases d:GC s i 1 with
  |none=>rw[d] at h;cases h
  |some c=>exact⟨c,rfl⟩
theorem bl {m:Nat} (h:GC s i m=some b):i<=b:=by
 induction m generalizing b with
 |zero=>simp[GC] at h;omega
 |succ m d=>
  unfold GC at h;split at h
  case h_2=>cases h
  rename_i c f;have:=d f;unfold GO at h;split at h
  .split at h
   case h_2=>cases h
   rename_i a j k g
   cases e:Jm s a j with
   |none=>rw[e] at h;cases h
   |some r=>grind
  .simp at h;omega
theorem bn {m:Nat} (h:GC s i m=some b):b=i∨b<s.O.length:=by
 induction m generalizing b with
 |zero=>simp[GC] at h;exact .inl h.symm
 |succ m d=>
  unfold GC at h;split at h
  case h_2=>cases h
  rename_i c f;unfold GO at h;split at h
  .rename_i k;split at h
   case h_2=>cases h
   rename_i a j l g
   cases e:Jm s a j with
   |none=>rw[e] at h;cases h
   |some r=>grind
  .simp at h;exact h▸d f
set_option maxHeartbeats 4000000 in
set_option maxRecDepth 100000 in
theorem SP {B:Nat} {p:Px} {s':St} {S:Sl} {w:World} {e c0:Nat} (h:Rep B p s S w) (he:S .E= vS e 1 c0) (i f:Nat) (hr:I7 f s i=some s'):
  Cg 211 #[vP e 0,.int .i64 i] w (Ej B p S w s'):=by
 have HE:=Aq he;have H:=Aq h;have HR:=Aq hr;go_enter func211,ntmps211;go_wp2_with (fail);go_loopw [1,4,6] (fun v _ _ wr=>∃(f k:Nat) (t:St),v= .int .i64 k/\Rep B p t S wr/\Step S S w wr/\I7 f t k=some s') (fun v _ _ _=>lim-(intOf v).toNat)
 case atStart=>exact⟨f,i,s,rfl,H.out,Step.refl _ _,HR.out⟩
 case round=>
  obtain⟨f,k,t,rfl,h,st,q⟩:=hrel
  cases f with
  |zero=>cases q
  |succ f=>
  rw[SO] at q;by_cases hk:lim<=k
  .rw[if_pos hk] at q;cases q
  rw[if_neg hk] at q;replace hk:k<lim:=oO
  cases z:GC t k 2 with
  |none=>rw[z] at q;cases q
  |some b2=>
  rw[z] at q;simp only at q;have Z:=Aq z;have HU:=Aq q;have HH:=Aq h;have ST:=Aq st;have⟨a0,a1,a2⟩:=fy hk;have b3:Hid (∀W W5,Bl wr W->(∀j,j<2->W.cell? (ad wr.heap.size j)=some (.int .i64 ((2*k+1+j:Nat):Int)))->Bl W W5->Bl wr W5/\∀j,j<2->W5.cell? (ad wr.heap.size j)=some (.int .i64 ((2*k+1+j:Nat):Int))):=
   Aq fun W W5 h1 n h3=>⟨TS h1 h3,fun j hj=>(h3.cell (Cb W _ (n j hj))).trans (n j hj)⟩
  clear q h st z;go_wp2_with (fail);go_loopw [4,6,16] (fun b _ m wb=>∃(D m':Nat),b= .int .i64 D/\m= .int .i64 m'/\m'<=2/\GC t k m'=some D/\Bl wr wb/\∀j,j<2->wb.cell? (ad wr.heap.size j)=some (.int .i64 ((2*k+1+j:Nat):Int))) (fun _ _ m _=>2-(intOf m).toNat)
  case atStart=>
   refine⟨k,0,rfl,rfl,oO,rfl,Yk _,fun j hj=>?_⟩
   match j,hj with
   |0,_=>simp
   |1,_=>simp;omega
  case round=>
   obtain⟨b,m,rfl,rfl,hm,hb,l,hc⟩:=hrel;by_cases a8:m=2
   .subst a8;have u:b=b2:=by
     have:=Z.out;rw[hb] at this;exact Ah this
    subst u;have hl:=bn hb;have n:=HH.out.still l;have H2:=Aq n.1;have Q:=Aq (ST.out.trans n.2);clear n hb hc;by_cases M:b=k
    .subst M;have g:=HU.out;rw[if_pos rfl] at g;have U:=Aq (Ah g);clear HU g hl;go_wp2_with (fail);go_end0;exact⟨rfl,U.out▸H2.out,Q.out⟩
    .have g:=HU.out;rw[if_neg M] at g;split at g
     case h_2=>cases g
     rename_i t2 hS;have U:=Aq g;have CS:Hid (∀W,Rep B p t S W->Cg 210 #[vP e 0,.int .i64 (k:Int),.int .i64 (b:Int)] W (Ej B p S W t2)):=Aq fun W hW=>swap_any hW HE.out k b hS
     have q1:decide (b=k)=false:=by simpa using M
     have q2:((b:Int)==(k:Int))=false:=oT;clear HU g hS hl;go_wp2_with (fail)
     (with_reducible refine(CS.out _ H2.out).mono ?_)
     rintro e7 w7 ⟨rfl,h7,a4⟩;have H7:=Aq h7;have b1:=Aq (Q.out.trans a4);clear h7 a4;go_wp2_with (fail);exact⟨⟨f,b,t2,rfl,H7.out,b1.out,U.out⟩,by simp only[intOf,EL];have:=bl Z.out;omega⟩
   .have⟨nb,L⟩:=WS Z.out (m+1) oO;have c:=L;rw[GC,hb] at c;simp only at c;have a6:=hc m oO;obtain⟨K,hK⟩:∃K,K=2*k+1+m:=⟨_,rfl⟩;rw[<-hK] at c a6;have n:=HH.out.still l;have H2:=Aq n.1;have Q:=Aq (ST.out.trans n.2);have HC:=Aq hc;have Y:=Aq L;have a7:=Aq l;have lL:=Cb wr _ a6;have b4:m<2:=oO;have q0:(m:Int)<2:=oO;have qm:IntKind.i64.wrap ((m:Int)+1)=((m+1:Nat):Int):=by rw[Bb _ oO];omega
    have a3:=Aq fun w5 h5=>b3.out wr w5 l hc h5
    clear hc L l hb hK HC a7;unfold GO at c;have⟨A,co,P⟩:=n.1.form .O;simp only[cont] at P;have y:wr.cell? (ad e 10)=some (.slice A t.O.length co):=by rw[<-P];exact n.1.cell .E HE.out rfl
    have l1:=Cb wr _ y;by_cases o:K<t.O.length
    .rw[if_pos o] at c;split at c
     case h_2=>cases c
     rename_i a D ha u;have⟨go,b0,C,_,_,G,a5⟩:=n.1.formSome .O (by show 0<t.O.length;omega);simp only[cont] at C G;rw[P] at C;obtain⟨rfl,rfl⟩:A=some (ad go 0)/\co=b0:=by injection C with x1 x2 x3;exact⟨x1,x3⟩
     have a9:b<t.O.length:=(Aa.1 u).1;have o1:wr.cell? (ad go K)=some (.int .i64 (a:Int)):=n.1.cell .O P (by simp[cont,ha]);have o2:wr.cell? (ad go b)=some (.int .i64 (D:Int)):=n.1.cell .O P (by simp[cont,u]);have l2:=Cb wr _ o1;have q1:(K:Int)<(t.O.length:Int):=oO;have q2:(b:Int)<(t.O.length:Int):=oO;have q3:decide (K<t.O.length)=true:=by simpa using o
     cases hA:Jm t a D with
     |none=>rw[hA] at c;cases c
     |some r=>
     rw[hA] at c;simp only[Bf,A0] at c;have HX:=Aq c;have CA:Hid (∀W,Bl wr W->Cg 294 #[vP e 0,.int .i64 (a:Int),.int .i64 (D:Int)] W (Nl W (.bool r))):=Aq fun W hW=>Mp (H2.out.still hW).1 HE.out a D hA
     clear n P C G a5 ha u c hA o a9
     cases r with
     |true=>
      go_wp2_with (fail);go_region_held3 (fun J=>J.cell? (ad e 10)=some (vS go t.O.length co)/\J.cell? (ad go K)=some (.int .i64 (a:Int))/\J.cell? (ad go b)=some (.int .i64 (D:Int))) (first|(exact⟨y,o1,o2⟩)|(exact⟨y0,y1,y2⟩)|go_keep)
       (first
        |(go_at_call 294
          (with_reducible refine(CA.out _ ((Below.refl _ _).drew)).mono ?_)
          rintro e5 w5 ⟨rfl,x⟩;have d:=(Below.refl wr.heap.size wr).drew.trans x;have y0:=(d.cell l1).trans y;have y1:=(d.cell l2).trans o1;have y2:=(d.cell l2).trans o2;have R:=Aq d;clear x d))
      go_wp2_with (fail);exact⟨⟨nb,m+1,by rw[<-HX.out];rfl,rfl,oO,Y.out,a3.out _ R.out⟩,by simp only[intOf];omega⟩
     |false=>
      go_wp2_with (fail);go_region_held3 (fun J=>J.cell? (ad e 10)=some (vS go t.O.length co)/\J.cell? (ad go K)=some (.int .i64 (a:Int))/\J.cell? (ad go b)=some (.int .i64 (D:Int))) (first|(exact⟨y,o1,o2⟩)|(exact⟨y0,y1,y2⟩)|go_keep)
       (first
        |(go_at_call 294
          (with_reducible refine(CA.out _ ((Below.refl _ _).drew)).mono ?_)
          rintro e5 w5 ⟨rfl,x⟩;have d:=(Below.refl wr.heap.size wr).drew.trans x;have y0:=(d.cell l1).trans y;have y1:=(d.cell l2).trans o1;have y2:=(d.cell l2).trans o2;have R:=Aq d;clear x d))
      go_wp2_with (fail);exact⟨⟨nb,m+1,by rw[<-HX.out];rfl,rfl,oO,Y.out,a3.out _ R.out⟩,by simp only[intOf];omega⟩
    .rw[if_neg o] at c;have HX:=Aq (Ah c);have q3:decide (K<t.O.length)=false:=by simpa using o
     clear n P c o;go_wp2_with (fail);go_region;go_wp2_with (fail);exact⟨⟨nb,m+1,by rw[HX.out],rfl,oO,Y.out,a3.out _ (Below.refl _ _).drew⟩,by simp only[intOf];omega⟩
theorem wrapN {m:Nat} (h:m<=maxLen):IntKind.i64.wrap (m:Int)=(m:Int):=by unfold maxLen at h;exact Bb _ oO
theorem Xb {s t:St} {i k:Nat} (h:H8 s i k=some t):t.O.length=s.O.length/\t.P.length=s.P.length/\∀a,s.O[i]?=some a->a<s.P.length:=by
 unfold H8 at h
 cases c:s.O[i]? with
 |none=>rw[c] at h;simp at h
 |some a=>
  cases d:s.O[k]? with
  |none=>rw[c,d] at h;simp at h
  |some b=>
   rw[c,d] at h;simp only at h;split at h
   .grind
   .cases h
set_option maxHeartbeats 4000000 in
set_option maxRecDepth 100000 in
theorem first_any {B:Nat} {p:Px} {s s':St} {S:Sl} {w:World} {e c0 v:Nat} (h:Rep B p s S w) (he:S .E= vS e 1 c0) (a:Mv s=some (v,s')):
  Cg 113 #[vP e 0] w (Ml B p S w (fun r=>r= .O) s' (.int .i64 v)):=by
 unfold Mv at a
 cases C:s.O[0]? with
 |none=>rw[C] at a;cases a
 |some d=>
 rw[C] at a;simp only at a
 cases y:H8 s 0 (s.O.length- 1) with
 |none=>rw[y] at a;cases a
 |some l=>
 rw[y] at a;simp only at a;have⟨t,z2,z3⟩:=Xb y;have hv:=z3 _ C;have hl:0<s.O.length:=(Aa.1 C).1;obtain⟨m,hm⟩:∃m,s.O.length=m+1:=⟨s.O.length- 1,oO⟩;have o:s.O.length- 1=m:=oO;rw[o] at y;rw[t,o] at a;have⟨go,co,z,c,j,Y,rO,_,le,lo⟩:=h.orderA he hl;have o0:=rO 0 _ C;rw[hm] at c z j;have a8:IntKind.i64.wrap (m:Int)=(m:Int):=wrapN oO;have CS:Hid (Cg 210 #[vP e 0,.int .i64 0,.int .i64 (m:Int)] w (Ej B p S w l)):=Aq (swap_any h he 0 m y);have HE:=Aq he;have HR:=Aq a;have Z1:=Aq (t.trans hm);have Z2:=Aq z2;have HV:=Aq hv;clear h he a y C hl hm o t z2 z3 rO z hv;go_enter func113,ntmps113;go_wp2_with (fail)
 (with_reducible refine(CS.out).mono ?_)
 rintro e1 w1 ⟨rfl,h1,L⟩;clear c o0 CS le lo j Y;have t:=Z1.out;have⟨go,co,z,c,j,Y,rO,fO,le,lo⟩:=h1.orderA HE.out oO;rw[t] at c z j;have q:(m:Int)<=(co:Int):=oO;have b1:m<=co:=oO;have fe:=(h1.engF HE.out).2.2.2.2.2.1 10;have⟨h2,J⟩:=h1.cutOrder HE.out z m oO;have H2:=Aq h2.drew;have a0:=Aq (L.trans J).drew;clear h1 L h2 J rO z t;go_wp2_with (fail);go_region;have R:=H2.out;have f:=a0.out;generalize(w1.setCell (ad e 10) (vS go m co)).drew=w3 at R f⊢;obtain⟨D,g⟩:∃x,x=Dq S .O (vS go m co):=⟨_,rfl⟩;rw[<-g] at R f;have i:D .E= vS e 1 c0:=by rw[g,CE _ _ oS];exact HE.out
 have k:∀r,r≠Ro.O->D r=S r:=fun r a=>by rw[g,CE _ _ a]
 clear c fe H2 a0 g le lo;have M:d<l.P.length:=by rw[Z2.out];exact HV.out
 have⟨gp,cp,hP,a2,U,a3,rP,fP,le,lp⟩:=R.placeA i (by grind);simp only at a2 U;obtain⟨u0,b0⟩:∃u,w3.cell? (ad gp d)=some u:=⟨_,rP d _ (Ab M)⟩;have fp:=fP d;have b2:(d:Int)<(l.P.length:Int):=oO;have⟨h4,H⟩:=R.putPlace hP d (-1);have⟨A,c4,Q,f10,a9,a5,a4⟩:=h4.orderE i;have b:(l.O.take m).length=m:=by rw[Ca,Z1.out];omega
 simp only[b] at f10 Q;obtain⟨s2,n⟩:∃x:St,x={l with O:=l.O.take m,P:=l.P.set d (-1)}:=⟨_,rfl⟩;have a:=HR.out;rw[<-n,b] at a;have H4:Hid (Rep B p s2 D (w3.setCell (ad gp d) (.int .i64 (-1)))):=Aq (by rw[n];exact h4);have Z:=Aq (f.trans H);have a1:=Aq k;have a7:=Aq i;clear R f h4 H rP fP hP Q M i k b a5 a4 U a3 n HR;by_cases q:0<m
 .rw[if_pos q] at a
  cases hd:I7 (m+1) s2 0 with
  |none=>rw[hd] at a;cases a
  |some s3=>
  rw[hd] at a;simp only[Bf,A0,Prod.mk.injEq] at a;obtain⟨rfl,rfl⟩:=a;have CD:Hid (Cg 211 #[vP e 0,.int .i64 0] (w3.setCell (ad gp d) (.int .i64 (-1))) (Ej B p D (w3.setCell (ad gp d) (.int .i64 (-1))) s3)):=Aq (SP H4.out a7.out 0 (m+1) hd);have q1:(0:Int)<(m:Int):=oO;clear hd;go_wp2_with (fail)
  (with_reducible refine(CD.out).mono ?_)
  rintro e5 w5 ⟨rfl,h5,G⟩;have H5:=Aq h5;have a6:=Aq (Z.out.trans G);clear h5 G;go_wp2;go_ret;exact⟨rfl,D,a1.out,H5.out,a6.out⟩
 .rw[if_neg q] at a;simp only[A0,Prod.mk.injEq] at a;obtain⟨rfl,rfl⟩:=a;obtain rfl:m=0:=oO;go_wp2;go_ret;exact⟨rfl,D,a1.out,H4.out,Z.out⟩
theorem S9 {x:Int} (h:B7 x<=maxLen):IntKind.i64.wrap (-x)=-x/\IntKind.i64.wrap x=x:=by
 unfold B7 maxLen at h;exact⟨Bb _ oO,Bb _ oO⟩
set_option maxHeartbeats 4000000 in
set_option maxRecDepth 100000 in
theorem FT (x:Int) (a:B7 x<=maxLen) (w:World):Calls prog 43 #[.int .i64 x] w fun e d=>e= .returned (.int .i64 (B7 x:Int))/\w=d:=by
 have⟨f,_⟩:=S9 a;have b:(B7 x:Int)=if x<0 then-x else x:=by unfold B7;split<;>omega
 rw[b];clear b a;by_cases c:x<0
 .rw[if_pos c];have q1:x< -x:=oO;have q2:¬(-x<x):=oO;go_enter func43,ntmps43;go_wp2
  all_goals(first|(exfalso;omega)|(go_ret;exact⟨rfl,rfl⟩))
 .rw[if_neg c];go_enter func43,ntmps43;go_wp2
  all_goals(first|(exfalso;omega)|(go_ret;refine⟨?_,rfl⟩;first|rfl|(congr 2;omega)))
theorem oM (x:Int):(B7 x:Int)=if x<0 then-x else x:=by unfold B7;split<;>omega
set_option maxHeartbeats 4000000 in
set_option maxRecDepth 100000 in
theorem QH (x:Int) (a:EC x<=maxLen) (w:World):Calls prog 198 #[.int .i64 x] w fun e d=>e= .returned (.int .i64 (EC x:Int))/\w=d:=by
 unfold EC maxLen at a;by_cases c:x<0
 .rw[if_pos c] at a;have b:(EC x:Int)=-2*x+1:=by unfold EC;rw[if_pos c];omega
  rw[b];have q1:IntKind.i64.wrap (-2*x)=-2*x:=Bb _ oO;have q2:IntKind.i64.wrap (-2*x+1)=-2*x+1:=Bb _ oO;have q3:IntKind.i64.wrap (-(2*x))=-(2*x):=Bb _ oO;have q4:IntKind.i64.wrap (-(2*x)+1)=-(2*x)+1:=Bb _ oO;clear a b;go_enter func198,ntmps198;go_wp2;go_ret;exact⟨by first|rfl|(congr 2;omega),rfl⟩
 .rw[if_neg c] at a;have b:(EC x:Int)=2*x:=by unfold EC;rw[if_neg c];omega
  rw[b];have q1:IntKind.i64.wrap (2*x)=2*x:=Bb _ oO;clear a b;go_enter func198,ntmps198;go_wp2;go_ret;exact⟨by first|rfl|(congr 2;omega),rfl⟩
set_option maxHeartbeats 4000000 in
set_option maxRecDepth 100000 in
theorem G7 {B:Nat} {p:Px} {s:St} {S:Sl} {w:World} {e o:Nat} (h:Rep B p s S w) (k:S .E= .slice (some ⟨e,0,none⟩) 1 o) (x:Int) {r:Option Bool} (a:KK s x=some r):
  Calls prog 110 #[.pointer (some ⟨e,0,none⟩),.int .i64 x] w fun e n=>e= .returned (v8 r)/\w=n:=by
 unfold KK at a
 cases b:s.V[B7 x]? with
 |none=>rw[b] at a;cases a
 |some v=>
 rw[b] at a;simp only[Bf,A0] at a;have i:B7 x<s.V.length:=(Aa.1 b).1;have⟨g,c,_,t,m,u,j,_,_,_⟩:=h.valueA k oO;have f:=j _ _ b;have⟨q,_⟩:=S9 (x:=x) oO;have d:=oM x;clear h k j;by_cases l:x<0
 .rw[if_pos l] at a d;have q0:-x<(s.V.length:Int):=oO;have q1:0<=-x:=oO;have q2:(-x).toNat=B7 x:=oO;have q3:B7 (x)<s.V.length:=i;subst a;clear b i m d;rcases v with _|_|_
  .simp only[v8] at f;go_enter func110,ntmps110;go_wp2;go_ret;exact⟨rfl,rfl⟩
  .simp only[v8] at f;go_enter func110,ntmps110;go_wp2;go_ret;exact⟨rfl,rfl⟩
  .simp only[v8] at f;go_enter func110,ntmps110;go_wp2;go_ret;exact⟨rfl,rfl⟩
 .rw[if_neg l] at a d;have q0:x<(s.V.length:Int):=oO;have q1:0<=x:=oO;have q2:x.toNat=B7 x:=oO;subst a;clear b i m d;go_enter func110,ntmps110;go_wp2;go_ret;exact⟨rfl,rfl⟩
theorem Ek:(prog.info? 3).map (fun i=>(i.zero,i.size,i.bytes))=some (some (.int .i64 0),1,8):=oK
theorem Nj:(prog.info? 237).map (fun i=>(i.zero,i.size,i.bytes))=some (some (.pointer none),1,8):=oK
theorem Sb (v:Value):∃P,Sk v= .pointer P:=by
 unfold Sk;split
 .exact⟨_,rfl⟩
 .exact⟨_,rfl⟩
theorem WK (S:Sl) (y:Option Nat):∃P,IS S y= .pointer P:=by
 cases y with
 |none=>exact⟨_,rfl⟩
 |some i=>exact Sb _
variable{B:Nat} {p:Px} {S:Sl} {w:World}
theorem Rep.trailOwn (h:Rep B p s S w):w.ownsRow B 3 1 (S .L) s.L.length (s.L.map I):=h.part .L
theorem Rep.startsOwn (h:Rep B p s S w):w.ownsRow B 3 1 (S .D) s.D.length (s.D.map N):=h.part .D
theorem Rep.orderOwn (h:Rep B p s S w):w.ownsRow B 3 1 (S .O) s.O.length (s.O.map N):=h.part .O
set_option maxHeartbeats 4000000 in
set_option maxRecDepth 100000 in
theorem set_any {s':St} {e c0:Nat} (h:Rep B p s S w) (he:S .E= vS e 1 c0) (x:Int) (y:Option Nat) (U:Ik s x y=some s'):
  Cg 114 #[vP e 0,.int .i64 x,IS S y] w (Ml B p S w (fun r=>r= .L) s' (.tuple #[])):=by
 have⟨PY,a1⟩:=WK S y;rw[a1];have e7:=Aq a1;clear a1;unfold Ik at U;split at U
 case isFalse=>cases U
 rename_i hh;have⟨hv,Z,Q,a⟩:=hh;have HR:=Aq (Ah U);clear U;obtain⟨V,hV⟩:∃V,V=B7 x:=⟨_,rfl⟩;rw[<-hV] at hv Z Q;have⟨f,cv,c,e2,c8,c7,rV,fV,le,lv⟩:=h.valueA he oO;have OF:Hid (∀W,Cg 43 #[.int .i64 x] W fun e w'=>e= .returned (.int .i64 (V:Int))/\W=w'):=Aq fun W=>hV▸FT x (by rw[<-hV];omega) W
 obtain⟨u0,o0⟩:∃u,w.cell? (ad f V)=some u:=⟨_,rV V _ (Ab hv)⟩;have fv:=fV V;have q0:(V:Int)<(s.V.length:Int):=oO;have⟨h1,P⟩:=h.putValue c V (some true);obtain⟨t1,k⟩:∃t:St,t={s with V:=s.V.set V (some (decide (0<=x)))}:=⟨_,rfl⟩;have a3:Hid (∃W,Rep B p t1 S W/\Step S S w W/\W=(if x<0 then(w.setCell (ad f V) (.int .i8 1)).setCell (ad f V) (.int .i8 (-1)) else w.setCell (ad f V) (.int .i8 1))):=Aq (by
  by_cases hx:x<0
  .have⟨v,g⟩:=h1.putValue c V (some false);refine⟨_,?_,P.trans g,by rw[if_pos hx];rfl⟩;have:decide (0<=x)=false:=by simpa using hx
   rw[k,this];simpa using v
  .refine⟨_,?_,P,by rw[if_neg hx];rfl⟩;have:decide (0<=x)=true:=by simpa using hx
   rw[k,this];exact h1)
 have E2:Hid ((w.setCell (ad f V) (.int .i8 1)).cell? (ad e 2)=some (vS f s.V.length cv)):=Aq (by
  exact(h1.cell .E he rfl).trans (by rw[c]))
 obtain⟨u1,o1⟩:∃u,(w.setCell (ad f V) (.int .i8 1)).cell? (ad f V)=some u:=⟨_,h1.cell .V c (j:=V) (u:=v8 (some true)) (by simp[cont,hv])⟩;have c1:(w.setCell (ad f V) (.int .i8 1)).frozen? (ad f V)=false:=h1.free .V c V;have c2:=E2.out;have J:=Aq he;have d:=Aq k;have HV:=Aq hV;have A1:=Aq Z;have A2:=Aq Q;have A3:=Aq a;clear h he h1 P rV fV c c8 c7 hv Z Q a hV k E2;go_enter func114,ntmps114;go_upto_if 16 with(
  go_at_call 43
  (with_reducible refine(OF.out _).mono ?_)
  rintro e5 w5 ⟨rfl,rfl⟩)
 go_cut [] (fun wx=>Rep B p t1 S wx/\Step S S w wx)
 case first=>
  by_cases hx:x<0
  .go_wp2_with (fail);go_meet
   case rel=>
    obtain⟨W,r1,r2,rfl⟩:=a3.out;rw[if_pos hx] at r1 r2;exact⟨r1,r2⟩
  .go_wp2_with (fail);go_meet
   case rel=>
    obtain⟨W,r1,r2,rfl⟩:=a3.out;rw[if_neg oO] at r1 r2;exact⟨r1,r2⟩
 case rest=>
  have⟨v,g⟩:=hcut;clear a3 e2 c2 o0 o1 fv c1 le lv;have a7:V<t1.H.length:=by rw[d.out];exact A1.out
  have R:V<t1.Y.length:=by rw[d.out];exact A2.out
  have a5:t1.D=s.D:=by rw[d.out]
  have b6:t1.D.length=s.D.length:=by rw[a5]
  have⟨gl,cl,o,e3,e0,c9,rL,fL,le,ll⟩:=v.levelA J.out oO;have⟨gw,cw,b,e4,c4,c3,rW,fW,_,lw⟩:=v.whyA J.out oO;have⟨As,cs,b8,e6,_,_,_⟩:=v.startsE J.out;rw[b6] at e6;clear a5;obtain⟨ul,ol⟩:∃u,wc.cell? (ad gl V)=some u:=⟨_,rL V _ (Ab a7)⟩;obtain⟨uw,ow⟩:∃u,wc.cell? (ad gw V)=some u:=⟨_,rW V _ (Ab R)⟩;have fl:=fL V;have fw:=fW V;have q1:(V:Int)<(t1.H.length:Int):=oO;have q2:(V:Int)<(t1.Y.length:Int):=oO;have g3:gl≠gw:=fun e=>v.apart .H .Y gl oS (by rw[o];rfl) (by rw[b,e];rfl)
  have⟨h3,a4⟩:=v.putLevel o V s.D.length;have⟨h4,O⟩:=h3.putWhy b V y;obtain⟨g2,b2⟩:∃u,(wc.setCell (ad gl V) (.int .i64 (s.D.length:Int))).cell? (ad gw V)=some u:=⟨_,h3.cell .Y b (j:=V) (u:=IS S (t1.Y[V])) (by simp[cont,R])⟩;have b9:(wc.setCell (ad gl V) (.int .i64 (s.D.length:Int))).frozen? (ad gw V)=false:=h3.free .Y b V;have⟨a2,C⟩:=v.putWhy b V y;have⟨a9,A⟩:=a2.putLevel o V s.D.length;rw[e7.out] at h4 O a2 C a9 A;have H4:=Aq h4;have b0:=Aq (g.trans (a4.trans O));clear v h3 h4 g a4 O a2 C a9 A rL rW fL fW o b b8 e0 c9 c4 c3 a7 R;go_wp2_with (fail);go_region;have q:=H4.out.drew;have M:=b0.out.drew;generalize((wc.setCell (ad gl V) (.int .i64 (s.D.length:Int))).setCell (ad gw V) (.pointer PY)).drew=w5 at q M⊢;clear H4 b0 e3 e4 e6 ol ow fl fw b2 b9 le ll lw;obtain⟨t5,i⟩:∃t,t={t1 with H:=t1.H.set V s.D.length,Y:=t1.Y.set V y}:=⟨_,rfl⟩;replace q:Rep B p t5 S w5:=by rw[i];exact q
  have hT:t5.L=s.L:=by rw[i,d.out]
  have⟨A5,c5,n,e5,le,_,_⟩:=q.trailE J.out;have o5:=q.trailOwn;have fe:=(q.engF J.out).2.2.2.2.2.1 5;rw[n] at o5;rw[hT] at e5 n o5;have a:=A3.out;unfold lim at a;have a0:=q.base;have⟨i0,b7,b5,b4,b3⟩:=info_parts' Ek;have z:=Aq n;have HT:=Aq hT;have H5:=Aq q;have e1:=Aq M;have b1:=Aq i;clear n hT q M i;obtain⟨L,hL⟩:∃l,l=s.L.length:=⟨_,rfl⟩;rw[<-hL] at e5 o5 a;have HL:=Aq hL;clear hL;go_wp2_with (first
   |(refine Hx w5 rfl (.tmp 45) (.tmp 47) _ rfl B 3 i0 _ 8 underlying25 b7 b5 b4 b3 rfl (.slice A5 L c5) L _ (by rfl) o5 3 (.int .i64 x) 1 rfl (by rfl) (by simp only[maxLen];omega) oO a0 ?_
     intro A6 c6 w6 a6 m a8;have e9:w6.cell? (ad e 5)=some (.slice A5 L c5):=m.cell e5 (fun hh=>H5.out.apart .E .L e oS (by rw[J.out];rfl) (by rw[z.out,<-HL.out];exact hh.symm));have f9:w6.frozen? (ad e 5)=false:=by
      rw[CT (m.block e le (fun hh=>H5.out.apart .E .L e oS (by rw[J.out];rfl) (by rw[z.out,<-HL.out];exact hh.symm)))];exact fe
     have e8:=Aq a6;have g0:=Aq m;have g1:=Aq a8;clear a6 m a8))
  go_end0;have G:=H5.out.pushTrail J.out x (.slice A6 (L+1) c6) w6 (by rw[HT.out,<-HL.out];exact e8.out) (by rw[z.out,<-HL.out];exact g0.out) (by rw[z.out,<-HL.out];exact g1.out);refine⟨rfl,Dq S .L (.slice A6 (L+1) c6),fun r U=>CE _ _ U,?_,e1.out.trans G.2⟩;have hs:s'={t5 with L:=t5.L++[x]}:=by
   rw[<-HR.out,b1.out,d.out,HV.out]
  rw[hs];exact G.1
def LW (l:List Int) (k:Nat):List Int:=(l.take k).map (fun a=>G2 (a.tdiv 1024))++l.drop k
theorem NC (l:List Int) (k:Nat):(LW l k).length=l.length:=by simp[LW];omega
theorem Ng (l:List Int) (k i:Nat):(LW l k)[i]?=if i<k then(l[i]?).map (fun a=>G2 (a.tdiv 1024)) else l[i]?:=by
 unfold LW;by_cases b:i<l.length
 .grind
 .grind
theorem XW {l:List Int} {k:Nat} {a:Int} (h:l[k]?=some a):(LW l k)[k]?=some a:=by
 rw[Ng,if_neg oO];exact h
theorem Wr {l:List Int} {k:Nat} {a:Int} (h:l[k]?=some a):(LW l k).set k (G2 (a.tdiv 1024))=LW l (k+1):=by
 have d:=(Aa.1 h).1;apply EM;intro i;by_cases c:k=i
 .subst c;rw[AD (by rw[NC];exact d),Ng,if_pos oO,h];rfl
 .rw[AI c,Ng,Ng];by_cases b:i<k
  .rw[if_pos b,if_pos oO]
  .rw[if_neg b,if_neg oO]
theorem XX (l:List Int):LW l l.length=l.map fun a=>G2 (a.tdiv 1024):=by simp[LW]
theorem Ws (l:List Int):LW l 0=l:=by simp[LW]
theorem Ky:∀(l:List Nat) {s t:St},Ei l s=some t->t.Q=s.Q/\t.J=s.J/\t.O=s.O
 |[],s,t,h=>by injection h with h;subst h;exact⟨rfl,rfl,rfl⟩
 |i::r,s,t,h=>by
  unfold Ei L3 at h
  cases a:s.K[i]? with
  |none=>rw[a] at h;cases h
  |some c=>
   rw[a] at h;simp only[Bf] at h;have b:=Ky r h;exact b
theorem J7 (n:Int):IntKind.i64.wrap n=G2 n:=(IntWalk.i64_left n).trans (by unfold wrap64 G2;rfl)
theorem iZ (n:Nat) (a:n<=maxLen):IntKind.i64.wrap ((n:Int)/2)=((n/2:Nat):Int):=by
 unfold maxLen at a;rw[Bb _ oO];omega
set_option maxHeartbeats 4000000 in
set_option maxRecDepth 100000 in
theorem Pw {B:Nat} {p:Px} {s s':St} {S:Sl} {w:World} {e c0:Nat} (h:Rep B p s S w) (he:S .E= vS e 1 c0) (R:Ij s=some s'):
  Cg 205 #[vP e 0] w (Ej B p S w s'):=by
 unfold Ij at R
 cases hc:Ei s.Q {s with X:=s.X.map fun a=>G2 (a.tdiv 1024)} with
 |none=>rw[hc] at R;cases R
 |some s1=>
 rw[hc] at R;simp only at R;have HR:=Aq R;have HC:=Aq hc;have HE:=Aq he;have H:=Aq h;clear R hc;have⟨A8,c8,a0,e8,le,a3,b5⟩:=h.actE he;obtain⟨L,hL⟩:∃l,l=s.X.length:=⟨_,rfl⟩;rw[<-hL] at e8 a3 a0;have c9:L<=maxLen:=oO;have HL:=Aq hL;have e3:=Aq a0;clear h he hL a0 a3 b5;go_enter func205,ntmps205;go_wp2_with (fail);go_loopw [2,11] (fun _ i wr=>∃k:Nat,k<=L/\i= .int .i64 k/\Rep B p {s with X:=LW s.X k} S wr/\Step S S w wr) (fun _ i _=>L-(intOf i).toNat)
 case atStart=>exact⟨0,oO,rfl,by rw[Ws];exact H.out,Step.refl _ _⟩
 case round=>
  obtain⟨k,hk,rfl,h,r⟩:=hrel;by_cases o:k<L
  .obtain⟨a,ha⟩:∃a,s.X[k]?=some a:=⟨_,Ab (by rw[<-HL.out];exact o)⟩;have⟨g,c,G,f8,c1,c2,rA,fA,a2,lg⟩:=h.actA HE.out (by show 0<(LW s.X k).length;rw[NC,<-HL.out];omega);simp only[NC] at G f8 c1;rw[<-HL.out] at G f8 c1;have oa:=rA k a (XW ha);have fa:=fA k;have⟨n,d⟩:=h.putAct G k (G2 (a.tdiv 1024));simp only[Wr ha] at n;have q1:(k:Int)<(L:Int):=oO;have q2:IntKind.i64.wrap ((k:Int)+1)=((k+1:Nat):Int):=wrapN (m:=k+1) oO;have hk1:k+1<=L:=o;have q3:IntKind.i64.wrap (a.tdiv 1024)=G2 (a.tdiv 1024):=J7 _;have q:=Aq n;have b:=Aq (r.trans d);clear h r n d rA fA G c1 c2 ha;go_wp2_with (fail);exact⟨⟨k+1,hk1,rfl,q.out,b.out⟩,by simp only[intOf];omega⟩
  .obtain rfl:L=k:=oO;have n:Rep B p {s with X:=s.X.map fun a=>G2 (a.tdiv 1024)} S wr:=by
    rw[HL.out,XX] at h;exact h
   have⟨c4,b7,u,b1,c5,A,a6⟩:=n.learntE HE.out;simp only at b1 A u;obtain⟨M,hM⟩:∃l,l=s.Q.length:=⟨_,rfl⟩;rw[<-hM] at b1 A u;have c7:M<=maxLen:=oO;have HM:=Aq hM;have q:=Aq n;have ST:=Aq r;have b3:=Aq u;have q0:¬((L:Int)<(L:Int)):=oO;clear h n r hM u A a6 o hk;go_wp2_with (fail);go_loopw [4,29] (fun _ i wr=>∃(k:Nat) (t:St),k<=M/\i= .int .i64 k/\Rep B p t S wr/\Step S S w wr/\t.Q=s.Q/\Ei (s.Q.drop k) t=some s1) (fun _ i _=>M-(intOf i).toNat)
   case atStart=>exact⟨0,_,oO,rfl,q.out,ST.out,rfl,HC.out⟩
   case round=>
    obtain⟨k,t,hk,rfl,h,r,z,f⟩:=hrel;by_cases o:k<M
    .obtain⟨j,hj⟩:∃j,s.Q[k]?=some j:=⟨_,Ab (by rw[<-HM.out];exact o)⟩;have D:s.Q.drop k=j::s.Q.drop (k+1):=by
      have⟨h1,n⟩:=Aa.1 hj;rw[Co h1,n]
     rw[D] at f;unfold Ei L3 at f
     cases C:t.K[j]? with
     |none=>rw[C] at f;cases f
     |some cl=>
     rw[C] at f;simp only[Bf] at f;have⟨g,c,G,f13,c1,c2,rA,fA,a2,lg⟩:=h.learntA HE.out (by rw[z,<-HM.out];omega);have oj:=rA k j (by rw[z];exact hj);have⟨gc,cc,hC,hP,_,_,_,o3,fC,lc⟩:=h.clA C;rw[hP] at oj;rw[z,<-HM.out] at f13 G c1;have b6:c4=some (ad g 0)/\b7=c:=by
      have:=b3.out.symm.trans G;injection this with x1 x2 x3;exact⟨x1,x3⟩
     obtain⟨rfl,rfl⟩:=b6;have f3:=fC 3;have⟨n,d⟩:=h.putClAct C hC (G2 (cl.X.tdiv 1024));have q1:(k:Int)<(M:Int):=oO;have q2:IntKind.i64.wrap ((k:Int)+1)=((k+1:Nat):Int):=wrapN (m:=k+1) oO;have q3:IntKind.i64.wrap (cl.X.tdiv 1024)=G2 (cl.X.tdiv 1024):=J7 _;have hk1:k+1<=M:=o;have q:=Aq n;have b:=Aq (r.trans d);have c3:=Aq f;have b9:=Aq z;clear h r n d rA fA fC G hC hP c1 c2 hj D f C z;go_wp2_with (fail);exact⟨⟨k+1,_,hk1,rfl,q.out,b.out,b9.out,c3.out⟩,by simp only[intOf];omega⟩
    .obtain rfl:M=k:=oO;have b4:t=s1:=by
      rw[HM.out,List.drop_length] at f;exact Ah f
     subst b4;have⟨x1,x2,x3⟩:=Ky _ HC.out;simp only at x1 x2 x3;have⟨_,_,o9,_,_,fe,a2⟩:=h.engF HE.out;have f9:=fe 9;have⟨n,d⟩:=h.putInc HE.out (max 1 (G2 (t.J.tdiv 1024)));have q1:IntKind.i64.wrap (t.J.tdiv 1024)=G2 (t.J.tdiv 1024):=J7 _;have q0:¬((M:Int)<(M:Int)):=oO;obtain⟨t2,P⟩:∃x:St,x={t with J:=max 1 (G2 (t.J.tdiv 1024))}:=⟨_,rfl⟩;have q:Hid (Rep B p t2 S (wr.setCell (ad e 9) (.int .i64 (max 1 (G2 (t.J.tdiv 1024)))))):=Aq (by rw[P];exact n);have b:=Aq (r.trans d);have b2:Hid (Ii t2 (t2.O.length/2)=some s'):=Aq (by rw[P];exact HR.out);clear h r n d f z hk o x1 x2 x3 fe HC HR P;go_upto_region 10 with(fail);go_cut [] (fun wx=>Rep B p t2 S wx/\Step S S w wx)
     case first=>
      obtain⟨Y,hY⟩:∃y,y=G2 (t.J.tdiv 1024):=⟨_,rfl⟩;rw[<-hY] at q b q1;clear hY;by_cases hy:1<Y
      .have U:max 1 Y=Y:=oO;rw[U] at q b;have c6:¬Y<1:=oO;go_wp2_with (fail)
       all_goals(first|(exfalso;omega)|(go_meet;case rel=>exact⟨q.out,b.out⟩))
      .have U:max 1 Y=1:=oO;rw[U] at q b;go_wp2_with (fail)
       all_goals(first|(exfalso;omega)|(go_meet;case rel=>exact⟨q.out,b.out⟩)|(obtain rfl:Y=1:=oO;go_meet;case rel=>exact⟨q.out,b.out⟩))
     case rest=>
      have⟨n,d⟩:=hcut;clear o9 f9 q b q1 q0;have⟨e4,e2,b0,e0,_,a4,a7⟩:=n.orderE HE.out;have Z:=iZ t2.O.length oO;have a9:t2.O.length<=maxLen:=oO;have q:=Aq n;have b:=Aq d;obtain⟨m,hm⟩:∃m,m=t2.O.length/2:=⟨_,rfl⟩;rw[<-hm] at Z b2;have a5:m<=maxLen:=oO;have qm:IntKind.i64.wrap ((m:Int)- 1)=(m:Int)- 1:=by unfold maxLen at a5;exact Bb _ oO
      clear n d b0 a4 a7 hm a9;go_wp2_with (fail);go_loopw [5] (fun v wr=>∃(k:Nat) (t:St),k<=m/\v= .int .i64 ((k:Int)- 1)/\Rep B p t S wr/\Step S S w wr/\Ii t k=some s') (fun v _=>(intOf v+1).toNat)
      case atStart=>exact⟨m,t2,oO,rfl,q.out,b.out,b2.out⟩
      case round=>
       obtain⟨k,t,hk,rfl,h,r,D⟩:=hrel
       cases k with
       |zero=>
        have hs:t=s':=Ah D;subst hs;have HH:=Aq h;have SS:=Aq r;clear h r D;go_wp2_with (fail);go_end0;exact⟨rfl,HH.out,SS.out⟩
       |succ k=>
        unfold Ii at D;split at D
        case h_2=>cases D
        rename_i t' a8;have CD:Hid (Cg 211 #[vP e 0,.int .i64 (k:Int)] wr (Ej B p S wr t')):=Aq (SP h HE.out k _ a8);have HD:=Aq D;have SS:=Aq r;have e1:((k+1:Nat):Int)- 1=(k:Int):=oO;have q1:(0:Int)<=(k:Int):=oO;have q2:IntKind.i64.wrap ((k:Int)- 1)=(k:Int)- 1:=by unfold maxLen at a5;exact Bb _ oO
        rw[e1];clear h r D a8 e1;go_wp2_with (fail)
        (with_reducible refine(CD.out).mono ?_)
        rintro e5 w5 ⟨rfl,h5,a1⟩;have H5:=Aq h5;have b8:=Aq (SS.out.trans a1);clear h5 a1;go_wp2_with (fail);exact⟨⟨k,t',oO,rfl,H5.out,b8.out,HD.out⟩,by simp only[intOf];omega⟩
set_option maxHeartbeats 4000000 in
set_option maxRecDepth 100000 in
theorem Wp {B:Nat} {p:Px} {s i:St} {S:Sl} {w:World} {e u:Nat} (h:Rep B p s S w) (d:S .E= vS e 1 u) (a:O6 s=some i):
  Cg 107 #[vP e 0] w (Ej B p S w i):=by
 unfold O6 at a;simp only at a;obtain⟨j,l⟩:∃j,j=G2 (s.J+G2 (G2 (s.J.tdiv 20)+1)):=⟨_,rfl⟩;rw[<-l] at a;have⟨_,_,C,_,_,q,_⟩:=h.engF d;have f9:=q 9;have⟨m,c⟩:=h.putInc d j;have⟨_,_,k,_,_,_,_⟩:=m.engF d;have q1:IntKind.i64.wrap (s.J.tdiv 20)=G2 (s.J.tdiv 20):=J7 _;have q2:IntKind.i64.wrap (G2 (s.J.tdiv 20)+1)=G2 (G2 (s.J.tdiv 20)+1):=J7 _;have q3:IntKind.i64.wrap (s.J+G2 (G2 (s.J.tdiv 20)+1))=j:=by rw[l];exact J7 _
 have r:=Aq m.drew;have f:=Aq c.drew;have x:=Aq d;simp only at k;clear h d m c q l;by_cases g:Ih<j
 .rw[if_pos g] at a;unfold Ih at g;have z:Hid (∀W,Rep B p {s with J:=j} S W->Cg 205 #[vP e 0] W (Ej B p S W i)):=Aq fun W t=>Pw t x.out a
  clear a;go_enter func107,ntmps107;go_wp2_with (fail);go_region;go_wp2_with (fail)
  (with_reducible refine(z.out _ r.out).mono ?_)
  rintro D A ⟨rfl,o,b⟩;have y:=Aq o;have n:=Aq (f.out.trans b);clear o b;go_wp2_with (fail);go_end0;exact⟨rfl,y.out,n.out⟩
 .rw[if_neg g] at a;unfold Ih at g;have v:=Aq (Ah a);clear a;go_enter func107,ntmps107;go_wp2_with (fail);go_region;go_wp2_with (fail);go_end0;exact⟨rfl,v.out▸r.out,f.out⟩
set_option maxHeartbeats 4000000 in
set_option maxRecDepth 100000 in
theorem bump_any {B:Nat} {p:Px} {s Q:St} {S:Sl} {w:World} {e c0:Nat} (h:Rep B p s S w) (A:S .E= vS e 1 c0) (v:Nat) (b:MT s v=some Q):
  Cg 201 #[vP e 0,.int .i64 v] w (Ej B p S w Q):=by
 unfold MT at b
 cases C:s.X[v]? with
 |none=>rw[C] at b;cases b
 |some a=>
 rw[C] at b;simp only at b;obtain⟨j,U⟩:∃j,j=G2 (a+s.J):=⟨_,rfl⟩;rw[<-U] at b
 cases l:(if Ih<j then Ij {s with X:=s.X.set v j} else some {s with X:=s.X.set v j}) with
 |none=>rw[l] at b;cases b
 |some u=>
 rw[l] at b;simp only at b
 cases L:u.P[v]? with
 |none=>rw[L] at b;cases b
 |some pl=>
 rw[L] at b;simp only at b;have y:v<s.X.length:=(Aa.1 C).1;have⟨g,c,O,e8,c1,c2,rA,fA,le,lg⟩:=h.actA A oO;have⟨_,_,o9,_,_,_,_⟩:=h.engF A;have oa:=rA v a C;have fa:=fA v;have⟨m,d⟩:=h.putAct O v j;have oj:(w.setCell (ad g v) (.int .i64 j)).drew.cell? (ad g v)=some (.int .i64 j):=m.cell .X O (by simp[cont,y]);have G:(w.setCell (ad g v) (.int .i64 j)).drew.cell? (ad e 8)=some (vS g s.X.length c):=(m.cell .E A rfl).trans (by rw[O]);have q0:(v:Int)<(s.X.length:Int):=oO;have q1:IntKind.i64.wrap (a+s.J)=j:=by rw[U];exact J7 _
 have HE:=Aq A;have r:=Aq m.drew;have f:=Aq d.drew;have HR:=Aq b;have HP:=Aq L;have a1:=Aq l;clear h A rA fA O m d U b L l C y c1 c2;go_enter func201,ntmps201;go_wp2_with (fail);go_region;have x:=oj;have n:=G;have m:=r.out;have d:=f.out;clear e8 oa fa o9 oj G r f;generalize(w.setCell (ad g v) (.int .i64 j)).drew=w1 at m d x n⊢;have r:=Aq m;have f:=Aq d;clear m d le lg;go_upto_if 24 with(fail);go_cut [] (fun wx=>Rep B p u S wx/\Step S S w wx)
 case first=>
  have q:=a1.out;by_cases M:Ih<j
  .rw[if_pos M] at q;unfold Ih at M;have CS:Hid (Cg 205 #[vP e 0] w1 (Ej B p S w1 u)):=Aq (Pw r.out HE.out q);clear q;go_wp2_with (fail)
   (with_reducible refine(CS.out).mono ?_)
   rintro e5 w5 ⟨rfl,D,i⟩;have H5:=Aq D;have o:=Aq (f.out.trans i);clear D i;go_wp2_with (fail);go_meet
   case rel=>exact⟨H5.out,o.out⟩
  .rw[if_neg M] at q;unfold Ih at M;have HX:=Aq (Ah q);clear q;go_wp2_with (fail);go_meet
   case rel=>exact⟨HX.out▸r.out,f.out⟩
 case rest=>
  have⟨l,t⟩:=hcut;clear x n r f;have R:v<u.P.length:=(Aa.1 HP.out).1;have⟨gp,cp,Y,a2,a0,Z,rP,fP,le,lp⟩:=l.placeA HE.out oO;have op:=rP v pl HP.out;have q2:(v:Int)<(u.P.length:Int):=oO;have b:=HR.out;have H2:=Aq l;have H:=Aq t;clear l t rP fP Y a0 Z R;by_cases z:0<=pl
  .rw[if_pos z] at b;obtain⟨k,rfl⟩:∃k:Nat,pl=(k:Int):=⟨pl.toNat,oO⟩;have CU:Hid (Cg 204 #[vP e 0,.int .i64 (k:Int)] wc (Ej B p S wc Q)):=Aq (XG H2.out HE.out k _ b);clear b;go_wp2_with (fail)
   (with_reducible refine(CU.out).mono ?_)
   rintro e5 w5 ⟨rfl,D,i⟩;have H5:=Aq D;have o:=Aq (H.out.trans i);clear D i;go_wp2_with (fail);go_end0;exact⟨rfl,H5.out,o.out⟩
  .rw[if_neg z] at b;have HX:=Aq (Ah b);clear b;go_wp2_with (fail);go_end0;exact⟨rfl,HX.out▸H2.out,H.out⟩
end Go.Proofs.YtboflajfckfphaaGreatDoor
namespace Go.Proofs.YtboflajfckfphaaGreatDoor
open Go.RowKit Go
section
variable{P:Program} {l:Array Oper} {Q:Exit->Act->World->Prop} {n:Region.Mode} {S:World->Prop}
def Gives (P:Program) (l:Array Oper) (S:World->Prop) (o:Oper) (v:Value) (a:Act):Prop:=
 Region.wanted o (yielded l a.tmps)=true/\∀w,S w->(execOp a.eval o).run P w= .ok (.value v) w∨
  ∃f b,(execOp a.eval o).run P w= .ok (.enter f b) w/\Calls P f b w fun e c=>e= .returned v/\w=c
variable{i:Nat} {o:Oper} {v:Value} {a:Act} {w:World}
theorem Gives.step {K:Act->World->Prop} (h:Gives P l S o v a) (d:l[i]?=some o) (k:S w) (b:K (a.put o.dst v) w):wpOp P l Q i K a w:=by
 simp only[wpOp,d,h.1,if_true];refine .inl ?_;rcases h.2 w k with e|⟨f,c,e,j⟩
 .simp only[Oper.wp,e,Oper.upon];exact b
 .simp only[Oper.wp,e,Oper.upon];refine j.mono ?_;rintro q p ⟨rfl,rfl⟩;exact b
theorem Gives.same {b:Act} (h:Gives P l S o v a) (d:execOp b.eval o=execOp a.eval o) (c:Region.wanted o (yielded l b.tmps)=Region.wanted o (yielded l a.tmps)):Gives P l S o v b:=by
 refine⟨c.trans h.1,fun w e=>?_⟩;rw[d];exact h.2 w e
variable{m:Oper}
theorem Gives.past {j:Nat} {k:Oper} (Y:l[j]?=some k) (A:m.apart l k=true) (z:∀C b,m.op≠ .select C b) (q:∀C b,k.op≠ .select C b)
  (J:∀c a w,Q (.panic c) (a.put m.dst v) w->Q (.panic c) a w) {K:Act->World->Prop} {a:Act} {w:World} (p:Gives P l S m v a) (h:wpOp P l Q j K (a.put m.dst v) w):
  wpOp P l Q j (fun b R=>Gives P l S m v b/\K (b.put m.dst v) R) a w:=by
 have⟨y,G,D⟩:=Oper.apart_spec A;have e:∀b:Act,Gives P l S m v b->∀u,Gives P l S m v (b.put k.dst u):=fun b Z u=>Z.same (execOp_put m z b k.dst u D) (wanted_put m b k.dst u D)
 have swap:∀u,(a.put k.dst u).put m.dst v=(a.put m.dst v).put k.dst u:=fun u=>Act.put_comm a v u G▸rfl
 simp only[wpOp,Y] at h⊢;rw[wanted_put k a m.dst v y] at h;by_cases U:Region.wanted k (yielded l a.tmps)=true
 .simp only[U,if_true] at h⊢;rcases h with h|h
  .refine .inl ?_;unfold Oper.wp at h⊢;rw[execOp_put k q a m.dst v y] at h
   cases H:(execOp a.eval k).run P w with
   |ok n O=>
    rw[H] at h
    cases n with
    |value u=>exact⟨e a p u,by rw[swap];exact h⟩
    |skip=>exact⟨e a p undef,by rw[swap];exact h⟩
    |defer d=>
     refine⟨e _ (p.same (b:={a with defers:=d::a.defers}) rfl rfl) undef,?_⟩;have e2:({a with defers:=d::a.defers}:Act).put m.dst v={a.put m.dst v with defers:=d::(a.put m.dst v).defers}:=by
      cases m.dst<;>rfl
     rw[<-Act.put_comm _ v undef G,e2];exact h
    |enter f t=>
     simp only[Oper.upon] at h⊢;refine h.mono fun en M s=>?_
     cases en with
     |returned u=>exact⟨e a p u,by rw[swap];exact s⟩
     |panicked c=>exact J _ _ _ s
     |outgrown=>exact s
    |row r t=>
     simp only[Oper.upon] at h⊢;exact h.mono fun u M s=>⟨e a p u,by rw[swap];exact s⟩
    |_=>simp only[Oper.upon] at h
   |halt x O=>
    rw[H] at h
    cases x with
    |panic u=>exact J _ _ _ h
    |_=>simp only[Oper.upon] at h
  .refine .inr ⟨?_,h.2⟩;have B:=h.1;unfold Oper.asks at B⊢;rw[execOp_put k q a m.dst v y] at B;exact B
 .grind
def Ev (P:Program) (n:Region.Mode) (l:Array Oper) (Q:Exit->Act->World->Prop) (S:World->Prop) (L:Nat):Nat->Array Bool->Act->World->Prop
 |0,g,a,w=>Region.ready n l g=[]/\Q .normal a w
 |f+1,g,a,w=>(Region.ready n l g=[]->Q .normal a w)/\
  ∀i∈Region.ready n l g,wpOp P l Q i (fun c b=>(i=L∨S b)/\Ev P n l Q S L f (g.setIfInBounds i true) c b) a w
variable{L:Nat}
theorem Ev.any:∀(f:Nat) {g:Array Bool} {a:Act} {w:World},Ev P n l Q S L f g a w->wpAny P n l Q f g a w
 |0,_,_,_,h=>h
 |f+1,_,_,_,h=>⟨h.1,fun i b=>wpOp_mono (fun _ _ k=>Ev.any f k.2) (h.2 i b)⟩
def UA (n:Region.Mode) (l:Array Oper) (L i:Nat):Bool:=
 match l[L]? with
 |some o=>o.after.any fun e=>Region.binds n e&&e.on==i
 |none=>true
theorem Ev.early {i:Nat} {m:Oper} {v:Value} (hi:l[i]?=some m) (p:∀(j:Nat) (o:Oper) J b,l[j]?=some o->o.op≠ .select J b) (hQ:∀c a w,Q (.panic c) (a.put m.dst v) w->Q (.panic c) a w) (G:UA n l L i=true):
  ∀(f:Nat) (g:Array Bool) (a:Act) (w:World),
   (∀j t,l[j]?=some t->j≠i->g.getD j true=false->(∀e∈t.after,Region.binds n e=true->e.on≠i)->m.apart l t=true)->
   i∈Region.ready n l g->Gives P l S m v a->S w->Ev P n l Q S L f (g.setIfInBounds i true) (a.put m.dst v) w->Ev P n l Q S L (f+1) g a w
 |f,g,a,w,hap,hr,hy,hS,H=>by
  refine⟨fun h=>(by rw[h] at hr;cases hr),fun j hj=>?_⟩;by_cases r:j=i
  .subst r;exact hy.step hi hS ⟨.inr hS,H⟩
  .have u:=ready_mono hj r
   cases f with
   |zero=>
    rw[H.1] at u;cases u
   |succ f=>
    have⟨un,t,s,C⟩:=mem_ready.1 hj;have d:∀e∈t.after,Region.binds n e=true->e.on≠i:=by
     intro e he B a0;have y:=C e he B;have h0:=(mem_ready.1 hr).1;rw[a0] at y;by_cases U:i<g.size
     .rw[AS,DK U] at h0 y;simp at h0 y;rw[h0] at y;cases y
     .rw[AS,CW oO] at y;simp at y
    have Y:j≠L:=by
     intro e;subst e;unfold UA at G;rw[s] at G;simp only at G;have⟨x,hx,B⟩:=Array.any_eq_true'.1 G;simp only[AE,beq_iff_eq] at B;exact d x hx B.1 B.2
    refine wpOp_mono (fun b w2 k=>?_) (Gives.past s (hap j t s r un d) (fun J b=>p i m J b hi) (fun J b=>p j t J b s) hQ hy (H.2 j u));have⟨k1,k2,k3⟩:=k;have Z:i∈Region.ready n l (g.setIfInBounds j true):=ready_mono hr (Ne.symm r);rw[GA _ _ (Ne.symm r)] at k3;have D:S w2:=k2.resolve_left Y;refine⟨.inr D,Ev.early hi p hQ G f _ b w2 ?_ Z k1 D k3⟩;intro q oq O M z R;refine hap q oq O M ?_ R;by_cases A:j=q
    .subst A;exact un
    .rw[getD_set_ne true A] at z;exact z
variable{g:Array Bool}
theorem Ev.take {f:Nat} (b:l[i]?=some m) (j:Region.noSelect l=true) (p:Region.free n l g i=true) (k:(Region.ready n l g).contains i=true)
  (t:UA n l L i=true) (d:Tmp) (q:m.dst=some d) (s:∀c a w,Q (.panic c) (a.put m.dst v) w->Q (.panic c) a w) (r:S w) (e:Gives P l S m v a)
  (h:Ev P n l Q S L f (g.setIfInBounds i true) (a.put (some d) v) w):Ev P n l Q S L (f+1) g a w:=
 Ev.early b (Region.noSelect_spec j) s t f g a w (Region.free_spec b p) (by simpa using k) e r (q.symm▸h)
theorem Ev.one {f:Nat} (r:l[i]?=some m) (c:Region.ready n l g=[i]) (q:(i==L)=false) (p:Region.wanted m (yielded l a.tmps)=true)
  (h:Oper.wp P m a w (fun s b=>S b/\Ev P n l Q S L f (g.setIfInBounds i true) s b) Q):Ev P n l Q S L (f+1) g a w:=by
 refine⟨fun e=>(by rw[c] at e;cases e),fun j d=>?_⟩;rw[c] at d;obtain rfl:j=i:=by simpa using d
 simp only[wpOp,r,p,if_true];exact .inl (Oper.wp_mono (fun _ _ k=>⟨.inr k.1,k.2⟩) h)
theorem Ev.last (q:l[L]?=some m) (c:Region.ready n l g=[L]) (p:Region.wanted m (yielded l a.tmps)=true) (r:Region.ready n l (g.setIfInBounds L true)=[])
  (h:Oper.wp P m a w (fun f b=>Q .normal f b) Q):Ev P n l Q S L 1 g a w:=by
 refine⟨fun e=>(by rw[c] at e;cases e),fun j d=>?_⟩;rw[c] at d;obtain rfl:j=L:=by simpa using d
 simp only[wpOp,q,p,if_true];refine .inl (Oper.wp_mono (fun f b k=>?_) h);refine⟨.inl trivial,⟨r,k⟩⟩
theorem Ev.start {id:Nat} (b:P.follows .mixedOrders=true) (L:Nat) (S:World->Prop) (h:Ev P .any l Q S L l.size (Array.replicate l.size false) a w.drew):(Code.region id l true).wp P Q a w:=
 wp_region_any b (Ev.any _ h)
end
variable{o:Oper} {a:Act}
theorem Pb {P:Program} (w:World) {K:Act->World->Prop} {Q:Exit->Act->World->Prop} (s x:Operand) (t:TypeId)
  (ho:o.op= .call {callee:= .builtin .append,args:=#[s,x],argTypes:=#[t,t]})
  (b:Nat) (e:TypeId) (i:TypeInfo) (z:Value) (bytes:Nat) (Y:P.underlying t=some (.slice e)) (hi:P.info? e=some i) (R:i.zero=some z)
  (j:i.size=1) (G:i.bytes=bytes) (D:z.cells.size=1)
  (v:Value) (n:Nat) (C:List Value) (Z:a.eval s=v) (p:w.ownsRow b e 1 v n C) (O:TypeId) (u:Value) (c:Nat) (h1:u.oneCell'=true)
  (U:a.eval x= vS w.heap.size 1 c)
  (J:n+1<=maxLen) (f:(n+1)*bytes<=140737488355328) (H:b<=w.heap.size)
  (h:∀B A k,k.ownsRow b e 1 (.slice B (n+1) A) (n+1) (C++[u])->w.grownBy k v.ownBlock->(∀g,(Value.slice B (n+1) A).ownBlock=some g->v.ownBlock=some g∨w.heap.size<=g)->K (a.put o.dst (.slice B (n+1) A)) k):
  o.wp P a (w.alloc (.cells #[u] O)) K Q:=by
 refine Kz _ s x t ho b e i z 1 bytes Y hi R j G D oO v n C Z (p.alloc _) _ _ 1 c [u] U (Is w O u) (fun y M=>by simp at M;subst M;exact h1) J f oT ?_;intro v' k q hg r;obtain⟨B,A,rfl⟩:=Cr q;refine h B A k q (DP hg) fun g d=>?_
 rcases r with r|r
 .exact .inl (r▸d)
 .rw[r] at d;injection d with d;simp at d;exact .inr oO
end Go.Proofs.YtboflajfckfphaaGreatDoor
namespace Go.Proofs.YtboflajfckfphaaGreatDoor
open Go.RowKit Bud Go.Proofs.Tryz
def isRow (r:Ro):Prop:=∃k,r= .row k
def Mo (c:Nat):List Int->St->Option St
 |[],s=>some s
 |x::r,s=>match Et s x c with
  |some a=>Mo c r a
  |none=>none
variable{s:St}
theorem Uu {t:St} {x:Int} {c:Nat} (h:Et s x c=some t):t.K=s.K/\t.W.length=s.W.length:=by
 unfold Et at h
 cases a:s.W[EC (-x)]? with
 |none=>rw[a] at h;cases h
 |some r=>grind
variable{B:Nat} {p:Px} {S:Sl} {w:World}
theorem Rep.rowOwn (h:Rep B p s S w) {k:Nat} {a:List Nat} (b:s.W[k]?=some a):w.ownsRow B 237 1 (S (.row k)) a.length (a.map (E6 S)):=by
 have:=h.part (.row k);simp only[cont,b] at this;exact this
theorem Rep.rowE (h:Rep B p s S w) {k:Nat} {row:List Nat} (a:s.W[k]?=some row):∃A c,S (.row k)= .slice A row.length c:=Cr (h.rowOwn a)
set_option maxHeartbeats 4000000 in
set_option maxRecDepth 100000 in
theorem Oi {s':St} {e c0:Nat} (h:Rep B p s S w) (he:S .E= vS e 1 c0) (c:Nat) (A:Gw s c=some s'):
  Cg 197 #[vP e 0,E6 S c] w (Ml B p S w isRow s' (.tuple #[])):=by
 unfold Gw at A
 cases hc:s.K[c]? with
 |none=>rw[hc] at A;cases A
 |some cl=>
 rw[hc] at A;simp only at A;split at A
 case h_2=>cases A
 rename_i x y r hl;have b0:Mo c [x,y] s=some s':=by
  unfold Mo
  cases h1:Et s x c with
  |none=>rw[h1] at A;cases A
  |some s1=>
   rw[h1] at A;simp only at A⊢;unfold Mo;rw[A];rfl
 have⟨gc,cc,hC,hP,o0,_,_,_,_,lc⟩:=h.clA hc;have⟨gl,Q,hL,a5,b7,rL,_,_⟩:=h.litA hc (by rw[hl];simp);rw[hL] at o0;rw[hP];obtain⟨N,hN⟩:∃n,n=cl.l.length:=⟨_,rfl⟩;have e9:2<=N:=by rw[hN,hl];simp
 rw[<-hN] at o0 hL a5;have q0:(2:Int)<=(Q:Int):=oO;have e8:2<=Q:=oO;have HE:=Aq he;have H:=Aq h;have e4:=Aq b0;have HC:=Aq hc;have g0:=Aq hC;have HP:=Aq hP;have HL:=Aq hL;have e2:=Aq hl;have HN:=Aq hN;clear h he b0 hc hC hP hL hl hN rL A a5 b7;go_enter func197,ntmps197;go_wp2_with (fail);go_loopw [5,12] (fun _ i wr=>∃(k:Nat) (t:St) (S':Sl),k<=2/\i= .int .i64 k/\Rep B p t S' wr/\(∀r,¬isRow r->S' r=S r)/\Step S S' w wr/\t.K=s.K/\Mo c (([x,y]:List Int).drop k) t=some s') (fun _ i _=>2-(intOf i).toNat)
 case atStart=>exact⟨0,s,S,oO,rfl,H.out,fun _ _=>rfl,Step.refl _ _,rfl,e4.out⟩
 case round=>
  obtain⟨k,t,S1,hk,rfl,h,hS,st,P,O⟩:=hrel;by_cases hk2:k<2
  .obtain⟨z,Z⟩:∃z,([x,y]:List Int)[k]?=some z:=⟨_,Ab hk2⟩;have hd:([x,y]:List Int).drop k=z::([x,y]:List Int).drop (k+1):=by
    have⟨h1,h2⟩:=Aa.1 Z;rw[Co h1,h2]
   rw[hd] at O;unfold Mo at O
   cases g:Et t z c with
   |none=>rw[g] at O;cases O
   |some t1=>
   rw[g] at O;simp only at O;have D:=Uu g;have a6:cl.l[k]?=some z:=by
    rw[e2.out]
    match k,hk2,Z with
    |0,_,Z=>simpa using Z
    |1,_,Z=>simpa using Z
   have b1:t.K[c]?=some cl:=by rw[P];exact HC.out
   have oz:wr.cell? (ad gl k)=some (.int .i64 z):=h.cell (.lit c) (by rw[hS _ (by rintro⟨_,h⟩;cases h)];exact HL.out) (by simp[cont,b1,a6]);obtain⟨K,hK⟩:∃K,K=EC (-z):=⟨_,rfl⟩;unfold Et at g;rw[<-hK] at g
   cases j:t.W[K]? with
   |none=>rw[j] at g;cases g
   |some a4=>
   rw[j] at g;simp only at g;split at g
   case isFalse=>cases g
   rename_i R;have a7:=Ah g;have b3:K<t.W.length:=(Aa.1 j).1;have a3:S1 .E= vS e 1 c0:=by rw[hS _ (by rintro⟨_,h⟩;cases h)];exact HE.out
   have⟨C,cw,hW,e1,c3,b4,rW,fW,le,lw⟩:=h.watchA a3 oO;have⟨Ar,cr,q⟩:=h.rowE j;have u:=rW K b3;rw[q] at u;have fw:=fW K;have G:=h.rowOwn j;rw[q] at G;have AT:Hid (∀W,Cg 198 #[.int .i64 (-z)] W fun e f=>e= .returned (.int .i64 (K:Int))/\W=f):=Aq fun W=>hK▸QH (-z) (by rw[<-hK];omega) W
   have qz:IntKind.i64.wrap (-z)=-z:=by
    unfold EC at hK;unfold maxLen at b4;refine Bb _ ?_;split at hK<;>omega
   have qk:(k:Int)<2:=oO;have e7:IntKind.i64.wrap ((k:Int)+1)=((k+1:Nat):Int):=wrapN (m:=k+1) (by unfold maxLen;omega);have qK:(K:Int)<(t.W.length:Int):=oO;unfold lim at R;obtain⟨M,hM⟩:∃M,M=a4.length:=⟨_,rfl⟩;rw[<-hM] at u G q R;have⟨i0,c2,c1,b9,b8⟩:=info_parts' Nj;have a2:=h.base;have a8:E6 S1 c= vP gc 0:=by unfold E6;rw[hS _ (by rintro⟨_,h⟩;cases h)];exact HP.out
   have U:∀b,(Value.slice Ar M cr).ownBlock=some b->b≠C:=fun b hb e=>h.apart (.row K) .W b oS (by rw[q];exact hb) (by rw[hW,e];rfl)
   have Y:∀b,(Value.slice Ar M cr).ownBlock=some b->b≠e:=fun b hb e'=>h.apart (.row K) .E b oS (by rw[q];exact hb) (by rw[a3,e'];rfl)
   have HH:=Aq h;have SS:=Aq st;have HS:=Aq hS;have HF:=Aq O;have c5:=Aq a7;have c8:=Aq j;have HW:=Aq hW;have b5:=Aq q;have HM:=Aq hM;have c4:=Aq P;have c9:=Aq a8;have b6:=Aq U;have e6:=Aq Y;have c7:=Aq D;clear h st hS O a7 j hW q hM P a8 U Y rW fW g hd Z a6 b1 a3 hK c3 b4 b3 D;go_wp2_with (fail);have a0:∀o:Obj,(wr.alloc o).cell? (ad e 1)=some (vS C t.W.length cw):=fun o=>(World.cell?_alloc_lt _ _ _ le).trans e1
   have a1:∀o:Obj,(wr.alloc o).cell? (ad C K)=some (.slice Ar M cr):=fun o=>(World.cell?_alloc_lt _ _ _ lw).trans u
   refine Ev.start oK 20 (fun f=>f.cell? (ad e 1)=some (vS C t.W.length cw)/\f.cell? (ad C K)=some (.slice Ar M cr)) ?_;have a:(fun f=>f.cell? (ad e 1)=some (vS C t.W.length cw)/\f.cell? (ad C K)=some (.slice Ar M cr)) wr.drew:=⟨e1,u⟩;refine Ev.take (i:=0) (v:=_) rfl oK oK oK oK 16 rfl (fun _ _ _ h=>h) a ⟨by rfl,fun f d=> .inl (by(try dsimp only at d);go_simp;try(with_reducible rfl))⟩ ?_;simp only[Act.put,Bv,B3,B9];refine Ev.take (i:=1) (v:=_) rfl oK oK oK oK 17 rfl (fun _ _ _ h=>h) a ⟨by rfl,fun f d=> .inl (by(try dsimp only at d);go_simp;try(with_reducible rfl))⟩ ?_;simp only[Act.put,Bv,B3,B9];refine Ev.take (i:=2) (v:=_) rfl oK oK oK oK 18 rfl (fun _ _ _ h=>h) a ⟨by rfl,fun f d=> .inl (by(try dsimp only at d);go_simp;try(with_reducible rfl))⟩ ?_;simp only[Act.put,Bv,B3,B9];refine Ev.take (i:=3) (v:=_) rfl oK oK oK oK 19 rfl (fun _ _ _ h=>h) a ⟨by rfl,fun f d=> .inl (by(try dsimp only at d);go_simp;try(with_reducible rfl))⟩ ?_;simp only[Act.put,Bv,B3,B9];refine Ev.take (i:=4) (v:=_) rfl oK oK oK oK 20 rfl (fun _ _ _ h=>h) a ⟨by rfl,fun f d=> .inl (by(try dsimp only at d);go_simp;try(with_reducible rfl))⟩ ?_;simp only[Act.put,Bv,B3,B9];refine Ev.take (i:=5) (v:=_) rfl oK oK oK oK 21 rfl (fun _ _ _ h=>h) a ⟨by rfl,fun f d=> .inl (by(try dsimp only at d);go_simp;try(with_reducible rfl))⟩ ?_;simp only[Act.put,Bv,B3,B9];refine Ev.take (i:=6) (v:=_) rfl oK oK oK oK 22 rfl (fun _ _ _ h=>h) a ⟨by rfl,fun f d=> .inr ⟨_,_,by(go_simp;try(with_reducible rfl)),AT.out f⟩⟩ ?_;simp only[Act.put,Bv,B3,B9];refine Ev.take (i:=7) (v:=_) rfl oK oK oK oK 23 rfl (fun _ _ _ h=>h) a ⟨by rfl,fun f d=> .inl (by(try dsimp only at d);go_simp;try(with_reducible rfl))⟩ ?_;simp only[Act.put,Bv,B3,B9];refine Ev.take (i:=8) (v:=_) rfl oK oK oK oK 24 rfl (fun _ _ _ h=>h) a ⟨by rfl,fun f d=> .inl (by(try dsimp only at d);go_simp;try(with_reducible rfl))⟩ ?_;simp only[Act.put,Bv,B3,B9];refine Ev.take (i:=9) (v:=_) rfl oK oK oK oK 25 rfl (fun _ _ _ h=>h) a ⟨by rfl,fun f d=> .inl (by(try dsimp only at d);go_simp;try(with_reducible rfl))⟩ ?_;simp only[Act.put,Bv,B3,B9];refine Ev.take (i:=10) (v:=_) rfl oK oK oK oK 26 rfl (fun _ _ _ h=>h) a ⟨by rfl,fun f d=> .inl (by(try dsimp only at d);go_simp;try(with_reducible rfl))⟩ ?_;simp only[Act.put,Bv,B3,B9];refine Ev.take (i:=11) (v:=_) rfl oK oK oK oK 27 rfl (fun _ _ _ h=>h) a ⟨by rfl,fun f d=> .inl (by(try dsimp only at d);go_simp;try(with_reducible rfl))⟩ ?_;simp only[Act.put,Bv,B3,B9];refine Ev.take (i:=12) (v:=_) rfl oK oK oK oK 28 rfl (fun _ _ _ h=>h) a ⟨by rfl,fun f d=> .inl (by(try dsimp only at d);go_simp;try(with_reducible rfl))⟩ ?_;simp only[Act.put,Bv,B3,B9];refine Ev.take (i:=13) (v:=_) rfl oK oK oK oK 29 rfl (fun _ _ _ h=>h) a ⟨by rfl,fun f d=> .inr ⟨_,_,by(go_simp;try(with_reducible rfl)),AT.out f⟩⟩ ?_;simp only[Act.put,Bv,B3,B9];refine Ev.take (i:=14) (v:=_) rfl oK oK oK oK 30 rfl (fun _ _ _ h=>h) a ⟨by rfl,fun f d=> .inl (by(try dsimp only at d);go_simp;try(with_reducible rfl))⟩ ?_;simp only[Act.put,Bv,B3,B9];refine Ev.take (i:=15) (v:=_) rfl oK oK oK oK 31 rfl (fun _ _ _ h=>h) a ⟨by rfl,fun f d=> .inl (by(try dsimp only at d);go_simp;try(with_reducible rfl))⟩ ?_;simp only[Act.put,Bv,B3,B9];refine Ev.take (i:=16) (v:=_) rfl oK oK oK oK 32 rfl (fun _ _ _ h=>h) a ⟨by rfl,fun f d=> .inl (by(try dsimp only at d);go_simp;try(with_reducible rfl))⟩ ?_;simp only[Act.put,Bv,B3,B9];refine Ev.one (i:=17) rfl oK rfl (by rfl) ?_;go_simp;refine Ev.one (i:=18) rfl oK rfl (by rfl)<|Pb wr.drew (.tmp 31) (.tmp 33) _ (by rfl) B 237 i0 _ 8 underlying232 c2 c1 b9 b8 rfl (.slice Ar M cr) M _ (by rfl) G 237 (vP gc 0) 1 rfl (by rfl) (by simp only[maxLen];omega) oO a2 ?_;intro A6 c6 w6 a9 J b2;have y0:=J.cell e1 (fun hh=>e6.out e hh.symm rfl);have y1:=J.cell u (fun hh=>b6.out C hh.symm rfl);have y2:w6.frozen? (ad C K)=false:=(CT (J.block C lw (fun hh=>b6.out C hh.symm rfl))).trans fw;have e0:=Aq a9;have e3:=Aq J;have e5:=Aq b2;clear a9 J b2;refine⟨⟨y0,y1⟩,?_⟩;clear a;have a:(fun f=>f.cell? (ad e 1)=some (vS C t.W.length cw)/\f.cell? (ad C K)=some (.slice Ar M cr)) w6:=⟨y0,y1⟩;simp only[Act.put,Bv,B3,B9];refine Ev.take (i:=19) (v:=_) rfl oK oK oK oK 35 rfl (fun _ _ _ h=>h) a ⟨by rfl,fun f d=> .inl (by(try dsimp only at d);go_simp;try(with_reducible rfl))⟩ ?_;simp only[Act.put,Bv,B3,B9];refine Ev.last rfl oK (by rfl) oK ?_;go_simp;go_wp2_with (fail);have L:=HH.out.drew.pushRow HW.out K a4 c8.out c (.slice A6 (M+1) c6) w6 (by rw[<-HM.out,c9.out];exact e0.out) (by rw[b5.out];exact e3.out) (by rw[b5.out];exact e5.out);rw[c5.out] at L;refine⟨⟨k+1,t1,Dq S1 (.row K) (.slice A6 (M+1) c6),oO,rfl,L.1,fun r A=>?_,SS.out.drew.trans L.2,c7.out.1.trans c4.out,HF.out⟩,by simp only[intOf];omega⟩;rw[CE _ _ (fun hh=>A ⟨K,hh⟩)];exact HS.out r A
  .obtain rfl:2=k:=oO;have HX:=Aq (Ah O);have HH:=Aq h;have SS:=Aq st;have HS:=Aq hS;clear O h st hS P;go_wp2_with (fail);go_end0;exact⟨rfl,S1,HS.out,HX.out▸HH.out,SS.out⟩
theorem Sn:∀(f:Nat) {s t:St} {i:Nat},VE f s i=some t->t.L=s.L/\t.D=s.D
 |0,_,_,_,h=>by cases h
 |f+1,s,t,i,h=>by
  unfold VE at h;split at h
  .grind
  .split at h
   case h_2=>cases h
   split at h
   .injection h with h;subst h;exact⟨rfl,rfl⟩
   .split at h
    case h_2=>cases h
    rename_i a;have b:=Sn f h;unfold H8 at a;split at a
    case h_2=>cases a
    split at a
    .injection a with a;subst a;exact b
    .cases a
   .cases h
def PE (l:Int) (s:St):Option St:=
  let v:=B7 l
  if v<s.F.length/\v<s.V.length/\v<s.Y.length then
   let a:St:={s with F:=s.F.set v (decide (0<l)),V:=s.V.set v none,Y:=s.Y.set v none}
   match a.P[v]? with
   |none=>none
   |some p=>
    if p<0 then
     if lim<=a.O.length then none else
     VE (a.O.length+1) {a with P:=a.P.set v a.O.length,O:=a.O++[v]} a.O.length
    else some a
  else none
theorem Ub (l:Int) (r:List Int) (s:St):I8 (l::r) s=(PE l s).bind (I8 r):=by
 rw[I8,PE];split
 .grind
 .rfl
theorem Uc {l:Int} {s t:St} (h:PE l s=some t):t.L=s.L/\t.D=s.D:=by
 unfold PE at h;simp only at h;split at h
 case isFalse=>cases h
 split at h
 .cases h
 .split at h
  .split at h
   .cases h
   .have a:=Sn _ h;exact a
  .grind
set_option maxHeartbeats 4000000 in
set_option maxRecDepth 100000 in
theorem NY {B:Nat} {p:Px} {s s':St} {S:Sl} {w:World} {e c0:Nat} (h:Rep B p s S w) (he:S .E= vS e 1 c0) (d:Nat) (o:GD s d=some s'):
  Cg 105 #[vP e 0,.int .i64 d] w (Ml B p S w (fun r=>r= .L∨r= .D∨r= .O) s' (.tuple #[])):=by
 unfold GD at o;have⟨A6,c6,i3,e6,le,k7,k8⟩:=h.startsE he;by_cases Z:s.D.length<=d
 .rw[if_pos Z] at o;have HX:=Aq (Ah o);have q1:decide (s.D.length<=d)=true:=by simpa using Z
  have H:=Aq h;go_enter func105,ntmps105;go_wp2_with (fail);go_end0;exact⟨rfl,S,fun _ _=>rfl,HX.out▸H.out,Step.refl _ _⟩
 .rw[if_neg Z] at o
  cases b2:s.D[d]? with
  |none=>rw[b2] at o;cases o
  |some a=>
  rw[b2] at o;simp only at o;by_cases c9:a<=s.L.length
  case neg=>rw[if_neg c9] at o;cases o
  rw[if_pos c9] at o
  cases z:I8 (s.L.drop a) s with
  |none=>rw[z] at o;cases o
  |some s1=>
  rw[z] at o;have HX:=Aq (Ah o);clear o;have q1:decide (s.D.length<=d)=false:=by simpa using Z
  have q2:(d:Int)<(s.D.length:Int):=oO;have⟨gs,cs,e1,l3,_,_,rS,_,_,_⟩:=h.startsA he oO;rw[e1] at i3;obtain⟨rfl,rfl⟩:A6=some (ad gs 0)/\c6=cs:=by grind
  have os:=rS d _ b2;have⟨A5,c5,b6,e5,_,h8,n9⟩:=h.trailE he;obtain⟨m,hm⟩:∃m,s.L.length=a+m:=⟨s.L.length-a,oO⟩;rw[hm] at b6 e5 h8;have g1:0<m->∃gt,A5=some (ad gt 0):=fun c1=>by
   have⟨g,c,h1,_⟩:=h.trailA he oO;rw[b6] at h1;injection h1 with x1;exact⟨g,x1⟩
  have HE:=Aq he;have H:=Aq h;have HU:=Aq z;have HM:=Aq hm;have j5:=Aq b6;have g0:=Aq Z;have m8:=Aq e1;have R:Hid (a+m<=c5):=Aq h8;clear h he z hm b6 rS b2 c9 Z i3 e1 k7 k8;go_enter func105,ntmps105;go_upto_region 2 with(fail);go_cut [27,28,29] (fun j8 j7 j6 wx=>∃A c,j8= .slice A m c/\j7= .int .i64 m/\j6= .int .i64 0/\(∀gt,A5=some (ad gt 0)->0<m->A=some (ad gt a))/\w=wx)
  case first=>
   go_wp2_with (fail)
   .go_meet
    case rel=>
     refine⟨_,_,rfl,rfl,rfl,fun gt hg c1=>?_,rfl⟩;have:=R.out;omega
   .go_meet
    case rel=>
     refine⟨_,_,rfl,rfl,rfl,fun gt hg c1=>?_,rfl⟩;rw[hg];simp only[Bf,Addr.add];split
     .rename_i hz;rw[hz]
     .simp
  case rest=>
   obtain⟨A,c,rfl,rfl,rfl,hA,rfl⟩:=hcut;have n4:=Aq hA;have m2:=Aq g1;clear hA g1 q1 q2 e6 l3 os e5;go_wp2_with (fail);go_loopw [6,7,29] (fun _ _ i wr=>∃(k:Nat) (t:St) (S':Sl),k<=m/\i= .int .i64 k/\Rep B p t S' wr/\(∀r,r≠ .O->S' r=S r)/\Step S S' w wr/\t.L=s.L/\t.D=s.D/\I8 ((s.L.drop a).drop k) t=some s1) (fun _ _ i _=>m-(intOf i).toNat)
   case atStart=>exact⟨0,s,S,oO,rfl,H.out,fun _ _=>rfl,Step.refl _ _,rfl,rfl,HU.out⟩
   case round=>
    obtain⟨k,t,S1,hk,rfl,h,hS,st,a4,a3,z⟩:=hrel;have q:S1 .E= vS e 1 c0:=by rw[hS _ oS];exact HE.out
    by_cases o0:k<m
    .obtain⟨l,hl⟩:∃l,s.L[a+k]?=some l:=⟨_,Ab (by rw[HM.out];omega)⟩;have hd:(s.L.drop a).drop k=l::(s.L.drop a).drop (k+1):=by
      have⟨h1,h2⟩:=Aa.1 hl;rw[List.drop_drop,List.drop_drop,Co h1,h2];rfl
     rw[hd,Ub] at z
     cases f:PE l t with
     |none=>rw[f] at z;cases z
     |some t2=>
     rw[f] at z;simp only[Dh] at z;have g7:=Uc f;obtain⟨gt,rfl⟩:=m2.out oO;have l2:=n4.out gt rfl oO;subst l2;have ol:wr.cell? (ad gt (a+k))=some (.int .i64 l):=h.cell .L (by rw[hS _ oS];exact j5.out) (by simp[cont,a4,hl]);unfold PE at f;simp only at f;split at f
     case isFalse=>cases f
     rename_i hh;have⟨c8,b1,b0⟩:=hh;obtain⟨V,hV⟩:∃V,V=B7 l:=⟨_,rfl⟩;rw[<-hV] at f c8 b1 b0;have⟨gp,cp,hP,l4,m1,m0,rP,fP,k2,lp⟩:=h.phaseA q oO;have⟨gv,cv,b4,e2,l9,l8,rV,fV,_,lv⟩:=h.valueA q oO;have⟨gy,cy,hY,e4,l7,l6,rY,fY,_,ly⟩:=h.whyA q oO;obtain⟨u1,o1⟩:∃u,wr.cell? (ad gp V)=some u:=⟨_,rP V _ (Ab c8)⟩;obtain⟨u2,o2⟩:∃u,wr.cell? (ad gv V)=some u:=⟨_,rV V _ (Ab b1)⟩;obtain⟨u3,o3⟩:∃u,wr.cell? (ad gy V)=some u:=⟨_,rY V _ (Ab b0)⟩;have f1:=fP V;have f2:=fV V;have f3:=fY V;have⟨h1,g4⟩:=h.putPhase hP V (decide (0<l));have⟨h2,a2⟩:=h1.putValue b4 V none;have⟨h3,a1⟩:=h2.putWhy hY V none;obtain⟨u4,o4⟩:∃u,(wr.setCell (ad gp V) (.bool (decide (0<l)))).cell? (ad gv V)=some u:=⟨_,h1.cell .V b4 (j:=V) (u:=v8 (t.V[V])) (by simp[cont,b1])⟩;have f4:(wr.setCell (ad gp V) (.bool (decide (0<l)))).frozen? (ad gv V)=false:=h1.free .V b4 V;obtain⟨u5,o5⟩:∃u,((wr.setCell (ad gp V) (.bool (decide (0<l)))).setCell (ad gv V) (.int .i8 0)).cell? (ad gy V)=some u:=⟨_,h2.cell .Y hY (j:=V) (u:=IS S1 (t.Y[V])) (by simp[cont,b0])⟩;have f5:((wr.setCell (ad gp V) (.bool (decide (0<l)))).setCell (ad gv V) (.int .i8 0)).frozen? (ad gy V)=false:=h2.free .Y hY V;have OF:Hid (∀W,Cg 43 #[.int .i64 l] W fun e w'=>e= .returned (.int .i64 (V:Int))/\W=w'):=Aq fun W=>hV▸FT l (by rw[<-hV];omega) W
     have q1:(V:Int)<(t.F.length:Int):=oO;have q2:(V:Int)<(t.V.length:Int):=oO;have q3:(V:Int)<(t.Y.length:Int):=oO;have q4:(k:Int)<(m:Int):=oO;have q5:IntKind.i64.wrap ((k:Int)+1)=((k+1:Nat):Int):=wrapN (m:=k+1) (by have:=R.out;omega);have q6:0<=(k:Int):=oO;have H3:=Aq h3;have i9:=Aq (st.trans ((g4.trans a2).trans a1));have HS:=Aq hS;have j2:=Aq a4;have j1:=Aq a3;have j0:=Aq z;have e8:=Aq f;have b8:=Aq g7;have y:=Aq q;clear h hS st a4 a3 z f g7 q h1 h2 h3 g4 a2 a1 rP rV rY fP fV fY hP b4 hY m1 m0 l9 l8 l7 l6 c8 b1 b0 hd hl hV;go_wp2_with (
      go_at_call 43
      (with_reducible refine(OF.out _).mono ?_)
      rintro e5 w5 ⟨rfl,rfl⟩)
     go_region;have h4:=H3.out.drew;have v:=i9.out.drew;clear H3 i9 o1 o2 o3 o4 o5 f1 f2 f3 f4 f5 l4 e2 e4 q1 q2 q3 ol k2 lp lv ly;obtain⟨t3,C⟩:∃x:St,x={t with F:=t.F.set V (decide (0<l)),V:=t.V.set V none,Y:=t.Y.set V none}:=⟨_,rfl⟩;replace h4:Rep B p t3 S1 ((((wr.setCell (ad gp V) (.bool (decide (0<l)))).setCell (ad gv V) (.int .i8 0)).setCell (ad gy V) (.pointer none)).drew):=by rw[C];exact h4
     replace v:Step S S1 w ((((wr.setCell (ad gp V) (.bool (decide (0<l)))).setCell (ad gv V) (.int .i8 0)).setCell (ad gy V) (.pointer none)).drew):=v;generalize(((wr.setCell (ad gp V) (.bool (decide (0<l)))).setCell (ad gv V) (.int .i8 0)).setCell (ad gy V) (.pointer none)).drew=w4 at h4 v⊢;have f:=e8.out;rw[<-C] at f;rw[show t.P=t3.P by rw[C],show t.O=t3.O by rw[C]] at f;split at f
     .cases f
     rename_i pl b3;have g8:V<t3.P.length:=(Aa.1 b3).1;have⟨gq,cq,hQ,l5,i6,i5,rQ,fQ,k1,lq⟩:=h4.placeA y.out oO;have op:=rQ V pl b3;have fq:=fQ V;have q1:(V:Int)<(t3.P.length:Int):=oO;by_cases h0:pl<0
     .rw[if_pos h0] at f;by_cases G:lim<=t3.O.length
      case pos=>rw[if_pos G] at f;cases f
      rw[if_neg G] at f;obtain⟨L,hL⟩:∃L,L=t3.O.length:=⟨_,rfl⟩;rw[<-hL] at f G;unfold lim at G;have⟨b9,b7,a8,a9,_,_,_⟩:=h4.orderE y.out;rw[<-hL] at a9 a8;have⟨h5,g3⟩:=h4.putPlace hQ V (L:Int);have H5:=Aq h5.drew;have i7:=Aq (v.trans g3).drew;have HL:=Aq hL;have HQ:=Aq hQ;have m9:=Aq g8;have n6:=Aq a8;have m6:=Aq f;have m7:=Aq C;clear h4 v h5 g3 rQ fQ hQ i6 i5 g8 b3 f e8 hL a8 C;go_wp2_with (fail);go_region;have Q:=H5.out;have c4:=i7.out;clear H5 i7 op fq l5 a9 k1 lq;obtain⟨t4,U⟩:∃x:St,x={t3 with P:=t3.P.set V (L:Int)}:=⟨_,rfl⟩;replace Q:Rep B p t4 S1 ((w4.setCell (ad gq V) (.int .i64 (L:Int))).drew):=by rw[U];exact Q
      generalize(w4.setCell (ad gq V) (.int .i64 (L:Int))).drew=w6 at Q c4⊢;have⟨b9,b7,n,a9,k0,_,_⟩:=Q.orderE y.out;have J:t4.O.length=L:=by rw[U];exact HL.out.symm
      rw[J] at a9 n;have g6:=Q.orderOwn;rw[n,J] at g6;have fe:=(Q.engF y.out).2.2.2.2.2.1 10;have e0:=Q.base;have g9:t4.P[V]?=some (L:Int):=by
       rw[U];exact AD m9.out
      have g5:w6.cell? (ad gq V)=some (.int .i64 (L:Int)):=Q.cell .P HQ.out (by simp[cont,g9]);have i4:w6.cell? (ad e 11)=some (vS gq t3.P.length cq):=(Q.cell .E y.out (j:=11) (u:=S1 .P) rfl).trans (by rw[HQ.out]);have n8:=Cb w6 _ g5;have⟨i0,k9,k5,k4,k3⟩:=info_parts' Ek;have NB:∀b,(Value.slice b9 L b7).ownBlock=some b->b≠e/\b≠gq:=fun b hb=>⟨fun x=>Q.apart .O .E b oS (by rw[n];exact hb) (by rw[y.out,x];rfl),fun x=>Q.apart .O .P b oS (by rw[n];exact hb) (by rw[HQ.out,x];rfl)⟩
      have HN:=Aq NB;have n2:Hid (e≠gq):=Aq fun x=>Q.apart .E .P e oS (by rw[y.out];rfl) (by rw[HQ.out,x];rfl)
      have H6:=Aq Q;have m4:=Aq c4;have j4:=Aq n;have j3:=Aq J;have o6:=Aq U;have CU:Hid (∀W S',Rep B p {t4 with O:=t4.O++[V]} S' W->S' .E= vS e 1 c0->Cg 204 #[vP e 0,.int .i64 (L:Int)] W (Ej B p S' W t2)):=Aq fun W S' hW l1=>XG hW l1 L (L+1) (by
       rw[U];have e3:=m7.out;have e4:=m6.out;rw[e3] at e4⊢;exact e4)
      clear NB Q c4 n J U g9;go_wp2_with (first
       |(refine Hx w6 rfl (.tmp 78) (.tmp 80) _ rfl B 3 i0 _ 8 underlying25 k9 k5 k4 k3 rfl (.slice b9 L b7) L _ (by rfl) g6 3 (.int .i64 (V:Int)) 1 rfl (by rfl) (by simp only[maxLen];omega) oO e0 ?_
         intro A7 c7 w7 h7 a0 i1;have e9:w7.cell? (ad e 10)=some (.slice b9 L b7):=a0.cell a9 (fun hh=>(HN.out e hh.symm).1 rfl);have f9:w7.frozen? (ad e 10)=false:=(CT (a0.block e k0 (fun hh=>(HN.out e hh.symm).1 rfl))).trans fe;have j9:w7.cell? (ad gq V)=some (.int .i64 (L:Int)):=a0.cell g5 (fun hh=>(HN.out gq hh.symm).2 rfl);have n7:(w7.setCell (ad e 10) (.slice A7 (L+1) c7)).cell? (ad gq V)=some (.int .i64 (L:Int)):=(World.cell?_setCell_far w7 (ad e 10) (ad gq V) _ n2.out).trans j9;have n5:w7.cell? (ad e 11)=some (vS gq t3.P.length cq):=a0.cell i4 (fun hh=>(HN.out e hh.symm).1 rfl);have n0:=Aq h7;have n1:=Aq a0;have n3:=Aq i1;clear h7 a0 i1)
       |(go_at_call 204
         have a5:=H6.out.pushOrder y.out V (.slice A7 (L+1) c7) w7 (by rw[j3.out];exact n0.out) (by rw[j4.out];exact n1.out) (by rw[j4.out];exact n3.out)
         (with_reducible refine(CU.out _ _ a5.1 (by rw[CE _ _ oS];exact y.out)).mono ?_)
         rintro e9 w9 ⟨rfl,h9,g2⟩;have H9:=Aq h9;have m3:=Aq ((m4.out.trans a5.2).trans g2);clear h9 g2 a5))
      exact⟨⟨k+1,t2,_,oO,rfl,H9.out,fun r o=>by rw[CE _ _ o];exact HS.out r o,m3.out,b8.out.1.trans j2.out,b8.out.2.trans j1.out,j0.out⟩,by simp only[intOf];omega⟩
     .rw[if_neg h0] at f;have m5:=Aq (Ah f);have H4:=Aq h4;have e7:=Aq v;clear f e8 h4 v rQ fQ hQ i6 i5 b3 C;go_wp2_with (fail);exact⟨⟨k+1,t2,S1,oO,rfl,m5.out▸H4.out,HS.out,e7.out,b8.out.1.trans j2.out,b8.out.2.trans j1.out,j0.out⟩,by simp only[intOf];omega⟩
    .obtain rfl:m=k:=oO;have k6:t=s1:=by
      rw[List.drop_of_length_le (by rw[List.length_drop,HM.out];omega)] at z;exact Ah z
     subst k6;have c2:d<=t.D.length:=by rw[a3];have:=g0.out;omega
     have c3:a<=t.L.length:=by rw[a4,HM.out];omega
     have a7:S1 .L= .slice A5 (a+m) c5:=by rw[hS _ oS];exact j5.out
     have M:S1 .D= vS gs s.D.length c6:=by rw[hS _ oS];exact m8.out
     have e5:wr.cell? (ad e 5)=some (.slice A5 (a+m) c5):=by rw[<-a7];exact h.cell .E q rfl
     have e6:wr.cell? (ad e 6)=some (vS gs s.D.length c6):=by rw[<-M];exact h.cell .E q rfl
     have l0:s.D.length<=c6:=by
      have:=EV (by have:=h.startsOwn;rw[M,a3] at this;exact this);exact this.1
     have⟨h2,a2⟩:=h.cutTrail q a7 a c3;have a6:(Dq S1 .L (.slice A5 a c5)) .E= vS e 1 c0:=by rw[CE _ _ oS];exact q
     have i2:(Dq S1 .L (.slice A5 a c5)) .D= vS gs s.D.length c6:=by rw[CE _ _ oS];exact M
     have⟨h3,a1⟩:=h2.cutStarts a6 i2 d c2;have b5:(Dq (Dq S1 .L (.slice A5 a c5)) .D (vS gs d c6)) .E= vS e 1 c0:=by rw[CE _ _ oS];exact a6
     have⟨h4,v⟩:=h3.putHead b5 a;have fe:=(h.engF q).2.2.2.2.2.1;have f5:=fe 5;have f62:(wr.setCell (ad e 5) (.slice A5 a c5)).frozen? (ad e 6)=false:=(h2.engF a6).2.2.2.2.2.1 6;have f73:((wr.setCell (ad e 5) (.slice A5 a c5)).setCell (ad e 6) (vS gs d c6)).frozen? (ad e 7)=false:=(h3.engF b5).2.2.2.2.2.1 7;obtain⟨u6,x6⟩:∃u,(wr.setCell (ad e 5) (.slice A5 a c5)).cell? (ad e 6)=some u:=⟨_,h2.cell .E a6 (j:=6) rfl⟩;obtain⟨u7,x7⟩:∃u,((wr.setCell (ad e 5) (.slice A5 a c5)).setCell (ad e 6) (vS gs d c6)).cell? (ad e 7)=some u:=⟨_,h3.cell .E b5 (j:=7) rfl⟩;have q1:(a:Int)<=(c5:Int):=by have:=R.out;omega
     have q2:(d:Int)<=(c6:Int):=by have:=g0.out;omega
     have q3:a<=c5:=by have:=R.out;omega
     have q4:d<=c6:=by have:=g0.out;omega
     have H4:=Aq h4.drew;have e7:=Aq (st.trans ((a2.trans a1).trans v)).drew;have HS:=Aq hS;clear h hS st a4 a3 z q h2 a2 h3 a1 h4 v a6 b5 a7 M i2 fe l0 c2 c3;go_wp2_with (fail);go_region;go_end0;refine⟨rfl,_,fun r o=>?_,HX.out▸H4.out,e7.out⟩;rw[CE _ _ (fun x=>o (.inr (.inl x))),CE _ _ (fun x=>o (.inl x))];exact HS.out r (fun x=>o (.inr (.inr x)))
end Go.Proofs.YtboflajfckfphaaGreatDoor
