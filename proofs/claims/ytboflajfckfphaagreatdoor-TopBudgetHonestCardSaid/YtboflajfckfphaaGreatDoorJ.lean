/- A part of the proof of TopBudgetHonest. -/
import Derived.Laws.Wrap64
import Derived.OrdersIn
import Derived.RangeFuncCalls
import Derived.Test.YtboflajfckfphaaGreatDoorA
set_option linter.all false
namespace Go.Refl
inductive Tr (j:Type) where
 |leaf
 |node (v:Option j) (a b c d:Tr j)
noncomputable def Qz {R:Type} (z:R) (s:Nat->R->R) (n:Nat):R:=Nat.rec (motive:=fun _=>R) z s n
noncomputable def Ds {j R:Type} (z:R) (s:j->List j->R->R) (l:List j):R:=List.rec (motive:=fun _=>R) z s l
noncomputable def Hv {R:Type} (z:R) (s:Nat->Unit->R) (n:Nat):R:=Nat.rec (motive:=fun _=>R) z (fun n _=>s n ()) n
noncomputable def Yh {j R:Type} (z:R) (s:j->R) (o:Option j):R:=Option.rec (motive:=fun _=>R) z s o
noncomputable def sw {R:Type} (k:Nat) (a b c d:R):R:=
 Hv a (fun k _=>Hv b (fun k _=>Hv c (fun _ _=>d) k) k) k
noncomputable def Tr.get {j:Type} (t:Tr j):Nat->Option j:=
 Tr.rec (motive:=fun _=>Nat->Option j) (fun _=>none)
  (fun v _ _ _ _ c b a id k=>Hv v (fun k _=>sw (Nat.mod k 4) (c (Nat.div k 4)) (b (Nat.div k 4)) (a (Nat.div k 4)) (id (Nat.div k 4))) k) t
noncomputable def Tr.one {j:Type} (f:Nat):Nat->j->(Tr j->Bool)->Bool:=
 Qz (fun _ _ _=>false)
  (fun _ a k x g=>Hv (g (.node (some x) .leaf .leaf .leaf .leaf))
   (fun k _=>a (Nat.div k 4) x fun t=>sw (Nat.mod k 4) (g (.node none t .leaf .leaf .leaf)) (g (.node none .leaf t .leaf .leaf)) (g (.node none .leaf .leaf t .leaf)) (g (.node none .leaf .leaf .leaf t))) k) f
noncomputable def Tr.set {j:Type} (t:Tr j):Nat->j->(Tr j->Bool)->Bool:=
 Tr.rec (motive:=fun _=>Nat->j->(Tr j->Bool)->Bool) (fun k x g=>Tr.one 20 k x g)
  (fun v a b c d h f e id k x g=>Hv (g (.node (some x) a b c d))
   (fun k _=>sw (Nat.mod k 4) (h (Nat.div k 4) x fun t=>g (.node v t b c d)) (f (Nat.div k 4) x fun t=>g (.node v a t c d))
    (e (Nat.div k 4) x fun t=>g (.node v a b t d)) (id (Nat.div k 4) x fun t=>g (.node v a b c t))) k) t
section tries
variable{j:Type}
theorem E9 {R:Type} (k:Nat) (a b c d:R) (h:k<4):sw k a b c d=if k=0 then a else if k=1 then b else if k=2 then c else d:=by
 match k,h with
 |0,_=>rfl
 |1,_=>rfl
 |2,_=>rfl
 |3,_=>rfl
theorem Tr.get_leaf (k:Nat):(Tr.leaf:Tr j).get k=none:=rfl
theorem Tr.get_succ (v:Option j) (a b c d:Tr j) (k:Nat):(Tr.node v a b c d).get (k+1)=sw (k%4) (a.get (k/4)) (b.get (k/4)) (c.get (k/4)) (d.get (k/4)):=rfl
def Tr.Put (t:Tr j) (k:Nat) (x:j) (a:Tr j):Prop:=∀i,a.get i=if i=k then some x else t.get i
theorem OP (v:Option j) (k:Nat):(Tr.node v .leaf .leaf .leaf .leaf:Tr j).get k=if k=0 then v else none:=by
 cases k with
 |zero=>rfl
 |succ k=>rw[Tr.get_succ,E9 _ _ _ _ _ (D7 _ oO)];simp[Tr.get_leaf]
theorem eP {i k:Nat} (b:i/4=k/4) (a:i%4=k%4):i=k:=oO
theorem Tr.one_spec (f:Nat):∀(k:Nat) (x:j) (g:Tr j->Bool),Tr.one f k x g=true->∃c,g c=true/\Tr.Put .leaf k x c:=by
 induction f with
 |zero=>intro k x g h;exact absurd (show false=true from h) oD
 |succ f l=>
  intro k x g h
  cases k with
  |zero=>exact⟨_,h,fun i=>by rw[OP];rfl⟩
  |succ k=>
   have n:Tr.one f (k/4) x (fun t=>sw (k%4) (g (.node none t .leaf .leaf .leaf)) (g (.node none .leaf t .leaf .leaf)) (g (.node none .leaf .leaf t .leaf)) (g (.node none .leaf .leaf .leaf t)))=true:=h;have⟨c,d,m⟩:=l _ _ _ n;have b:k%4=0∨k%4=1∨k%4=2∨k%4=3:=oO;have a:∀i,c.get i=if i=k/4 then some x else none:=m;rcases b with b|b|b|b<;>rw[b] at d
   .refine⟨_,(show g (.node none c .leaf .leaf .leaf)=true from d),fun i=>?_⟩
    cases i with
    |zero=>rfl
    |succ i=>
     rw[Tr.get_succ,E9 _ _ _ _ _ (D7 _ oO),a];simp[Tr.get_leaf,G9];by_cases e:i=k
     .subst e;simp[b]
     .grind
   .refine⟨_,(show g (.node none .leaf c .leaf .leaf)=true from d),fun i=>?_⟩
    cases i with
    |zero=>rfl
    |succ i=>
     rw[Tr.get_succ,E9 _ _ _ _ _ (D7 _ oO),a];simp[Tr.get_leaf,G9];by_cases e:i=k
     .subst e;simp[b]
     .grind
   .refine⟨_,(show g (.node none .leaf .leaf c .leaf)=true from d),fun i=>?_⟩
    cases i with
    |zero=>rfl
    |succ i=>
     rw[Tr.get_succ,E9 _ _ _ _ _ (D7 _ oO),a];simp[Tr.get_leaf,G9];by_cases e:i=k
     .subst e;simp[b]
     .grind
   .refine⟨_,(show g (.node none .leaf .leaf .leaf c)=true from d),fun i=>?_⟩
    cases i with
    |zero=>rfl
    |succ i=>
     rw[Tr.get_succ,E9 _ _ _ _ _ (D7 _ oO),a];simp[Tr.get_leaf,G9];by_cases e:i=k
     .subst e;simp[b]
     .grind
theorem Tr.set_spec:∀(t:Tr j) (k:Nat) (x:j) (g:Tr j->Bool),t.set k x g=true->∃n,g n=true/\t.Put k x n:=by
 intro t
 induction t with
 |leaf=>intro k x g h;exact Tr.one_spec 20 k x g h
 |node v a b c d s r q p=>
  intro k x g h
  cases k with
  |zero=>
   refine⟨_,h,fun i=>?_⟩
   cases i with
   |zero=>rfl
   |succ i=>simp[Tr.get_succ]
  |succ k=>
   have o:sw (k%4) (a.set (k/4) x fun t=>g (.node v t b c d)) (b.set (k/4) x fun t=>g (.node v a t c d))
    (c.set (k/4) x fun t=>g (.node v a b t d)) (d.set (k/4) x fun t=>g (.node v a b c t))=true:=h
   have f:k%4=0∨k%4=1∨k%4=2∨k%4=3:=oO;rcases f with f|f|f|f<;>rw[f] at o
   .have⟨n,m,l⟩:=s _ _ _ (show a.set (k/4) x (fun t=>g (.node v t b c d))=true from o);refine⟨_,m,fun i=>?_⟩
    cases i with
    |zero=>rfl
    |succ i=>
     rw[Tr.get_succ,Tr.get_succ,E9 _ _ _ _ _ (D7 _ oO),E9 _ _ _ _ _ (D7 _ oO),l];by_cases e:i=k
     .subst e;simp[f]
     .grind
   .have⟨n,m,l⟩:=r _ _ _ (show b.set (k/4) x (fun t=>g (.node v a t c d))=true from o);refine⟨_,m,fun i=>?_⟩
    cases i with
    |zero=>rfl
    |succ i=>
     rw[Tr.get_succ,Tr.get_succ,E9 _ _ _ _ _ (D7 _ oO),E9 _ _ _ _ _ (D7 _ oO),l];by_cases e:i=k
     .subst e;simp[f]
     .grind
   .have⟨n,m,l⟩:=q _ _ _ (show c.set (k/4) x (fun t=>g (.node v a b t d))=true from o);refine⟨_,m,fun i=>?_⟩
    cases i with
    |zero=>rfl
    |succ i=>
     rw[Tr.get_succ,Tr.get_succ,E9 _ _ _ _ _ (D7 _ oO),E9 _ _ _ _ _ (D7 _ oO),l];by_cases e:i=k
     .subst e;simp[f]
     .grind
   .have⟨n,m,l⟩:=p _ _ _ (show d.set (k/4) x (fun t=>g (.node v a b c t))=true from o);refine⟨_,m,fun i=>?_⟩
    cases i with
    |zero=>rfl
    |succ i=>
     rw[Tr.get_succ,Tr.get_succ,E9 _ _ _ _ _ (D7 _ oO),E9 _ _ _ _ _ (D7 _ oO),l];by_cases e:i=k
     .subst e;simp[f]
     .grind
end tries
end Go.Refl
namespace Go.Refl
open Go.RowKit
structure Loc where
 blk:Nat
 shift:Nat
 extra:Nat
structure BJ where
 f:Nat->Option Loc
 nx:Nat
instance:CoeFun BJ (fun _=>Nat->Option Loc):=⟨BJ.f⟩
inductive AV where
 |bad
 |bool (b:Bool)
 |int (k:IntKind) (n:Int)
 |str (s:List Nat)
 |pnil
 |ptr (b o:Nat)
 |snil
 |sl (b o len cap:Nat) (opened:Bool)
 |mnil
 |map (b:Nat)
 |fn (f:FuncId) (first captured:List AV)
 |yield (b:Nat)
 |fnil
 |iface (t:TypeId) (v:AV)
 |inil
 |agg (cs:List AV)
 |tup (vs:List AV)
def Cy:List Nat->Bool
 |[]=>true
 |n::s=>Nat.ble n 255&&Cy s
def bytesOf (s:List Nat):ByteArray:=⟨(s.map UInt8.ofNat).toArray⟩
mutual
def conc (e:BJ):AV->Option Value
 | .bad=>none
 | .bool b=>some (.bool b)
 | .int k n=>some (.int k n)
 | .str s=>if Cy s then some (.string (bytesOf s)) else none
 | .pnil=>some (.pointer none)
 | .ptr b o=>(e b).map fun x=> .pointer (some ⟨x.blk,x.shift+o,none⟩)
 | .snil=>some (.slice none 0 0)
 | .sl b o len cap g=>(e b).map fun x=> .slice (some ⟨x.blk,x.shift+o,none⟩) len (if g then cap+x.extra else cap)
 | .mnil=>some (.map none)
 | .map b=>(e b).map fun x=> .map (some x.blk)
 | .fn f first d=>(B2 e first).bind fun a=>(B2 e d).map fun c=> .func (.func f) a.toArray c.toArray
 | .yield b=>(e b).map fun x=> .func (.yield x.blk) #[] #[]
 | .fnil=>some .nilFunc
 | .iface t v=>(conc e v).map fun v=> .iface t v
 | .inil=>some .nilIface
 | .agg i=>(B2 e i).map fun l=> .agg l.toArray
 | .tup i=>(B2 e i).map fun l=> .tuple l.toArray
def B2 (c:BJ):List AV->Option (List Value)
 |[]=>some []
 |v::vs=>(conc c v).bind fun x=>(B2 c vs).map fun l=>x::l
end
def BJ.sub (d c:BJ):Prop:=∀b x,d b=some x->c b=some x
theorem BJ.sub.refl (c:BJ):c.sub c:=fun _ _ h=>h
structure BJ.le (σ σ':BJ):Prop where
 get:∀b x,σ b=some x->σ' b=some x
 nx:σ.nx<=σ'.nx
 not:∀b,b<σ.nx->σ b=none->σ' b=none
instance{σ σ':BJ}:Coe (σ.le σ') (σ.sub σ'):=⟨BJ.le.get⟩
instance{σ σ':BJ}:CoeFun (σ.le σ') (fun _=>∀b x,σ b=some x->σ' b=some x):=⟨BJ.le.get⟩
theorem BJ.le.refl (c:BJ):c.le c:=⟨fun _ _ h=>h,Ai _,fun _ _ h=>h⟩
theorem BJ.le.trans {a b c:BJ} (h:a.le b) (k:b.le c):a.le c:=
 ⟨fun i x e=>k.get i x (h.get i x e),Bj h.nx k.nx,fun i d e=>k.not i (Bx d h.nx) (h.not i d e)⟩
mutual
theorem EF {g j:BJ} (h:g.sub j):∀(v:AV) (x:Value),conc g v=some x->conc j v=some x
 | .bad,x,e=>by simp[conc] at e
 | .bool _,x,e=>by simpa[conc] using e
 | .int _ _,x,e=>by simpa[conc] using e
 | .str _,x,e=>by simpa[conc] using e
 | .pnil,x,e=>by simpa[conc] using e
 | .ptr b o,x,e=>by
  simp only[conc] at e⊢
  cases d:g b with
  |none=>rw[d] at e;cases e
  |some y=>rw[d] at e;rw[h b y d];exact e
 | .snil,x,e=>by simpa[conc] using e
 | .sl b o l c k,x,e=>by
  simp only[conc] at e⊢
  cases d:g b with
  |none=>rw[d] at e;cases e
  |some y=>rw[d] at e;rw[h b y d];exact e
 | .mnil,x,e=>by simpa[conc] using e
 | .map b,x,e=>by
  simp only[conc] at e⊢
  cases d:g b with
  |none=>rw[d] at e;cases e
  |some y=>rw[d] at e;rw[h b y d];exact e
 | .fn f a c,x,e=>by
  simp[conc] at e⊢
  cases p:B2 g a with
  |none=>rw[p] at e;cases e
  |some s=>
   cases q:B2 g c with
   |none=>rw[p,q] at e;cases e
   |some r=>rw[p,q] at e;rw[EU h a s p,EU h c r q];exact e
 | .yield b,x,e=>by
  simp only[conc] at e⊢
  cases d:g b with
  |none=>rw[d] at e;cases e
  |some y=>rw[d] at e;rw[h b y d];exact e
 | .fnil,x,e=>by simpa[conc] using e
 | .iface t v,x,e=>by
  simp only[conc] at e⊢
  cases i:conc g v with
  |none=>rw[i] at e;cases e
  |some y=>rw[i] at e;rw[EF h v y i];exact e
 | .inil,x,e=>by simpa[conc] using e
 | .agg n,x,e=>by
  simp only[conc] at e⊢
  cases i:B2 g n with
  |none=>rw[i] at e;cases e
  |some y=>rw[i] at e;rw[EU h n y i];exact e
 | .tup n,x,e=>by
  simp only[conc] at e⊢
  cases i:B2 g n with
  |none=>rw[i] at e;cases e
  |some y=>rw[i] at e;rw[EU h n y i];exact e
theorem EU {d c:BJ} (h:d.sub c):∀(v:List AV) (x:List Value),B2 d v=some x->B2 c v=some x
 |[],x,e=>by simpa[B2] using e
 |v::vs,x,e=>by
  simp[B2] at e⊢
  cases g:conc d v with
  |none=>rw[g] at e;cases e
  |some y=>
   cases i:B2 d vs with
   |none=>rw[g,i] at e;cases e
   |some l=>rw[g,i] at e;rw[EF h v y g,EU h vs l i];exact e
end
def VR (c:BJ) (v:AV) (x:Value):Prop:=v= .bad∨conc c v=some x
variable{σ σ':BJ}
theorem VR.mono (h:σ.sub σ') {v:AV} {x:Value} (e:VR σ v x):VR σ' v x:=e.imp id (EF h v x)
theorem II {c:BJ}:∀{a b:List AV} {x y:List Value},B2 c a=some x->B2 c b=some y->B2 c (a++b)=some (x++y)
 |[],b,x,y,h,k=>by simp[B2] at h;subst h;exact k
 |v::a,b,x,y,h,k=>by
  simp[B2] at h
  cases d:conc c v with
  |none=>rw[d] at h;cases h
  |some z=>
   cases e:B2 c a with
   |none=>rw[d,e] at h;cases h
   |some l=>
    rw[d,e] at h;cases h;simp[B2,d,II e k]
theorem BT {c:BJ}:∀{a:List AV} {x:List Value},B2 c a=some x->x.length=a.length
 |[],x,h=>by simp[B2] at h;subst h;rfl
 |v::a,x,h=>by
  simp[B2] at h
  cases d:conc c v with
  |none=>rw[d] at h;cases h
  |some z=>
   cases e:B2 c a with
   |none=>rw[d,e] at h;cases h
   |some l=>rw[d,e] at h;cases h;simp[BT e]
theorem CG {c:BJ}:∀{a:List AV} {x:List Value},B2 c a=some x->∀(i:Nat) v,a[i]?=some v->∃z,x[i]?=some z/\conc c v=some z
 |[],x,h,i,v,e=>by simp at e
 |u::a,x,h,i,v,e=>by
  simp[B2] at h
  cases d:conc c u with
  |none=>rw[d] at h;cases h
  |some z=>
   cases g:B2 c a with
   |none=>rw[d,g] at h;cases h
   |some l=>
    rw[d,g] at h;cases h
    cases i with
    |zero=>simp at e;subst e;exact⟨z,oS,d⟩
    |succ i=>simp at e;simpa using CG g i v e
theorem GL {c:BJ}:∀{a:List AV} {x:List Value},a.length=x.length->(∀(i:Nat) v,a[i]?=some v->∃z,x[i]?=some z/\conc c v=some z)->B2 c a=some x
 |[],[],_,_=>rfl
 |[],_::_,h,_=>by simp at h
 |_::_,[],h,_=>by simp at h
 |u::a,y::x,h,k=>by
  have⟨z,d,g⟩:=k 0 u oS;simp at d;subst d;have:=GL (by simpa using h) (fun i v e=>by simpa using k (i+1) v (by simpa using e));simp[B2,g,this]
inductive AO where
 |cells (cs:List AV) (elem:TypeId) (esz:Nat) (ro:Bool)
 |map (es:List (AV×AV×Nat)) (clock:Nat) (ro:Bool)
 |lmap (es:List (AV×AV))
 |iter (s:List Nat) (pos:Nat)
 |loop (st:LoopState) (pending:Option Code) (tm:Tr AV) (n:Nat) (params:Array Tmp) (assign body:Code) (dfr:Nat)
 |dfr (taken:Bool)
 |tail (b L:Nat)
 |dead
def AO.owns:AO->Bool
 | .tail _ _| .dead=>false
 |_=>true
def AO.ro:AO->Bool
 | .cells _ _ _ r=>r
 | .map _ _ r=>r
 | .lmap _=>true
 |_=>false
structure AH where
 m:Tr AO
 nx:Nat
noncomputable def Dg (c:Tr AV) (t:Nat):AV:=(c.get t).getD (.tup [])
def TQ (d:BJ) (e:Tr AV) (n:Nat) (c:Array Value):Prop:=
 c.size=n/\∀i,VR d (Dg e i) (c.getD i undef)
def Ci (c:BJ):List (AV×AV×Nat)->Option (List MapEntry)
 |[]=>some []
 |(k,v,n)::es=>(conc c k).bind fun k=>(conc c v).bind fun v=>(Ci c es).map fun l=>{key:=k,val:=v,born:=n}::l
def OR (σ:BJ) (x:Loc) (w:World):AO->Prop
 | .cells t e o ro=>∃(arr:Array Value) (q:Nat×Nat),w.heap[x.blk]?=some (.cells arr e q)/\x.shift+t.length+x.extra*o<=arr.size/\
   (∀i v,t[i]?=some v->v= .bad∨∃z,arr[x.shift+i]?=some z/\conc σ v=some z)/\
   (ro=false->q.1=q.2∨arr.size<=q.1)/\(o=0->x.shift=0/\arr.size=t.length)
 | .map l c _=>∃g,w.heap[x.blk]?=some (.map g c)/\Ci σ l=some g.toList
 | .lmap l=>∃g c p,w.heap[x.blk]?=some (.map g c)/\(p.map fun e:AV×AV×Nat=>(e.1,e.2.1)).Perm l/\(l.map Prod.fst).Nodup/\
   ((∀e∈l,∃s,e.1= .str s)∨(∃k,∀e∈l,∃n,e.1= .int k n))/\Ci σ p=some g.toList
 | .iter s r=>x.shift=0/\Cy s=true/\w.heap[x.blk]?=some (.stringIter (bytesOf s) r)
 | .loop A pending u n params assign body d=>∃fn tmps D y,w.heap[x.blk]?=some (.loop {state:=A,pending,fn,tmps,params,assign,body,defers:=D})/\
   TQ σ u n tmps/\σ d=some y/\y.blk=D
 | .dfr j=>w.heap[x.blk]?=some (.deferred (if j then none else some []))
 | .tail b L=>∃y,σ b=some y/\x.blk=y.blk/\(0<x.extra->x.shift=y.shift+L/\x.extra<=y.extra)
 | .dead=>True
structure Ctx where
 G:Nat
 B:Nat
 w0:World
structure BK (C:Ctx) (σ:BJ) (h:AH) (w:World):Prop where
 below:Below C.B C.w0 w
 base:C.B<=w.heap.size
 glob:∀n,n<C.G->σ n=some ⟨n,0,0⟩
 fresh:∀b,h.nx<=b->σ b=none
 nx:σ.nx=h.nx
 obj:∀b o x,h.m.get b=some o->σ b=some x->OR σ x w o
 own:∀b o x,h.m.get b=some o->σ b=some x->o.owns=true->o.ro=false->C.B<=x.blk
 apart:∀b c o p x y,h.m.get b=some o->h.m.get c=some p->σ b=some x->σ c=some y->b≠c->o.owns=true->p.owns=true->x.blk≠y.blk
theorem KX {c:Nat×Nat} {n:Nat} (h:c.1=c.2∨n<=c.1) (i:Nat) (d:i<n):(decide (c.1<=i)&&decide (i<c.2))=false:=by
 rcases h with h|h
 .grind
 .grind
theorem TQ.mono {σ σ':BJ} (h:σ.sub σ') {d:Tr AV} {n:Nat} {c:Array Value} (k:TQ σ d n c):TQ σ' d n c:=
 ⟨k.1,fun i=>(k.2 i).mono h⟩
theorem KA {d c:BJ} (h:d.sub c):∀(i:List (AV×AV×Nat)) (x:List MapEntry),Ci d i=some x->Ci c i=some x
 |[],x,e=>by simpa[Ci] using e
 |(k,v,n)::i,x,e=>by
  simp[Ci] at e⊢
  cases g:conc d k with
  |none=>rw[g] at e;cases e
  |some y=>
   cases j:conc d v with
   |none=>rw[g,j] at e;cases e
   |some z=>
    cases o:Ci d i with
    |none=>rw[g,j,o] at e;cases e
    |some l=>rw[g,j,o] at e;rw[EF h k y g,EF h v z j,KA h i l o];exact e
theorem OR.mono {σ σ':BJ} (h:σ.sub σ') {x:Loc} {w f:World} (d:f.heap[x.blk]?=w.heap[x.blk]?):∀{o:AO},OR σ x w o->OR σ' x f o
 | .cells n e l ro,⟨arr,fz,h1,h2,h3,h4⟩=>⟨arr,fz,d.trans h1,h2,fun i v k=>(h3 i v k).imp id fun⟨z,hz,hc⟩=>⟨z,hz,EF h v z hc⟩,h4⟩
 | .map g c _,⟨es',h1,h2⟩=>⟨es',d.trans h1,KA h g _ h2⟩
 | .lmap g,⟨es',c,es2,h1,h2,h3,h4,h5⟩=>⟨es',c,es2,d.trans h1,h2,h3,h4,KA h es2 _ h5⟩
 | .iter s j,⟨h0,h1,h2⟩=>⟨h0,h1,d.trans h2⟩
 | .loop ..,⟨fn,tmps,D,y,h1,h2,h3,h4⟩=>⟨fn,tmps,D,y,d.trans h1,h2.mono h,h _ _ h3,h4⟩
 | .dfr _,h1=>d.trans h1
 | .tail ..,⟨y,h1,h2⟩=>⟨y,h _ _ h1,h2⟩
 | .dead,_=>trivial
variable{x:Loc} {w:World}
theorem OR.lt:∀{o:AO},o.owns=true->OR σ x w o->x.blk<w.heap.size
 | .cells ..,_,⟨_,_,h1,_⟩=>(Ak.1 h1).1
 | .map ..,_,⟨_,h1,_⟩=>(Ak.1 h1).1
 | .lmap ..,_,⟨_,_,_,h1,_⟩=>(Ak.1 h1).1
 | .iter ..,_,⟨_,_,h1⟩=>(Ak.1 h1).1
 | .loop ..,_,⟨_,_,_,_,h1,_⟩=>(Ak.1 h1).1
 | .dfr _,_,h1=>(Ak.1 h1).1
 | .tail ..,h,_=>absurd h (by simp[AO.owns])
 | .dead,h,_=>absurd h (by simp[AO.owns])
variable{f:World}
theorem OR.ownless (h:σ.sub σ'):∀{o:AO},o.owns=false->OR σ x w o->OR σ' x f o
 | .tail ..,_,⟨y,h1,h2⟩=>⟨y,h _ _ h1,h2⟩
 | .dead,_,_=>trivial
 | .cells ..,h,_=>absurd h (by simp[AO.owns])
 | .map ..,h,_=>absurd h (by simp[AO.owns])
 | .lmap ..,h,_=>absurd h (by simp[AO.owns])
 | .iter ..,h,_=>absurd h (by simp[AO.owns])
 | .loop ..,h,_=>absurd h (by simp[AO.owns])
 | .dfr ..,h,_=>absurd h (by simp[AO.owns])
def BJ.put (d:BJ) (b:Nat) (x:Loc):BJ:=⟨fun c=>if c=b then some x else d c,max d.nx (b+1)⟩
variable{b:Nat}
theorem BJ.le_put (x:Loc) (h:σ b=none) (g:σ.nx<=b):σ.le (σ.put b x):=⟨fun c y e=>by
 unfold BJ.put;by_cases d:c=b
 .subst d;rw[h] at e;cases e
 .simp[d,e],Nat.le_max_left _ _,fun c d e=>by
 unfold BJ.put;have:c≠b:=oO;simp[this,e]⟩
theorem BJ.sub_put (x:Loc) (h:σ b=none):σ.sub (σ.put b x):=fun c y e=>by
 unfold BJ.put;by_cases d:c=b
 .subst d;rw[h] at e;cases e
 .simp[d,e]
def BJ.bump (c:BJ):BJ:=⟨c.f,c.nx+1⟩
theorem BJ.put_same (c:BJ) (b:Nat) (x:Loc):c.put b x b=some x:=by simp[BJ.put]
theorem BJ.put_other {c:Nat} (x:Loc) (h:c≠b):σ.put b x c=σ c:=by simp[BJ.put,h]
theorem BK.drew {C:Ctx} {c:BJ} {h:AH} {w:World} (k:BK C c h w):BK C c h {w with drawn:=w.drawn+1}:=
 ⟨k.below.drew,k.base,k.glob,k.fresh,k.nx,fun b o x e d=>(k.obj b o x e d).mono (BJ.le.refl c) rfl,k.own,k.apart⟩
variable{C:Ctx} {h:AH} {a:AO}
theorem BK.new_at (k:BK C σ h w) (L:h.m.get b=some a) (H:b<h.nx) (G:σ b=none) (shift extra:Nat) (o:Obj)
  (t:OR (σ.put b ⟨w.heap.size,shift,extra⟩) ⟨w.heap.size,shift,extra⟩ (w.alloc o) a):BK C (σ.put b ⟨w.heap.size,shift,extra⟩) h (w.alloc o):=by
 have r:=BJ.sub_put ⟨w.heap.size,shift,extra⟩ G;have old:∀c p y,h.m.get c=some p->σ c=some y->p.owns=true->y.blk<w.heap.size:=fun c p y i g j=>(k.obj c p y i g).lt j
 refine⟨k.below.alloc k.base o,by simp;exact Nat.le_succ_of_le k.base,fun n u=>r n _ (k.glob n u),fun c J=>?_,(by have:=k.nx;simp only[BJ.put];omega),fun c p y i g=>?_,fun c p y i g j l=>?_,fun c d p q y z i g j l s B A=>?_⟩
 .rw[BJ.put_other _ oO];exact k.fresh c J
 .by_cases e:c=b
  .subst e;rw[BJ.put_same] at g;cases g;rw[L] at i;cases i;exact t
  .rw[BJ.put_other _ e] at g;by_cases v:p.owns=true
   .exact(k.obj c p y i g).mono r (Below.heap_alloc w o y.blk (old c p y i g v))
   .exact(k.obj c p y i g).ownless r (by simpa using v)
 .by_cases e:c=b
  .subst e;rw[BJ.put_same] at g;cases g;exact k.base
  .rw[BJ.put_other _ e] at g;exact k.own c p y i g j l
 .by_cases e:c=b
  .subst e;rw[BJ.put_same] at j;cases j;rw[BJ.put_other _ (Ne.symm s)] at l;have:=old d q z g l A;simp;omega
  .rw[BJ.put_other _ e] at j;by_cases D:d=b
   .subst D;rw[BJ.put_same] at l;cases l;have:=old c p y i j B;simp;omega
   .rw[BJ.put_other _ D] at l;exact k.apart c d p q y z i g j l s B A
variable{m:Tr AO}
theorem BK.more (k:BK C σ h w) (q:h.m.Put h.nx a m):BK C σ.bump ⟨m,h.nx+1⟩ w:=by
 have d:∀c p x,m.get c=some p->σ c=some x->h.m.get c=some p:=fun c p x i g=>by
  have j:c≠h.nx:=fun e=>by subst e;rw[k.fresh _ (Ai _)] at g;cases g
  rw[q c,if_neg j] at i;exact i
 exact⟨k.below,k.base,k.glob,fun b r=>k.fresh b (by simp at r;omega),(by simp[BJ.bump,k.nx]),fun b o x i g=>OR.mono (σ:=σ) (σ':=σ.bump) (fun _ _ h=>h) rfl (k.obj b o x (d b o x i g) g),
  fun b o x i g=>k.own b o x (d b o x i g) g,fun b c o p x y i g n l=>k.apart b c o p x y (d b o x i n) (d c p y g l) n l⟩
theorem BK.bump_put (k:BK C σ h w) (x:Loc):σ.bump.put h.nx x=σ.put h.nx x:=by simp[BJ.put,BJ.bump,k.nx]
theorem BK.lp (k:BK C σ h w) (x:Loc):σ.le (σ.put h.nx x):=BJ.le_put x (k.fresh _ (Ai _)) (by rw[k.nx];exact Ai _)
theorem BK.new (k:BK C σ h w) (d:h.m.Put h.nx a m) (shift extra:Nat) (o:Obj)
  (c:∀σ',σ.le σ'->OR σ' ⟨w.heap.size,shift,extra⟩ (w.alloc o) a):BK C (σ.put h.nx ⟨w.heap.size,shift,extra⟩) ⟨m,h.nx+1⟩ (w.alloc o):=
 have e:=k.bump_put ⟨w.heap.size,shift,extra⟩
 e▸(k.more d).new_at (by rw[d];simp) oS (k.fresh _ (Ai _)) shift extra o (e▸c _ (k.lp _))
theorem BK.turn (k:BK C σ h w) {s:AO} (H:h.m.get b=some a) (o:σ b=some x) (G:a.owns=true) (J:a.ro=false)
  {m:Tr AO} (t:h.m.Put b s m) (n:C.B<=x.blk->Below C.B w f) (r:f.heap.size=w.heap.size) (A:∀j,j≠x.blk->f.heap[j]?=w.heap[j]?) (M:s.ro=false) (L:OR σ x f s):BK C σ ⟨m,h.nx⟩ f:=by
 have R:=k.own b a x H o G J;refine⟨k.below.trans (n R),by rw[r];exact k.base,k.glob,k.fresh,k.nx,fun c p y g i=>?_,fun c p y g i v u=>?_,fun c d p q y z g i v u l Q P=>?_⟩
 .by_cases e:c=b
  .subst e;rw[t c,if_pos rfl] at g;cases g;rw[o] at i;cases i;exact L
  .rw[t c,if_neg e] at g;by_cases O:p.owns=true
   .exact(k.obj c p y g i).mono (BJ.le.refl σ) (A _ (k.apart c b p a y x g H i o e O G))
   .exact(k.obj c p y g i).ownless (BJ.le.refl σ) (by simpa using O)
 .by_cases e:c=b
  .grind
  .rw[t c,if_neg e] at g;exact k.own c p y g i v u
 .by_cases e:c=b
  .subst e;rw[o] at v;cases v;by_cases D:d=c
   .exact absurd D.symm l
   .rw[t d,if_neg D] at i;exact k.apart c d a q x z H i o u l G P
  .rw[t c,if_neg e] at g;by_cases D:d=b
   .subst D;rw[o] at u;cases u;exact k.apart c d p a y x g H v o l Q G
   .rw[t d,if_neg D] at i;exact k.apart c d p q y z g i v u l Q P
theorem BK.kill (k:BK C σ h w) (u:h.m.Put b .dead m):BK C σ ⟨m,h.nx⟩ w:=by
 have g:∀c p,m.get c=some p->p≠ .dead->h.m.get c=some p:=fun c p i j=>by
  rw[u c] at i;by_cases e:c=b
  .grind
  .rw[if_neg e] at i;exact i
 have ne:∀{p:AO},p.owns=true->p≠ .dead:=fun h e=>by subst e;simp[AO.owns] at h
 refine⟨k.below,k.base,k.glob,k.fresh,k.nx,fun c p y i j=>?_,fun c p y i j l o=>k.own c p y (g c p i (ne l)) j l o,
  fun c d p q y z i j l o n t s=>k.apart c d p q y z (g c p i (ne t)) (g d q j (ne s)) l o n t s⟩
 by_cases r:p= .dead
 .subst r;trivial
 .exact k.obj c p y (g c p i r) j
end Go.Refl
namespace Go.Refl
structure TD where
 d:TypeDesc
 size:Nat
 bytes:Nat
 zero:AV
inductive ON where
 |mark (b:Nat)
 |call (f:FuncId) (args captured:List AV)
structure AF where
 tm:Tr AV
 n:Nat
 df:List ON
structure Env where
 ty:Tr TD
 fn:Tr Func
 ng:Nat
 hook:FuncId->List AV->AH->(AV->AH->Bool)->Option Bool
 dhook:FuncId->List AV->Bool
noncomputable section
def IK (x:Nat) (g:Nat->Bool):Bool:=Hv (g 0) (fun n _=>g (Nat.succ n)) x
def fi (n:Int) (g:Int->Bool):Bool:=match n with| .ofNat m=>IK m fun m=>g (.ofNat m)| .negSucc m=>IK m fun m=>g (.negSucc m)
theorem Dx (x:Nat) (g:Nat->Bool):IK x g=g x:=by cases x<;>rfl
theorem Iq (n:Int) (g:Int->Bool):fi n g=g n:=by cases n<;>(unfold fi;exact Dx _ _)
def both (a b:Bool):Bool:=cond a b false
theorem BC (a b:Bool):both a b=true↔a=true/\b=true:=by cases a<;>simp[both]
def aj (l:List UInt8):(List Nat->Bool)->Bool:=
 Ds (fun g=>g []) (fun c _ a g=>a fun s=>IK c.toNat fun n=>g (n::s)) l
def nth {a:Type} (l:List a):Nat->Option a:=
 Ds (fun _=>none) (fun x _ b n=>Hv (some x) (fun n _=>b n) n) l
theorem FJ {a:Type}:∀(l:List a) (n:Nat),nth l n=l[n]?
 |[],_=>rfl
 |_::_,0=>rfl
 |_::l,n+1=>FJ l n
def LZ (v:Value) (g:AV->Bool):Bool:=
 match v with
 | .bool b=>g (.bool b)
 | .int k n=>fi n fun n=>g (.int k n)
 | .string s=>aj s.data.toList fun s=>g (.str s)
 | .pointer none=>g .pnil
 | .slice none l c=>Hv (Hv (g .snil) (fun _ _=>false) c) (fun _ _=>false) l
 | .map none=>g .mnil
 | .nilFunc=>g .fnil
 | .nilIface=>g .inil
 | .func (.func f) a c=>match a.toList,c.toList with|[],[]=>g (.fn f [] [])|_,_=>false
 | .tuple d=>match d.toList with|[]=>g (.tup [])|_=>false
 |_=>false
def OO (l:List Value):(List AV->Bool)->Bool:=
 Ds (fun g=>g []) (fun v _ a g=>LZ v fun v=>a fun l=>g (v::l)) l
def cst (v:Value) (g:AV->Bool):Bool:=
 match v with
 | .agg a=>OO a.toList fun l=>g (.agg l)
 |v=>LZ v g
def ev (E:Env) (o:Operand) (tm:Tr AV) (g:AV->Bool):Bool:=
 match o with
 | .tmp t=>Yh (g (.tup [])) (fun v=>g v) (tm.get t)
 | .const v=>cst v g
 | .global n=>cond (Nat.ble (Nat.succ n) E.ng) (g (.ptr n 0)) false
 | .func f=>g (.fn f [] [])
def aF (E:Env) (l:List Operand) (tm:Tr AV):(List AV->Bool)->Bool:=
 Ds (fun g=>g []) (fun o _ a g=>ev E o tm fun v=>a fun l=>g (v::l)) l
def put (a:AF) (b:Option Tmp) (v:AV) (k:AF->Bool):Bool:=
 match b with
 |none=>k a
 |some d=>cond (Nat.ble (Nat.succ d) a.n) (a.tm.set d v fun tm=>k ⟨tm,a.n,a.df⟩) false
def lim:IntKind->Nat
 | .i8=>0x80| .u8=>0x100| .i16=>0x8000| .u16=>0x10000| .i32=>0x80000000| .u32=>0x100000000| .i64=>0x8000000000000000| .u64=>0x10000000000000000
def inR (k:IntKind) (n:Int):Bool:=
 match n with
 | .ofNat m=>Nat.ble (Nat.succ m) (lim k)
 | .negSucc m=>cond k.signed (Nat.ble (Nat.succ m) (lim k)) false
def wr (k:IntKind) (n:Int) (g:AV->Bool):Bool:=
 fi n fun n=>cond (inR k n) (g (.int k n)) (fi (k.wrap n) fun n=>g (.int k n))
def XZ (a b:Int):Bool:=
 match a,b with
 | .ofNat a,.ofNat b=>Nat.ble (Nat.succ a) b
 | .ofNat _,.negSucc _=>false
 | .negSucc _,.ofNat _=>true
 | .negSucc a,.negSucc b=>Nat.ble (Nat.succ b) a
def Qv (a b:Int):Bool:=
 match a,b with
 | .ofNat a,.ofNat b=>Nat.beq a b
 | .negSucc a,.negSucc b=>Nat.beq a b
 |_,_=>false
def eqK (a b:IntKind):Bool:=
 match a,b with
 | .i8,.i8| .i16,.i16| .i32,.i32| .i64,.i64| .u8,.u8| .u16,.u16| .u32,.u32| .u64,.u64=>true
 |_,_=>false
def eL (a:BinOp) (k:IntKind) (x y:Int) (g:AV->Bool):Bool:=
 match a with
 | .add=>wr k (Int.add x y) g
 | .sub=>wr k (Int.sub x y) g
 | .mul=>wr k (Int.mul x y) g
 | .quo=>cond (Qv y 0) false (wr k (Int.tdiv x y) g)
 | .rem=>cond (Qv y 0) false (fi (Int.tmod x y) fun n=>g (.int k n))
 | .and=>wr k (((BitVec.ofInt k.bits x)&&&(BitVec.ofInt k.bits y)).toNat:Nat) g
 | .or=>wr k (((BitVec.ofInt k.bits x)|||(BitVec.ofInt k.bits y)).toNat:Nat) g
 | .xor=>wr k (((BitVec.ofInt k.bits x)^^^(BitVec.ofInt k.bits y)).toNat:Nat) g
 | .eql=>g (.bool (Qv x y))
 | .neq=>g (.bool (not (Qv x y)))
 | .lss=>g (.bool (XZ x y))
 | .leq=>g (.bool (not (XZ y x)))
 | .gtr=>g (.bool (XZ y x))
 | .geq=>g (.bool (not (XZ x y)))
 |_=>false
def mC (a:BinOp) (k:IntKind) (x:Int) (y:Int) (g:AV->Bool):Bool:=
 match y with
 | .ofNat n=>
  match a with
  | .shl=>IK (min n k.bits) fun n=>IK (Nat.pow 2 n) fun p=>wr k (Int.mul x (.ofNat p)) g
  | .shr=>IK (min n k.bits) fun n=>IK (Nat.pow 2 n) fun p=>fi (Int.fdiv x (.ofNat p)) fun n=>g (.int k n)
  |_=>false
 |_=>false
def eqS (a:List Nat):List Nat->Bool:=
 Ds (fun b=>match b with|[]=>true|_=>false)
  (fun x _ c b=>match b with|[]=>false|y::b=>cond (Nat.beq x y) (c b) false) a
def eM (a b:List Nat):(List Nat->Bool)->Bool:=
 Ds (fun g=>g b) (fun x _ c g=>c fun l=>g (x::l)) a
def Hu (b:Bool) (g:Bool->Bool):Bool:=cond b (g true) (g false)
def lC (E:Env) (t:TypeId) (x y:AV) (g:Bool->Bool):Bool:=
 match E.ty.get t with
 |none=>false
 |some a=>
  match a.d,x,y with
  | .bool,.bool p,.bool q=>Hu (cond p q (not q)) g
  | .pointer _,.pnil,.pnil=>g true
  | .pointer _,.pnil,.ptr _ _=>g false
  | .pointer _,.ptr _ _,.pnil=>g false
  | .pointer e,.ptr b o,.ptr c p=>match E.ty.get e with
   |some e=>cond (both (Nat.beq b c) (Nat.ble 1 e.size)) (Hu (Nat.beq o p) g) false
   |none=>false
  | .interface _,.inil,.iface _ _=>g false
  | .interface _,.iface _ _,.inil=>g false
  | .slice _,.snil,.snil=>g true
  | .slice _,.snil,.sl ..=>g false
  | .slice _,.sl ..,.snil=>g false
  | .map _ _,.mnil,.mnil=>g true
  | .map _ _,.mnil,.map _=>g false
  | .map _ _,.map _,.mnil=>g false
  | .func _ _ _,.fnil,.fnil=>g true
  | .func _ _ _,.fnil,.fn ..=>g false
  | .func _ _ _,.fn ..,.fnil=>g false
  |_,_,_=>false
def eN (E:Env) (c:BinOp) (t:TypeId) (f e:Operand) (x y:AV) (g:AV->Bool):Bool:=
 match x,y with
 | .int k a,.int k' b=>
  match c with
  | .shl| .shr=>mC c k a b g
  |op=>cond (eqK k k') (eL c k a b g) false
 | .str a,.str b=>
  match c with
  | .add=>cond (Nat.ble (Nat.add a.length b.length) 0x100000000) (eM a b fun s=>g (.str s)) false
  | .eql=>Hu (eqS a b) fun r=>g (.bool r)
  | .neq=>Hu (eqS a b) fun r=>g (.bool (not r))
  |_=>false
 | .inil,.inil=>
  match f,e with
  | .const _,_|_,.const _=>match E.ty.get t with
   |some {d:= .interface _,..}=>match c with
    | .eql=>g (.bool true)
    | .neq=>g (.bool false)
    |_=>false
   |_=>false
  |_,_=>false
 |x,y=>
  match c with
  | .eql=>lC E t x y fun r=>g (.bool r)
  | .neq=>lC E t x y fun r=>g (.bool (not r))
  |_=>false
def mD (a:UnOp) (x:AV) (g:AV->Bool):Bool:=
 match a,x with
 | .neg,.int k n=>wr k (Int.sub 0 n) g
 | .xor,.int k n=>wr k (((BitVec.ofInt k.bits (if k.signed then-1 else k.max))^^^(BitVec.ofInt k.bits n)).toNat:Nat) g
 | .not,.bool b=>g (.bool (not b))
 |_,_=>false
def isBad:AV->Bool
 | .bad=>true
 |_=>false
def Jv:AV->Bool
 | .bad| .agg _| .tup _=>false
 |_=>true
def Pz {a:Type} (n:Nat):List a->(List a->Bool)->Bool:=
 Qz (fun l g=>g l) (fun _ b l g=>match l with|[]=>g []|_::l=>b l g) n
def MA (n:Nat):List AV->(List AV->Bool)->Bool:=
 Qz (fun _ g=>g [])
  (fun _ a l g=>match l with|[]=>false|v::l=>cond (isBad v) false (a l fun r=>g (v::r))) n
def MB (a:List AV):List AV->(List AV->Bool)->Bool:=
 Ds (fun l g=>g l)
  (fun v _ b l g=>match l with|[]=>false|_::l=>cond (Jv v) (b l fun r=>g (v::r)) false) a
def DL (o:Nat) (a:List AV):List AV->(List AV->Bool)->Bool:=
 Qz (fun l g=>MB a l g)
  (fun _ b l g=>match l with|[]=>false|u::l=>b l fun r=>g (u::r)) o
def cellsOf (v:AV):List AV:=
 match v with
 | .agg a=>a
 |v=>[v]
def Ya (h:AH) (b o n:Nat) (g:List AV->Bool):Bool:=
 match h.m.get b with
 |some (.cells cs _ _ _)=>Pz o cs fun l=>MA n l g
 |_=>false
def aG (h:AH) (b o:Nat) (c:List AV) (g:AH->Bool):Bool:=
 match h.m.get b with
 |some (.cells a e z false)=>DL o c a fun a=>h.m.set b (.cells a e z false) fun m=>g ⟨m,h.nx⟩
 |_=>false
def IL (h:AH) (o:AO) (g:Nat->AH->Bool):Bool:=
 h.m.set h.nx o fun m=>IK (Nat.succ h.nx) fun n=>g h.nx ⟨m,n⟩
def Qw:TypeDesc->Bool
 | .struct _| .array ..=>true
 |_=>false
def RI (E:Env) (t:TypeId) (b o:Nat) (h:AH) (g:AV->Bool):Bool:=
 match E.ty.get t with
 |none=>false
 |some a=>cond (Qw a.d) (Ya h b o a.size fun c=>g (.agg c)) (Ya h b o 1 fun c=>match c with|[v]=>g v|_=>false)
def FK (E:Env) (t:TypeId) (b o:Nat) (v:AV) (h:AH) (g:AH->Bool):Bool:=
 match E.ty.get t with
 |none=>false
 |some a=>cond (Nat.beq (cellsOf v).length a.size) (aG h b o (cellsOf v) g) false
def Yb (E:Env) (t:TypeId) (v:AV) (h:AH) (g:AV->AH->Bool):Bool:=
 match E.ty.get t with
 |none=>false
 |some a=>IL h (.cells (cellsOf v) t 0 false) fun b h=>g (.ptr b 0) h
def UW (E:Env) (t:TypeId) (b:List AV) (o:Nat) (g:AV->Bool):Bool:=
 match E.ty.get t with
 |none=>false
 |some a=>Pz o b fun l=>cond (Qw a.d) (MA a.size l fun l=>g (.agg l)) (match l with|v::_=>g v|[]=>false)
def Ir (E:Env) (a:Nat->(Nat->Nat->Bool)->Bool) (tm:Tr AV) (ps:List (Nat×Operand)):List AV->(List AV->Bool)->Bool:=
 Ds (fun b g=>g b)
  (fun p _ d b g=>ev E p.2 tm fun v=>a p.1 fun c size=>cond (Nat.beq (cellsOf v).length size) (DL c (cellsOf v) b fun b=>d b g) false) ps
def ak (z:List AV) (n:Nat):(List AV->Bool)->Bool:=
 Qz (fun g=>g []) (fun _ a g=>a fun l=>g (z++l)) n
def gz (s:List Nat):(List AV->Bool)->Bool:=
 Ds (fun g=>g []) (fun n _ a g=>a fun l=>g (.int .u8 (.ofNat n)::l)) s
def Jq (l:List AV):(List Nat->Bool)->Bool:=
 Ds (fun g=>g []) (fun v _ a g=>match v with| .int .u8 (.ofNat n)=>cond (Nat.ble n 255) (a fun s=>g (n::s)) false|_=>false) l
def lD (a:List AV):Bool:=Ds true (fun v _ b=>cond (isBad v) false b) a
def UX (E:Env) (b:List Field):Bool:=Ds true (fun f _ a=>match E.ty.get f.type with|some _=>a|none=>false) b
def al (h:AH) (size:Nat) (x:AV) (g:List AV->Nat->Bool):Bool:=
 match x with
 | .snil=>g [] 0
 | .sl b o len _ _=>IK (Nat.mul len size) fun n=>Ya h b o n fun a=>g a len
 | .str s=>cond (Nat.beq size 1) (gz s fun l=>IK s.length fun n=>g l n) false
 |_=>false
def UY (a:List AV):Bool:=Ds true (fun v _ b=>cond (Jv v) b false) a
def Qx (E:Env) (k j:TypeId) (s x:AV) (h:AH) (g:AV->AH->Bool):Bool:=
 match E.ty.get k,E.ty.get j with
 |some {d:= .slice e,..},some x'=>
  match E.ty.get e with
  |none=>false
  |some a=>
   cond (both (both (Nat.ble 1 a.size) (Nat.ble 1 a.bytes)) (both (both (Nat.ble a.bytes 65536) (both (not (isBad a.zero)) (Nat.beq (cellsOf a.zero).length a.size))) (match x'.d with| .int _=>false|_=>true)))
    (al h a.size x fun i n=>
     match s with
     | .snil=>Hv (g .snil h) (fun _ _=>cond (Nat.ble n 1048576) (IL h (.cells i e a.size false) fun b h=>g (.sl b 0 n n true) h) false) n
     | .sl b o len cap f=>
      IK (Nat.add len n) fun c=>
      cond (Nat.ble c cap)
       (Hv (g (.sl b o c cap f) h) (fun _ _=>IK (Nat.add o (Nat.mul len a.size)) fun at_=>aG h b at_ i fun h=>g (.sl b o c cap f) h) n)
       (cond (Nat.ble c 1048576)
        (match h.m.get b with
        |some (.tail b' L)=>cond (both f (both (UY i) (both (Nat.beq (Nat.add cap len) 0) (Nat.beq o 0)))) (match h.m.get b' with
         |some (.cells cs e' z false)=>cond (both (Nat.beq cs.length L) (both (Nat.beq z a.size) (Nat.beq e' e)))
          (h.m.set b' .dead fun m=>m.set b .dead fun m=>IL ⟨m,h.nx⟩ (.cells i e a.size false) fun b h=>g (.sl b 0 c c true) h) false
         |_=>false) false
        |_=>
        IK (Nat.mul len a.size) fun m=>Ya h b o m fun old=>
         cond f
          (match h.m.get b with
           |some (.cells cs e' z false)=>
            cond (both (both (Nat.beq len cap) (both (UY i) (Nat.beq (Nat.add o m) cs.length))) (both (Nat.beq z a.size) (Nat.beq e' e)))
             (h.m.set b .dead fun m=>IL ⟨m,h.nx⟩ (.cells (old++i) e a.size false) fun b h=>g (.sl b 0 c c true) h) false
           |_=>false)
          (IL h (.cells (old++i) e a.size false) fun b h=>g (.sl b 0 c c true) h)) false)
     |_=>false)
    false
 |_,_=>false
def MY (v:AV) (g:Nat->Bool):Bool:=
 match v with
 | .int _ (.ofNat n)=>g n
 |_=>false
def Yc (n:Nat):List Nat->(List Nat->Bool)->Bool:=
 Qz (fun _ g=>g [])
  (fun _ a l g=>match l with|[]=>false|v::l=>a l fun r=>g (v::r)) n
def NF (o:Option AV) (d:Nat) (f:Nat->Bool):Bool:=
 match o with
 |none=>f d
 |some v=>MY v f
def Ma (E:Env) (t:TypeId) (x:AV) (lo i j:Option AV) (h:AH) (g:AV->AH->Bool):Bool:=
 match E.ty.get t with
 |none=>false
 |some a=>
  match a.d,x with
  | .string,.str s=>
   match j with
   |some _=>false
   |none=>IK s.length fun L=>NF i L fun f=>NF lo 0 fun l=>
     cond (both (Nat.ble l f) (Nat.ble f L)) (Pz l s fun s=>IK (Nat.sub f l) fun n=>Yc n s fun s=>g (.str s) h) false
  | .slice e,.snil=>
   match E.ty.get e with
   |none=>false
   |some _=>
   match j with
   |some _=>false
   |none=>NF i 0 fun f=>NF lo 0 fun l=>cond (both (Nat.beq f 0) (Nat.beq l 0)) (g .snil h) false
  | .slice e,.sl b o len cap opened=>
   match E.ty.get e with
   |none=>false
   |some k=>
    match j with
    |none=>
     NF i len fun f=>NF lo 0 fun l=>
      cond (both (Nat.ble l f) (Nat.ble f cap))
       (cond (Nat.beq l cap)
        (cond opened (cond (Nat.beq l 0) (g (.sl b o 0 0 true) h) (match h.m.get b with
         |some (.cells cs _ z false)=>cond (both (Nat.beq (Nat.add o (Nat.mul cap k.size)) cs.length) (Nat.beq z k.size)) (IK cs.length fun L=>IL h (.tail b L) fun b h=>g (.sl b 0 0 0 true) h) false
         |_=>false)) (g (.sl b o 0 0 false) h))
        (IK (Nat.add o (Nat.mul l k.size)) fun o=>IK (Nat.sub f l) fun n=>IK (Nat.sub cap l) fun c=>g (.sl b o n c opened) h)) false
    |some m=>
     match i with
     |none=>false
     |some v=>
      MY m fun m=>MY v fun f=>NF lo 0 fun l=>
       cond (both (both (Nat.ble l f) (Nat.ble f m)) (Nat.ble m cap))
        (cond (Nat.beq m l) (g (.sl b o 0 0 false) h)
         (IK (Nat.add o (Nat.mul l k.size)) fun o=>IK (Nat.sub f l) fun n=>IK (Nat.sub m l) fun c=>g (.sl b o n c false) h)) false
  | .array n e,.ptr b o=>
   match E.ty.get e with
   |none=>false
   |some _=>
   match lo,i,j with
   |none,none,none=>cond (Nat.ble 1 n) (g (.sl b o n n false) h) false
   |_,_,_=>false
  |_,_=>false
def il (a:List AV):List AV->(Bool->Bool)->Bool:=
 Ds (fun b g=>match b with|[]=>g true|_=>false)
  (fun x _ c b g=>match b with
   |[]=>false
   |y::b=>match x,y with
    | .int k m,.int k' n=>cond (eqK k k') (cond (Qv m n) (c b g) (c b fun _=>g false)) false
    |_,_=>false) a
def P0 (x y:AV) (g:Bool->Bool):Bool:=
 match x,y with
 | .int k a,.int k' b=>cond (eqK k k') (Hu (Qv a b) g) false
 | .str a,.str b=>Hu (eqS a b) g
 | .agg a,.agg b=>il a b g
 |_,_=>false
def Jr (k:AV) (b:List (AV×AV×Nat)):(Option AV->Bool)->Bool:=
 Ds (fun g=>g none)
  (fun e _ a g=>P0 k e.1 fun r=>cond r (g (some e.2.1)) (a g)) b
def OM (k v:AV) (a:Nat) (b:List (AV×AV×Nat)):(List (AV×AV×Nat)->Bool->Bool)->Bool:=
 Ds (fun g=>g [(k,v,a)] true)
  (fun e b c g=>P0 k e.1 fun r=>cond r (g ((e.1,v,e.2.2)::b) false) (c fun l new=>g (e::l) new)) b
def Yd (b:List AV):Bool:=Ds true (fun v _ a=>match v with| .int _ _=>a|_=>false) b
def Gr (E:Env) (d:TypeDesc) (k:AV):Bool:=
 match d,k with
 | .int _,.int _ _=>true
 | .string,.str _=>true
 | .array n e,.agg cs=>match E.ty.get e with
  |some {d:= .int _,size:=1,..}=>both (Nat.beq cs.length n) (Yd cs)
  |_=>false
 |_,_=>false
def P1 (b:List (AV×AV)):List (AV×AV×Nat):=Ds [] (fun e _ a=>(e.1,e.2,0)::a) b
def Qy (E:Env) (t:TypeId) (x k:AV) (c:Bool) (h:AH) (g:AV->Bool):Bool:=
 match E.ty.get t with
 |some {d:= .map kt et,..}=>
  match E.ty.get kt,E.ty.get et with
  |some e,some ea=>
   cond (Gr E e.d k)
    ((match x with
     | .mnil=>fun(f:List (AV×AV×Nat)->Bool)=>f []
     | .map b=>fun f=>match h.m.get b with|some (.map a _ _)=>f a|some (.lmap a)=>f (P1 a)|_=>false
     |_=>fun _=>false) fun a=>
     Jr k a fun r=>match r with
      |some v=>cond (isBad v) false (cond c (g (.tup [v,.bool true])) (g v))
      |none=>cond (isBad ea.zero) false (cond c (g (.tup [ea.zero,.bool false])) (g ea.zero))) false
  |_,_=>false
 |_=>false
def Ni (E:Env) (t:TypeId) (x k v:AV) (h:AH) (g:AH->Bool):Bool:=
 match E.ty.get t with
 |some {d:= .map kt _,..}=>
  match E.ty.get kt with
  |some e=>
   cond (both (Gr E e.d k) (not (isBad v)))
    (match x with
     | .map b=>match h.m.get b with
      |some (.map c a false)=>OM k v a c fun c new=>IK (cond new (Nat.succ a) a) fun a=>h.m.set b (.map c a false) fun m=>g ⟨m,h.nx⟩
      |_=>false
     |_=>false) false
  |none=>false
 |_=>false
end
inductive Fs where
 |normal
 |exit (id:Nat)
 |goto (l:Nat)
 |ret
inductive Tk where
 |code (c:Code)
 |scope (body rest:Code)
 |loop (body:Code)
noncomputable section
def OX {d c:Type} (o:Option d) (f:d->(c->Bool)->Bool) (g:Option c->Bool):Bool:=
 match o with
 |none=>g none
 |some a=>f a fun b=>g (some b)
def DC (E:Env) (B:Op) (j:Tr AV) (h:AH) (g:AV->AH->Bool):Bool:=
 (match B with
 | .move x=>fun E j h g=>ev E x j fun v=>g v h
 | .assign x=>fun E j h g=>ev E x j fun v=>g v h
 | .pick c x y=>fun E j h g=>ev E c j fun c=>match c with
  | .bool b=>cond b (ev E x j fun v=>g v h) (ev E y j fun v=>g v h)
  |_=>false
 | .alloc t=>fun E j h g=>match E.ty.get t with
  |some a=>cond (isBad a.zero) false (Yb E t a.zero h g)
  |none=>false
 | .box t x=>fun E j h g=>ev E x j fun v=>cond (isBad v) false (Yb E t v h g)
 | .build t ps=>fun E j h g=>match E.ty.get t with
  |some {d:= .struct fs,zero:= .agg z,..}=>
   cond (UX E fs.toList) (Ir E (fun i f=>match nth fs.toList i with|some A=>(match E.ty.get A.type with|some G=>f A.offset G.size|none=>false)|none=>false) j ps.toList z fun r=>g (.agg r) h) false
  |some {d:= .array _ e,zero:= .agg z,..}=>match E.ty.get e with
   |some q=>Ir E (fun i f=>IK (Nat.mul i q.size) fun o=>f o q.size) j ps.toList z fun r=>g (.agg r) h
   |none=>false
  |_=>false
 | .buildSlice t len ps=>fun E j h g=>match E.ty.get t with
  |some {d:= .slice e,..}=>match E.ty.get e with
   |some q=>cond (both (Nat.ble (Nat.mul len q.size) 65536) (both (not (isBad q.zero)) (Nat.beq (cellsOf q.zero).length q.size))) (ak (cellsOf q.zero) len fun z=>
     Ir E (fun i f=>IK (Nat.mul i q.size) fun o=>f o q.size) j ps.toList z fun r=>IL h (.cells r e q.size false) fun b h=>g (.sl b 0 len len false) h) false
   |none=>false
  |_=>false
 | .insert t m k x=>fun E j h g=>ev E m j fun m=>ev E k j fun k=>ev E x j fun x=>Ni E t m k x h fun h=>g (.tup []) h
 | .load t x=>fun E j h g=>ev E x j fun x=>match x with
  | .ptr b o=>RI E t b o h fun v=>g v h
  |_=>false
 | .store t x v=>fun E j h g=>ev E x j fun x=>ev E v j fun v=>match x with
  | .ptr b o=>FK E t b o v h fun h=>g (.tup []) h
  |_=>false
 | .nilCheck x=>fun E j h g=>ev E x j fun x=>match x with
  | .ptr _ _=>g x h
  |_=>false
 | .binOp B t x y _=>fun E j h g=>ev E x j fun a=>ev E y j fun b=>eN E B t x y a b fun v=>g v h
 | .unOp B _ x=>fun E j h g=>ev E x j fun a=>mD B a fun v=>g v h
 | .convert s d x=>fun E j h g=>ev E x j fun x=>match E.ty.get s,E.ty.get d with
  |some J,some da=>match J.d,da.d,x with
   | .int _,.int k,.int _ n=>wr k n fun v=>g v h
   | .string,.slice e,.str s=>(match E.ty.get e with
    |some {d:= .int .u8,size:=1,..}=>gz s fun r=>IK s.length fun n=>IL h (.cells r e 1 false) fun b h=>g (.sl b 0 n n true) h
    |_=>false)
   | .slice e,.string,.snil=>(match E.ty.get e with
    |some {d:= .int .u8,..}=>g (.str []) h
    |_=>false)
   | .slice e,.string,.sl b o len _ _=>(match E.ty.get e with
    |some {d:= .int .u8,..}=>Ya h b o len fun r=>Jq r fun s=>g (.str s) h
    |_=>false)
   | .slice _,.slice e,.sl b o len cap opened=>(match E.ty.get e with
    |some {d:= .int .u8,..}=>cond (Nat.beq s d) (match h.m.get b with
     |some (.cells _ _ _ false)=>g (.sl b o len cap opened) h
     |_=>false) false
    |_=>false)
   |_,_,_=>false
  |_,_=>false
 | .makeFunc (.func f) first u=>fun E j h g=>aF E first.toList j fun a=>aF E u.toList j fun c=>cond (both (lD a) (lD c)) (g (.fn f a c) h) false
 | .makeMap _ none=>fun E j h g=>IL h (.map [] 0 false) fun b h=>g (.map b) h
 | .makeSlice t l c=>fun E j h g=>ev E l j fun l=>ev E c j fun c=>MY l fun l=>MY c fun c=>match E.ty.get t with
  |some {d:= .slice e,..}=>match E.ty.get e with
   |some q=>cond (both (both (Nat.ble l c) (Nat.ble c 65536)) (both (Nat.ble q.bytes 65536) (both (not (isBad q.zero)) (Nat.beq (cellsOf q.zero).length q.size))))
     (ak (cellsOf q.zero) c fun z=>IL h (.cells z e q.size false) fun b h=>g (.sl b 0 l c false) h) false
   |none=>false
  |_=>false
 | .slice t x lo D C=>fun E j h g=>ev E x j fun x=>OX lo (fun o f=>ev E o j f) fun lo=>OX D (fun o f=>ev E o j f) fun D=>OX C (fun o f=>ev E o j f) fun C=>Ma E t x lo D C h g
 | .fieldAddr t x f=>fun E j h g=>ev E x j fun x=>match E.ty.get t,x with
  |some {d:= .struct fs,..},.ptr b o=>match nth fs.toList f with
   |some A=>match E.ty.get A.type with
    |some G=>cond (Nat.ble 1 G.size) (IK (Nat.add o A.offset) fun o=>g (.ptr b o) h) false
    |none=>false
   |none=>false
  |_,_=>false
 | .field t x f=>fun E j h g=>ev E x j fun x=>match E.ty.get t,x with
  |some {d:= .struct fs,..},.agg r=>match nth fs.toList f with
   |some A=>UW E A.type r A.offset fun v=>g v h
   |none=>false
  |_,_=>false
 | .indexAddr t x i=>fun E j h g=>ev E x j fun x=>ev E i j fun i=>MY i fun i=>match E.ty.get t with
  |some {d:= .array n e,..}=>match x,E.ty.get e with
   | .ptr b o,some q=>cond (Nat.ble (Nat.succ i) n) (IK (Nat.add o (Nat.mul i q.size)) fun o=>g (.ptr b o) h) false
   |_,_=>false
  |some {d:= .slice e,..}=>match x,E.ty.get e with
   | .sl b o len _ _,some q=>cond (Nat.ble (Nat.succ i) len) (IK (Nat.add o (Nat.mul i q.size)) fun o=>g (.ptr b o) h) false
   |_,_=>false
  |_=>false
 | .index t x i=>fun E j h g=>ev E x j fun x=>ev E i j fun i=>MY i fun i=>match E.ty.get t with
  |some {d:= .array n e,..}=>match x,E.ty.get e with
   | .agg r,some q=>cond (Nat.ble (Nat.succ i) n) (IK (Nat.mul i q.size) fun o=>UW E e r o fun v=>g v h) false
   |_,_=>false
  |some {d:= .string,..}=>match x with
   | .str s=>match nth s i with
    |some c=>g (.int .u8 (.ofNat c)) h
    |none=>false
   |_=>false
  |_=>false
 | .lookup t x i L=>fun E j h g=>ev E x j fun x=>ev E i j fun i=>Qy E t x i L h fun v=>g v h
 | .mapUpdate t m k x=>fun E j h g=>ev E m j fun m=>ev E k j fun k=>ev E x j fun x=>Ni E t m k x h fun h=>g (.tup []) h
 | .range t x=>fun E j h g=>ev E x j fun x=>match E.ty.get t,x with
  |some {d:= .string,..},.str s=>IL h (.iter s 0) fun b h=>g (.ptr b 0) h
  |_,_=>false
 | .next x true=>fun E j h g=>ev E x j fun x=>match x with
  | .ptr b 0=>match h.m.get b with
   |some (.iter s pos)=>match nth s pos with
    |some c=>cond (Nat.ble c 127) (h.m.set b (.iter s (Nat.succ pos)) fun m=>IK pos fun p=>g (.tup [.bool true,.int .i64 (.ofNat p),.int .i32 (.ofNat c)]) ⟨m,h.nx⟩) false
    |none=>g (.tup [.bool false]) h
   |_=>false
  |_=>false
 | .extract x i=>fun E j h g=>ev E x j fun x=>match x with
  | .tup H=>match nth H i with
   |some v=>cond (isBad v) false (g v h)
   |none=>false
  |_=>false
 | .call {callee:= .builtin b,args,argTypes}=>fun E j h g=>
  match b,args.toList,argTypes.toList with
  | .len,[x],[t]=>ev E x j fun x=>(match E.ty.get t with
   |some a=>match a.d,x with
    | .string,.str s=>IK s.length fun n=>g (.int .i64 (.ofNat n)) h
    | .array n _,_=>g (.int .i64 (.ofNat n)) h
    | .slice _,.snil=>g (.int .i64 (.ofNat 0)) h
    | .slice _,.sl _ _ n _ _=>g (.int .i64 (.ofNat n)) h
    | .map _ _,.mnil=>g (.int .i64 (.ofNat 0)) h
    | .map _ _,.map b=>(match h.m.get b with|some (.map es _ _)=>IK es.length fun n=>g (.int .i64 (.ofNat n)) h|_=>false)
    |_,_=>false
   |none=>false)
  | .cap,[x],[t]=>ev E x j fun x=>(match E.ty.get t with
   |some a=>match a.d,x with
    | .slice _,.snil=>g (.int .i64 (.ofNat 0)) h
    | .slice _,.sl _ _ _ c false=>g (.int .i64 (.ofNat c)) h
    |_,_=>false
   |none=>false)
  | .max,[x,y],_=>ev E x j fun x=>ev E y j fun y=>(match x,y with
   | .int k a,.int _ b=>g (.int k (cond (XZ a b) b a)) h
   |_,_=>false)
  | .min,[x,y],_=>ev E x j fun x=>ev E y j fun y=>(match x,y with
   | .int k a,.int _ b=>g (.int k (cond (XZ b a) b a)) h
   |_,_=>false)
  | .append,[s,x],[st,xt]=>ev E s j fun s=>ev E x j fun x=>Qx E st xt s x h g
  | .copy,[d,s],[dt,_]=>ev E d j fun d=>ev E s j fun s=>(match E.ty.get dt with
   |some {d:= .slice e,..}=>match E.ty.get e with
    |some q=>match d with
     | .sl b o len _ _=>al h q.size s fun r n=>
      cond (Nat.ble n len) (Hv (g (.int .i64 (.ofNat 0)) h) (fun _ _=>aG h b o r fun h=>g (.int .i64 (.ofNat n)) h) n) false
     |_=>false
    |none=>false
   |_=>false)
  |_,_,_=>false
 |_=>fun _ _ _ _=>false:Env->Tr AV->AH->(AV->AH->Bool)->Bool) E j h g
def Oz (a:Bool) (v:AV) (g:Bool->Bool):Bool:=
 match v with
 | .bool b=>Hu (cond b a (not a)) g
 | .bad=>false
 |_=>g false
def Ga (a:List Oper) (o:Oper) (b:Tr AV) (g:Bool->Bool):Bool:=
 match o.guard with
 |none=>g true
 |some (j,want)=>
  match nth a j with
  |some {dst:=some d,..}=>Yh (g false) (fun v=>Oz want v g) (b.get d)
  |_=>g false
abbrev Rec:=Option Nat->Tk->AF->AH->(Fs->AF->AH->Bool)->Bool
def dP (a:List AV):Nat->Tr AV->(Tr AV->Bool)->Bool:=
 Ds (fun _ t g=>g t) (fun v _ b i t g=>t.set i v fun t=>IK (Nat.succ i) fun i=>b i t g) a
def Xd (E:Env) (c:Tr AV) (h:AH) (e:List ResultVar):(List AV->Bool)->Bool:=
 Ds (fun g=>g [])
  (fun r _ d g=>match r with
   | .tmp t=>ev E (.tmp t) c fun v=>cond (isBad v) false (d fun l=>g (v::l))
   | .cell a t=>ev E (.tmp a) c fun p=>match p with
    | .ptr b o=>RI E t b o h fun v=>d fun l=>g (v::l)
    |_=>false) e
def QO (E:Env) (i:List ON):AH->(AH->Bool)->Bool:=
 Ds (fun h g=>g h)
  (fun d _ e h g=>match d with
   | .mark b=>match h.m.get b with
    |some (.dfr false)=>h.m.set b (.dfr true) fun m=>e ⟨m,h.nx⟩ g
    |_=>false
   | .call f c a=>cond (E.dhook f (c++a)) (e h g) false) i
def kD (E:Env) (c:Func) (e:Fs) (a:AF) (h:AH) (g:AV->AH->Bool):Bool:=
 match e with
 | .normal| .ret=>QO E a.df h fun h=>Xd E a.tm h c.results.toList fun b=>match b with
  |[v]=>g v h
  |b=>g (.tup b) h
 |_=>false
def O4 (E:Env) (rec:Rec) (f:FuncId) (b:List AV) (h:AH) (g:AV->AH->Bool):Bool:=
 match E.hook f b h g with
 |some r=>r
 |none=>match E.fn.get f with
  |none=>false
  |some d=>match d.body with
   |none=>false
   |some c=>cond (Nat.ble b.length d.ntmps) (dP b 0 .leaf fun i=>rec none (.code c) ⟨i,d.ntmps,[]⟩ h fun e a h=>kD E d e a h g) false
def EI:Fs->Option Code
 | .normal=>none
 | .exit id=>some (.exit id)
 | .goto l=>some (.goto l)
 | .ret=>some .ret
def Z4 (n:Nat) (ps:List Nat):List AV->Tr AV->(Tr AV->Bool)->Bool:=
 Ds (fun a t g=>match a with|[]=>g t|_=>false)
  (fun p _ b a t g=>match a with|[]=>false|v::a=>cond (Nat.ble (Nat.succ p) n) (t.set p v fun t=>b a t g) false) ps
def U2 (rec:Rec) (l:Nat) (b:List AV) (h:AH) (g:AV->AH->Bool):Bool:=
 match h.m.get l with
 |some (.loop .ready none tm n ps assign body d)=>
  Z4 n ps.toList b tm fun c=>rec (some l) (.code assign) ⟨c,n,[]⟩ h fun e a h=>match e with
   | .normal=>match h.m.get l with
    |some (.loop .ready none tm n ps assign body' d)=>h.m.set l (.loop .busy none tm n ps assign body' d) fun m=>
     rec (some l) (.code body) a ⟨m,h.nx⟩ fun e a h=>match h.m.get l with
      |some (.loop .busy none tm n ps assign body d)=>
       match e with
       | .normal=>h.m.set l (.loop .ready none tm n ps assign body d) fun m=>g (.bool true) ⟨m,h.nx⟩
       |e=>h.m.set l (.loop .done (EI e) tm n ps assign body d) fun m=>g (.bool false) ⟨m,h.nx⟩
      |_=>false
    |_=>false
   |_=>false
 |_=>false
def U3 (E:Env) (rec:Rec) (f:AV) (b:List AV) (h:AH) (g:AV->AH->Bool):Bool:=
 match f with
 | .fn f first a=>O4 E rec f (first++b++a) h g
 | .yield l=>U2 rec l b h g
 |_=>false
def JN (E:Env) (rec:Rec) (rd:Option Nat) (o:Oper) (a:AF) (h:AH) (k:AF->AH->Bool):Bool:=
 match o.op with
 | .call {callee:= .value f,args,..}=>ev E f a.tm fun f=>aF E args.toList a.tm fun args=>U3 E rec f args h fun v h=>put a o.dst v fun a=>k a h
 | .defer {callee:= .value f,args,..}=>match rd with
  |none=>ev E f a.tm fun f=>aF E args.toList a.tm fun args=>match f with
   | .fn f first b=>put ⟨a.tm,a.n,.call f (first++args) b::a.df⟩ o.dst (.tup []) fun a=>k a h
   |_=>false
  |some _=>false
 |op=>DC E op a.tm h fun v h=>put a o.dst v fun a=>k a h
def Tn (E:Env) (rec:Rec) (rd:Option Nat) (b:List Oper) (l:List Oper):AF->AH->(AF->AH->Bool)->Bool:=
 Ds (fun a h k=>k a h)
  (fun o _ c a h k=>Ga b o a.tm fun w=>cond w (JN E rec rd o a h fun a h=>c a h k) (put a o.dst (.tup []) fun a=>c a h k)) l
def V9 (rec:Rec) (rd:Option Nat) (b:Option Code) (a:AF) (h:AH) (k:Fs->AF->AH->Bool):Bool:=
 match b with
 |none=>k .normal a h
 |some c=>rec rd (.code c) a h k
def QP (E:Env) (rec:Rec) (rd:Option Nat) (f:Operand) (ps:Array Tmp) (c i:Code) (a:AF) (h:AH) (k:Fs->AF->AH->Bool):Bool:=
 (match rd with
  |none=>fun(g:Nat->List ON->AH->Bool)=>IL h (.dfr false) fun b h=>g b [.mark b] h
  |some l=>fun g=>match h.m.get l with
   |some (.loop _ _ _ _ _ _ _ d)=>g d [] h
   |_=>false) fun d mark h=>
 IL h (.loop .ready none a.tm a.n ps c i d) fun l h=>ev E f a.tm fun f=>match f with
  | .fn f first e=>O4 E rec f (first++[AV.yield l]++e) h fun _ h=>
   match h.m.get l with
   |some (.loop st pending tm n ps c i d)=>
    match st with
    | .busy=>false
    |_=>h.m.set l (.loop .exhausted pending tm n ps c i d) fun m=>V9 rec rd pending ⟨a.tm,a.n,mark++a.df⟩ ⟨m,h.nx⟩ k
   |_=>false
  |_=>false
def Mu (rec:Rec) (rd:Option Nat) (b:Code) (k:Fs->AF->AH->Bool) (e:Fs) (a:AF) (h:AH):Bool:=
 match e with
 | .goto l=>match findLabel b l with
  |some c=>rec rd (.scope b c) a h k
  |none=>k (.goto l) a h
 |e=>k e a h
def dQ (E:Env) (drawn:Rec->Option Nat->List Oper->AF->AH->(AF->AH->Bool)->Bool) (rec:Rec):Rec:=
 fun rd t a h k=>
 match t with
 | .code c=>
  (match c with
  | .skip=>k .normal a h
  | .label _=>k .normal a h
  | .region _ g false=>Tn E rec rd g.toList g.toList a h fun a h=>k .normal a h
  | .region _ g true=>drawn rec rd g.toList a h fun a h=>k .normal a h
  | .seq x y=>rec rd (.code x) a h fun e a h=>match e with
   | .normal=>rec rd (.code y) a h k
   |e=>k e a h
  | .cond c x y=>ev E c a.tm fun c=>match c with
   | .bool b=>cond b (rec rd (.code x) a h k) (rec rd (.code y) a h k)
   |_=>false
  | .block id b=>rec rd (.code b) a h fun e a h=>match e with
   | .exit i=>cond (Nat.beq i id) (k .normal a h) (k (.exit i) a h)
   |e=>k e a h
  | .loop b=>rec rd (.loop b) a h k
  | .rangeFunc f ps j d=>QP E rec rd f ps j d a h k
  | .exit id=>k (.exit id) a h
  | .scope b=>rec rd (.code b) a h fun e a h=>Mu rec rd b k e a h
  | .goto l=>k (.goto l) a h
  | .ret=>k .ret a h
  | .refuse _=>false)
 | .scope d m=>rec rd (.code m) a h fun e a h=>Mu rec rd d k e a h
 | .loop b=>rec rd (.code b) a h fun e a h=>match e with
  | .normal=>rec rd (.loop b) a h k
  |e=>k e a h
def run (E:Env) (drawn:Rec->Option Nat->List Oper->AF->AH->(AF->AH->Bool)->Bool) (n:Nat):Rec:=
 Qz (fun _ _ _ _ _=>false) (fun _ a=>dQ E drawn a) n
end
end Go.Refl
namespace Go.Refl
open Go.RowKit
section
structure Em (P:Program) (E:Env) (C:Ctx):Prop where
 ng:E.ng=C.G
 ty:∀t a,E.ty.get t=some a->∃i,P.info? t=some i/\P.underlying t=some a.d/\i.size=a.size/\i.bytes=a.bytes/\
  (isBad a.zero=false->∃z,i.zero=some z/\∀d,conc d a.zero=some z)
 fn:∀f x,E.fn.get f=some x->P.funcs[f]?=some x/\(x.name== "runtime.NumGoroutine")=false
section types
variable{P:Program} {E:Env} {C:Ctx} (c:Em P E C) {t:TypeId} {a:TD} (h:E.ty.get t=some a) (w:World)
include c h
theorem Cq:(underlying t).run P w= .ok a.d w:=by
 have⟨i,k,e,j,g,f⟩:=c.ty t a h;simp[underlying,e]
theorem Cs:(sizeOf t).run P w= .ok a.size w:=by
 have⟨i,f,k,e,j,g⟩:=c.ty t a h;simp[sizeOf,typeInfo,f,e]
theorem PU:∃i,(typeInfo t).run P w= .ok i w/\i.bytes=a.bytes:=by
 have⟨i,f,k,j,e,g⟩:=c.ty t a h;exact⟨i,by simp[typeInfo,f],e⟩
theorem I3:(isAgg t).run P w= .ok (Qw a.d) w:=by
 simp[isAgg,Ay,Cq c h,Am];cases a.d<;>rfl
theorem Ot (g:isBad a.zero=false):∃z,(zeroValue t).run P w= .ok z w/\∀d,conc d a.zero=some z:=by
 have⟨i,k,p,m,l,j⟩:=c.ty t a h;have⟨z,f,e⟩:=j g;exact⟨z,by simp[zeroValue,typeInfo,k,f],e⟩
end types
variable{x:Bool}
theorem Ex {b:Bool} {y:Bool} (h:cond b x y=true):(b=true/\x=true)∨(b=false/\y=true):=by cases b<;>simp_all
theorem Bs {b:Bool} (h:cond b x false=true):b=true/\x=true:=by cases b<;>simp_all
theorem Eh {b:Bool} (h:cond b false x=true):b=false/\x=true:=by cases b<;>simp_all
variable{b:Nat}
theorem ble_eq {a:Nat} (h:Nat.ble a b=true):a<=b:=Bn h
theorem Gv {a:Nat} (h:Nat.ble (Nat.succ a) b=true):a<b:=Bn h
theorem beq_eq {a:Nat} (h:Nat.beq a b=true):a=b:=Bh h
theorem KG (l:List UInt8):Cy (l.map UInt8.toNat)=true:=by
 induction l with
 |nil=>rfl
 |cons c l e=>
  have:=Nat.le_of_lt_succ c.toNat_lt;simp[Cy,e,this]
theorem bytesOf_map (s:ByteArray):bytesOf (s.data.toList.map UInt8.toNat)=s:=by
 have⟨⟨l⟩⟩:=s;unfold bytesOf;have:(UInt8.ofNat∘UInt8.toNat)=id:=by funext c;simp
 simp[this]
theorem PW:∀(l:List UInt8) (g:List Nat->Bool),aj l g=true->g (l.map UInt8.toNat)=true
 |[],g,h=>h
 |c::l,g,h=>by
  have e:=h;have:=PW l _ e;rw[Dx] at this;exact this
theorem PX (v:Value) (g:AV->Bool) (h:LZ v g=true):∃a,g a=true/\∀d,conc d a=some v:=by
 unfold LZ at h;split at h
 .exact⟨_,h,fun d=>rfl⟩
 .rw[Iq] at h;exact⟨_,h,fun d=>rfl⟩
 .rename_i s;have:=PW _ _ h;refine⟨_,this,fun d=>?_⟩;simp[conc,KG,if_true];rw[bytesOf_map]
 .exact⟨_,h,fun d=>rfl⟩
 .rename_i l c
  cases l with
  |zero=>
   cases c with
   |zero=>exact⟨_,h,fun d=>rfl⟩
   |succ c=>exact absurd (show false=true from h) oD
  |succ l=>exact absurd (show false=true from h) oD
 .exact⟨_,h,fun d=>rfl⟩
 .exact⟨_,h,fun d=>rfl⟩
 .exact⟨_,h,fun d=>rfl⟩
 .rename_i f a c;split at h
  .rename_i q p;refine⟨_,h,fun d=>?_⟩;have j:a=#[]:=by simpa using q
   have i:c=#[]:=by simpa using p
   subst j;subst i;simp[conc,B2]
  .cases h
 .rename_i k;split at h
  .rename_i m;have e:k=#[]:=by simpa using m
   subst e;exact⟨_,h,fun d=>by simp[conc,B2]⟩
  .cases h
 .cases h
theorem PZ:∀(l:List Value) (g:List AV->Bool),OO l g=true->∃a,g a=true/\∀d,B2 d a=some l
 |[],g,h=>⟨[],h,fun d=>rfl⟩
 |v::l,g,h=>by
  have k:LZ v (fun v=>OO l fun l=>g (v::l))=true:=h;have⟨a,j,f⟩:=PX v _ k;have⟨b,i,e⟩:=PZ l _ j;exact⟨_,i,fun d=>by simp[B2,f d,e d]⟩
theorem Zl (v:Value) (g:AV->Bool) (h:cst v g=true):∃a,g a=true/\∀d,conc d a=some v:=by
 unfold cst at h;split at h
 .have⟨a,f,e⟩:=PZ _ _ h;exact⟨_,f,fun d=>by simp[conc,e d]⟩
 .exact PX v g h
structure Rc (d:BJ) (tm:Tr AV) (ρ:Operand->Value):Prop where
 tmp:∀t,VR d (Dg tm t) (ρ (.tmp t))
 const:∀v,ρ (.const v)=v
 global:∀n,ρ (.global n)= .pointer (some ⟨n,0,none⟩)
 func:∀f,ρ (.func f)= .func (.func f) #[] #[]
theorem BH {P:Program} {E:Env} {C:Ctx} (c:Em P E C) {o:Operand} {k:Tr AV} {g:AV->Bool} (h:ev E o k g=true):
  ∃v,g v=true/\∀d j w i,BK C d j w->Rc d k i->VR d v (i o):=by
 unfold ev at h;split at h
 .rename_i t;refine⟨Dg k t,?_,fun d j w i _ e=>e.tmp t⟩;unfold Dg
  cases l:k.get t with
  |none=>rw[l] at h;exact h
  |some v=>rw[l] at h;exact h
 .rename_i v;have⟨a,q,p⟩:=Zl v g h;exact⟨a,q,fun d j w i _ e=> .inr (by rw[e.const];exact p d)⟩
 .rename_i n;have⟨s,r⟩:=Bs h;refine⟨_,r,fun d j w i m e=> .inr ?_⟩;rw[e.global];simp[conc,m.glob n (by rw[<-c.ng];exact Gv s)]
 .rename_i f;exact⟨_,h,fun d j w i _ e=> .inr (by rw[e.func];simp[conc,B2])⟩
theorem Hi {P:Program} {E:Env} {C:Ctx} (c:Em P E C) {k:Tr AV}:∀{l:List Operand} {g:List AV->Bool},aF E l k g=true->
  ∃f,g f=true/\f.length=l.length/\∀d r w j,BK C d r w->Rc d k j->∀(i:Nat) v o,f[i]?=some v->l[i]?=some o->VR d v (j o)
 |[],g,h=>⟨[],h,rfl,fun _ _ _ _ _ _ i v o e=>by simp at e⟩
 |o::l,g,h=>by
  have G:ev E o k (fun v=>aF E l k fun l=>g (v::l))=true:=h;have⟨v,z,H⟩:=BH c G;have⟨f,m,B,q⟩:=Hi c z;refine⟨v::f,m,by simp[B],fun d r w j D A i u p y s=>?_⟩
  cases i with
  |zero=>grind
  |succ i=>simp at y s;exact q d r w j D A i u p y s
theorem VR.conc {d:BJ} {v:AV} {x:Value} (h:VR d v x) (e:v≠ .bad):Refl.conc d v=some x:=h.resolve_left e
variable{d:BJ}
theorem VR.conc' {v:AV} {x:Value} (h:VR d v x) (f:isBad v=false):Refl.conc d v=some x:=h.resolve_left (fun e=>by subst e;simp[isBad] at f)
theorem Jf {e:Type}:∀(n:Nat) (l:List e) (g:List e->Bool),Pz n l g=true->g (l.drop n)=true
 |0,l,g,h=>h
 |n+1,[],g,h=>by simpa using(show g []=true from h)
 |n+1,_::l,g,h=>by simpa using Jf n l g h
theorem KH:∀(n:Nat) (l:List AV) (g:List AV->Bool),MA n l g=true->g (l.take n)=true/\n<=l.length/\∀(i:Nat) v,(l.take n)[i]?=some v->isBad v=false
 |0,l,g,h=>⟨by simpa using(show g []=true from h),Ha _,fun i v e=>by simp at e⟩
 |n+1,[],g,h=>absurd (show false=true from h) oD
 |n+1,v::l,g,h=>by
  have⟨j,f⟩:=Eh (show cond (isBad v) false (MA n l fun r=>g (v::r))=true from h);have⟨a,b,c⟩:=KH n l _ f;refine⟨by simpa using a,by simpa using b,fun i u e=>?_⟩
  cases i with
  |zero=>simp at e;subst e;exact j
  |succ i=>simp at e;exact c i u (by simpa using e)
theorem Ou:∀(e l:List AV) (g:List AV->Bool),MB e l g=true->g (e++l.drop e.length)=true/\e.length<=l.length/\∀v∈e,Jv v=true
 |[],l,g,h=>⟨by simpa using(show g l=true from h),Ha _,fun v i=>by simp at i⟩
 |v::e,[],g,h=>absurd (show false=true from h) oD
 |v::e,u::l,g,h=>by
  have⟨k,j⟩:=Bs (show cond (Jv v) (MB e l fun r=>g (v::r)) false=true from h);have⟨a,b,c⟩:=Ou e l _ j;refine⟨by simpa using a,by simpa using b,fun x f=>?_⟩;rcases Az.1 f with rfl|f
  .exact k
  .exact c x f
theorem Jg:∀(o:Nat) (f l:List AV) (g:List AV->Bool),DL o f l g=true->
  g (l.take o++f++l.drop (o+f.length))=true/\o+f.length<=l.length/\∀v∈f,Jv v=true
 |0,f,l,g,h=>by
  have⟨a,b,c⟩:=Ou f l g h;exact⟨by simpa using a,by simpa using b,c⟩
 |o+1,f,[],g,h=>absurd (show false=true from h) oD
 |o+1,f,u::l,g,h=>by
  have⟨a,b,c⟩:=Jg o f l _ (show DL o f l (fun r=>g (u::r))=true from h);refine⟨?_,oT,c⟩;have e:o+1+f.length=(o+f.length)+1:=oO;rw[e];simpa using a
theorem Jh {f:Type} (l e:List f) (o i:Nat) (h:o+e.length<=l.length):
  (l.take o++e++l.drop (o+e.length))[i]?=if i<o then l[i]? else if i<o+e.length then e[i-o]? else l[i]?:=by
 by_cases g:i<o
 .grind
 .grind
theorem Hj (b o n:Nat):(⟨b,o,none⟩:Addr).add n=⟨b,o+n,none⟩:=by
 unfold Addr.add;split
 .rename_i h;subst h;rfl
 .rfl
variable{o:Nat}
theorem cell_of {w:World} {arr:Array Value} {e:TypeId} {f:Nat×Nat} (h:w.heap[b]?=some (.cells arr e f)):w.cell? ⟨b,o,none⟩=arr[o]?:=by
 simp[World.cell?,h]
variable{n:Nat}
theorem I4 {h:AH} {g:List AV->Bool} (k:Ya h b o n g=true):
  ∃j f e z ro,g j=true/\h.m.get b=some (.cells f e z ro)/\j=(f.drop o).take n/\j.length=n/\o+n<=f.length+(if n=0 then o else 0)/\∀(i:Nat) v,j[i]?=some v->isBad v=false:=by
 unfold Ya at k;split at k
 .rename_i j e z ro p;have:=Jf _ _ _ k;have⟨r,l,q⟩:=KH _ _ _ this;refine⟨_,j,e,z,ro,r,p,rfl,by simp at l⊢;omega,?_,q⟩;simp at l;split<;>omega
 .cases k
theorem Ji {C:Ctx} {h:AH} {w:World} (k:BK C d h w) {f:List AV} {e z:Nat} {ro:Bool} (L:h.m.get b=some (.cells f e z ro)) {x:Loc} (J:d b=some x)
  (M:((f.drop o).take n).length=n) (O:∀(i:Nat) v,((f.drop o).take n)[i]?=some v->isBad v=false):
  ∃g,B2 d ((f.drop o).take n)=some g/\g.length=n/\∀(j:Nat) v,g[j]?=some v->w.cell? ⟨x.blk,x.shift+o+j,none⟩=some v:=by
 have⟨arr,fz,R,Z,Q,Y⟩:=k.obj b _ x L J;have p:∀j,j<n->∃v z,((f.drop o).take n)[j]?=some v/\arr[x.shift+o+j]?=some z/\conc d v=some z:=fun j r=>by
  have A:j<((f.drop o).take n).length:=oO;obtain⟨v,l⟩:∃v,((f.drop o).take n)[j]?=some v:=⟨_,Ab A⟩;have u:f[o+j]?=some v:=by
   rw[Ce,if_pos r,Dl] at l;exact l
  rcases Q _ v u with q|⟨y,S,U⟩
  .subst q;have:=O j _ l;simp[isBad] at this
  .grind
 refine⟨(List.range n).map fun j=>arr.getD (x.shift+o+j) undef,?_,oS,fun j v l=>?_⟩
 .refine GL (by simp;simp at M;omega) fun i v l=>?_
  have D:i<n:=by
   have:=(Aa.1 l).1;omega
  have⟨H,y,B,s,G⟩:=p i D;rw[l] at B;cases B;refine⟨y,?_,G⟩;simp[D,s]
 .have r:j<n:=by
   have:=(Aa.1 l).1;simpa using this
  have⟨H,y,B,s,G⟩:=p j r;simp[r,s] at l;rw[cell_of R,s,l]
theorem Hk {P:Program} {w:World} {e:List Value} (g:e.length=n) (h:∀(j:Nat) v,e[j]?=some v->w.cell? ⟨b,o+j,none⟩=some v):
  (loadCells ⟨b,o,none⟩ n).run P w= .ok e.toArray w:=by
 subst g;exact run_loadCells_list w _ e fun j v f=>by rw[Hj];exact h j v f
theorem H0 {P:Program} (g o:Nat) (e:TypeId) (p:Nat×Nat):∀(l:List Value) (i:Nat) (arr:Array Value) (w:World),w.heap[g]?=some (.cells arr e p)->o+i+l.length<=arr.size->
  (∀j,j<arr.size->(decide (p.1<=j)&&decide (j<p.2))=false)->(∀v∈l,v.oneCell'=true)->
  ∃k f,(storeCells ⟨g,o,none⟩ l i).run P w= .ok () k/\k.heap[g]?=some (.cells f e p)/\f.size=arr.size/\
   (∀j,f[j]?=if o+i<=j/\j<o+i+l.length then l[j-(o+i)]? else arr[j]?)/\k.heap.size=w.heap.size/\(∀j,j≠g->k.heap[j]?=w.heap[j]?)/\(∀B,B<=g->Below B w k)
 |[],i,arr,w,hg,_,_,_=>by
  refine⟨w,arr,rfl,hg,rfl,fun j=>?_,rfl,fun _ _=>rfl,fun B _=>Below.refl B w⟩;rw[if_neg oS]
 |v::l,i,arr,w,hg,hl,hfz,h1=>by
  simp at hl;have m:w.cell? ⟨g,o+i,none⟩=some arr[o+i]:=by rw[cell_of hg];simp
  have q:w.frozen? ⟨g,o+i,none⟩=false:=by
   have⟨lo,L⟩:=p;simp only[World.frozen?,hg];exact hfz _ oO
  have r:(store ((⟨g,o,none⟩:Addr).add i) v).run P w= .ok () (w.setCell ⟨g,o+i,none⟩ v):=by
   rw[Hj,run_store P w _ v _ (h1 v oS),m];simp[q]
  have s:(w.setCell ⟨g,o+i,none⟩ v).heap[g]?=some (.cells (arr.setIfInBounds (o+i) v) e p):=by
   simp[World.setCell,DN,hg]
  obtain⟨k,f,r1,r2,r3,J,G,D,A⟩:=H0 g o e p l (i+1) (arr.setIfInBounds (o+i) v) (w.setCell ⟨g,o+i,none⟩ v) s oT (by simpa using hfz) (fun u H=>h1 u (by simp[H]));refine⟨k,f,?_,r2,by simpa using r3,fun j=>?_,by simpa[World.setCell] using G,fun j y=>?_,fun B z=>?_⟩
  .simp[storeCells,Ay,r,Am];exact r1
  .grind
  .rw[D j y];exact Below.heap_setCell w _ v j y
  .exact((Below.refl B w).setCell z v).trans (A B z)
end
section
variable{c:BJ} {v:AV}
theorem Yw {z:Value} (h:Jv v=true) (a:conc c v=some z):z.oneCell'=true:=by
 cases v<;>simp[Jv,Cm] at h<;>simp only[conc,Af,A0,Cx] at a
 case str s=>split at a<;>simp at a;subst a;rfl
 case ptr=>obtain⟨x,_,rfl⟩:=a;rfl
 case sl=>obtain⟨x,_,rfl⟩:=a;rfl
 case map=>obtain⟨x,_,rfl⟩:=a;rfl
 case fn=>obtain⟨x,_,y,_,rfl⟩:=a;rfl
 case yield=>obtain⟨x,_,rfl⟩:=a;rfl
 case iface=>obtain⟨x,_,rfl⟩:=a;rfl
 all_goals(subst a;rfl)
theorem Gu {c:BJ}:∀{g:List AV} {a:List Value},B2 c g=some a->(∀v∈g,Jv v=true)->∀z∈a,z.oneCell'=true
 |[],a,h,_,z,e=>by simp[B2] at h;subst h;simp at e
 |v::g,a,h,k,z,e=>by
  simp[B2] at h
  cases i:conc c v with
  |none=>rw[i] at h;cases h
  |some y=>
   cases j:B2 c g with
   |none=>rw[i,j] at h;cases h
   |some l=>
    rw[i,j] at h;cases h;rcases Az.1 e with rfl|e
    .exact Yw (k v oS) i
    .exact Gu j (fun u m=>k u (by simp[m])) z e
theorem F0 {z:Value} (h:conc c v=some z):B2 c (cellsOf v)=some z.cells.toList:=by
 cases v<;>simp[cellsOf]<;>simp only[conc,Af,A0,Cx] at h
 case bad=>cases h
 case str s=>split at h<;>simp at h;subst h;rename_i g;simp[B2,conc,Value.cells,g]
 case ptr=>obtain⟨x,a,rfl⟩:=h;simp[B2,conc,Value.cells,a]
 case sl=>obtain⟨x,a,rfl⟩:=h;simp[B2,conc,Value.cells,a]
 case map=>obtain⟨x,a,rfl⟩:=h;simp[B2,conc,Value.cells,a]
 case fn=>obtain⟨x,a,y,e,rfl⟩:=h;simp[B2,conc,Value.cells,a,e]
 case yield=>obtain⟨x,a,rfl⟩:=h;simp[B2,conc,Value.cells,a]
 case iface=>obtain⟨x,a,rfl⟩:=h;simp[B2,conc,Value.cells,a]
 case agg=>obtain⟨x,a,rfl⟩:=h;simpa[Value.cells] using a
 case tup=>obtain⟨x,a,rfl⟩:=h;simp[B2,conc,Value.cells,a]
 all_goals(subst h;simp[B2,conc,Value.cells])
variable{h:AH} {b o:Nat}
theorem Lj {a:List AV} {g:AH->Bool} (i:aG h b o a g=true):
  ∃d e z m,g ⟨m,h.nx⟩=true/\h.m.get b=some (.cells d e z false)/\o+a.length<=d.length/\(∀v∈a,Jv v=true)/\h.m.Put b (.cells (d.take o++a++d.drop (o+a.length)) e z false) m:=by
 unfold aG at i;split at i
 .rename_i d e z j;have⟨q,p,n⟩:=Jg _ _ _ _ i;have⟨m,l,k⟩:=Tr.set_spec _ _ _ _ q;exact⟨d,e,z,m,l,j,p,n,k⟩
 .cases i
variable{d:List AV}
theorem NN {P:Program} {C:Ctx} {w:World} (k:BK C c h w) {g:List AV} {e z:Nat} {m:Tr AO} (s:h.m.get b=some (.cells d e z false)) (J:o+g.length<=d.length)
  (G:∀v∈g,Jv v=true) (H:h.m.Put b (.cells (d.take o++g++d.drop (o+g.length)) e z false) m) {x:Loc} (r:c b=some x) {a:List Value} (q:B2 c g=some a):
  ∃l,(storeCells ⟨x.blk,x.shift+o,none⟩ a).run P w= .ok () l/\BK C c ⟨m,h.nx⟩ l:=by
 have⟨arr,t,L,R,Q,p⟩:=k.obj b _ x s r;have D:=BT q;obtain⟨l,j,r1,r2,r3,B,A,y,u⟩:=H0 x.blk (x.shift+o) e t a 0 arr w L oO (KX (p.1 rfl)) (Gu q G);refine⟨l,r1,k.turn s r rfl rfl H (u _) A y rfl ⟨j,t,r2,?_,fun i v n=>?_,⟨fun _=>by rw[r3];exact p.1 rfl,fun e=>⟨(p.2 e).1,by rw[r3,(p.2 e).2];simp;omega⟩⟩⟩⟩
 .rw[r3];simp;omega
 .rw[Jh _ _ _ _ J] at n;rw[B];simp[Eb];by_cases O:i<o
  .grind
  .rw[if_neg O] at n;by_cases M:i<o+g.length
   .rw[if_pos M] at n;rw[if_pos oO];have:x.shift+i-(x.shift+o)=i-o:=oO;rw[this];exact .inr (CG q _ _ n)
   .grind
theorem CO {o:AO} {g:Nat->AH->Bool} (a:IL h o g=true):∃m,g h.nx ⟨m,h.nx+1⟩=true/\h.m.Put h.nx o m:=by
 have⟨m,i,e⟩:=Tr.set_spec _ _ _ _ a;exact⟨m,i,e⟩
theorem F4 (w:World) (o:Obj):(w.alloc o).heap[w.heap.size]?=some o:=by show(w.heap.push o)[w.heap.size]?=_;simp
theorem Kb {C:Ctx} {w:World} (k:BK C c h w) {e z:Nat} {m:Tr AO} (x:h.m.Put h.nx (.cells d e z false) m) {g:List Value} (n:B2 c d=some g)
  (j:List Value) (a:Nat) (D:a*z<=j.length) (arr:Array Value) (r:arr.toList=g++j) (u:z=0->j=[]):
  BK C (c.put h.nx ⟨w.heap.size,0,a⟩) ⟨m,h.nx+1⟩ (w.alloc (.cells arr e))/\c.le (c.put h.nx ⟨w.heap.size,0,a⟩):=by
 have q:=k.lp ⟨w.heap.size,0,a⟩;refine⟨k.new x 0 a _ fun t l=>⟨arr,(0,0),F4 _ _,?_,fun i v A=> .inr ?_,fun _=> .inl rfl,fun e=>⟨rfl,by rw[<-Jz,r,u e,<-BT n];simp⟩⟩,q⟩
 .have:=BT n;have:arr.size=g.length+j.length:=by rw[<-Jz,r];simp
  simp;omega
 .have⟨y,s,B⟩:=CG n i v A;refine⟨y,?_,EF l _ _ B⟩;have p:i<g.length:=(Aa.1 s).1;rw[<-BP,r];simp[AW p,s]
section
variable{P:Program} {E:Env} {C:Ctx} (f:Em P E C)
include f
theorem NO {t:TypeId} {g:AV->Bool} (r:RI E t b o h g=true):
  ∃v,g v=true/\isBad v=false/\∀c w x,BK C c h w->c b=some x->∃z,(loadVar t ⟨x.blk,x.shift+o,none⟩).run P w= .ok z w/\conc c v=some z:=by
 unfold RI at r;split at r
 .cases r
 .rename_i a u;rcases Ex r with⟨H,G⟩|⟨H,G⟩
  .have⟨d,J,e,z,ro,n,B,i,q,_,p⟩:=I4 G;refine⟨_,n,rfl,fun c w x k s=>?_⟩;subst i;have⟨j,l,m,A⟩:=Ji k B s q p;refine⟨.agg j.toArray,?_,by simp[conc,l]⟩;simp[loadVar,Ay,I3 f u,H,Am,if_true,Cs f u,Hk m A,AJ]
  .have⟨d,J,e,z,ro,n,B,i,q,_,p⟩:=I4 G;split at n
   .rename_i v;have D:=p 0 v oS;refine⟨v,n,D,fun c w x k s=>?_⟩;rw[i] at q p;have⟨j,l,m,A⟩:=Ji k B s q p;rw[<-i] at l;simp[B2] at l
    cases L:conc c v with
    |none=>rw[L] at l;cases l
    |some y=>
     rw[L] at l;cases l;have:=A 0 y oS;simp[Eb] at this;exact⟨y,by simp[loadVar,I3 f u,H,this],rfl⟩
   .cases n
theorem Se {t:TypeId} {g:AH->Bool} (l:FK E t b o v h g=true):
  ∃p,g p=true/\∀c w x z,BK C c h w->c b=some x->conc c v=some z->∃j,(storeVar t ⟨x.blk,x.shift+o,none⟩ z).run P w= .ok () j/\BK C c p j:=by
 unfold FK at l;split at l
 .cases l
 .rename_i a r;have⟨J,H⟩:=Bs l;have⟨d,e,z,m,D,A,B,s,u⟩:=Lj H;refine⟨_,D,fun c w x y k q G=>?_⟩;have i:=F0 G;have⟨j,r1,r2⟩:=NN (P:=P) k A B s u q i;refine⟨j,?_,r2⟩;have n:y.cells.size=a.size:=by
   have:=BT i;rw[beq_eq J] at this;simpa using this
  simp[storeVar,Cs f r,n,r1]
theorem PA {t:TypeId} {g:AV->AH->Bool} (i:Yb E t v h g=true):
  ∃b l,g b l=true/\isBad b=false/\∀c w z,BK C c h w->conc c v=some z->∃e j a,c.le e/\(newVar t z).run P w= .ok a j/\BK C e l j/\conc e b=some (.pointer (some a)):=by
 unfold Yb at i;split at i
 .cases i
 .rename_i a r;have⟨m,p,n⟩:=CO i;refine⟨_,_,p,rfl,fun c w z k q=>?_⟩;have⟨r1,r2⟩:=Kb k n (F0 q) [] 0 oS z.cells oS (fun _=>rfl);exact⟨_,_,⟨w.heap.size,0,none⟩,r2,rfl,r1,by simp[conc,BJ.put_same]⟩
theorem NP {t:TypeId} {g:AV->Bool} (n:UW E t d o g=true):
  ∃v,g v=true/\∀c w l,B2 c d=some l->∃z,(part t l.toArray o).run P w= .ok z w/\conc c v=some z:=by
 unfold UW at n;split at n
 .cases n
 .rename_i a s;have B:=Jf _ _ _ n;rcases Ex B with⟨u,k⟩|⟨u,k⟩
  .have⟨H,L,J⟩:=KH _ _ _ k;refine⟨_,H,fun c w l m=>⟨.agg ((l.drop o).take a.size).toArray,?_,?_⟩⟩
   .simp only[part,Ay,I3 f s,u,Am,if_true,Cs f s,AJ];congr 2;apply Ch;simp[List.extract_eq_take_drop,Nat.add_sub_cancel_left]
   .have:B2 c ((d.drop o).take a.size)=some ((l.drop o).take a.size):=by
     have D:=BT m;refine GL oT fun i v j=>?_
     rw[Ce,Dl] at j⊢;by_cases e:i<a.size
     .rw[if_pos e] at j⊢;exact CG m _ _ j
     .rw[if_neg e] at j;cases j
    simp[conc,this]
  .split at k
   .rename_i v r A;refine⟨v,k,fun c w l m=>?_⟩;have p:d[o]?=some v:=by
     have:=congrArg (fun q=>q[0]?) A;simpa[Dl] using this
    have⟨y,x,G⟩:=CG m _ _ p;exact⟨y,by simp[part,I3 f s,u,x],G⟩
   .cases k
end
end
section
theorem wrap_in (k:IntKind) (n:Int) (h:inR k n=true):k.wrap n=n:=by
 have a:(if k.signed then-((2^(k.bits- 1):Nat):Int)<=n/\n<((2^(k.bits- 1):Nat):Int) else 0<=n/\n<((2^k.bits:Nat):Int)):=by
  cases n with
  |ofNat m=>
   have:=Gv h;cases k<;>simp[lim,IntKind.signed,IntKind.bits] at*<;>omega
  |negSucc m=>
   have⟨c,b⟩:=Bs h;cases k<;>simp[lim,IntKind.signed,IntKind.bits] at*<;>omega
 cases k<;>simp[IntKind.signed,IntKind.bits] at a<;>simp[IntKind.wrap,IntKind.signed,IntKind.bits]<;>omega
variable{k:IntKind} {g:AV->Bool}
theorem FC {n:Int} (h:wr k n g=true):g (.int k (k.wrap n))=true:=by
 unfold wr at h;rw[Iq] at h;rcases Ex h with⟨b,a⟩|⟨b,a⟩
 .rw[wrap_in k n b];exact a
 .rw[Iq] at a;exact a
theorem J1 (a b:Int):XZ a b=decide (a<b):=by
 cases a<;>cases b<;>simp only[XZ]<;>(rw[Dz];simp[Nat.ble_eq])<;>omega
theorem Gc (a b:Int):Qv a b=(a==b):=by
 cases a<;>cases b<;>simp[Qv]<;>(rw[Dz];simp[Nat.beq_eq])<;>omega
theorem K7 {a b:IntKind} (h:eqK a b=true):a=b:=by cases a<;>cases b<;>simp_all [eqK]
theorem Gx {b:Bool} {g:Bool->Bool} (h:Hu b g=true):g b=true:=by cases b<;>exact h
theorem LG:∀(a b:List Nat),eqS a b=(a==b)
 |[],[]=>rfl
 |[],_::_=>rfl
 |_::_,[]=>rfl
 |x::a,y::b=>by
  have h:eqS (x::a) (y::b)=cond (Nat.beq x y) (eqS a b) false:=rfl;have e:Nat.beq x y=(x==y):=by rw[Dz];simp[Nat.beq_eq]
  rw[h,LG a b,List.cons_beq_cons,e];cases(x==y)<;>rfl
theorem Ph:∀(a b:List Nat) (g:List Nat->Bool),eM a b g=true->g (a++b)=true
 |[],b,g,h=>h
 |x::a,b,g,h=>Ph a b _ (show eM a b (fun l=>g (x::l))=true from h)
theorem Gd (s:List Nat):Cy s=true↔∀n∈s,n<=255:=by
 induction s with
 |nil=>simp[Cy]
 |cons n s a=>simp[Cy,a,Nat.ble_eq]
theorem OL {a b:List Nat} (e:Cy a=true) (d:Cy b=true):Cy (a++b)=true:=by
 rw[Gd] at*;intro n c;rcases B0.1 c with h|h
 .exact e n h
 .exact d n h
theorem Df (s:List Nat):(bytesOf s).size=s.length:=by simp[bytesOf,ByteArray.size]
theorem Nr (a b:List Nat):bytesOf (a++b)=bytesOf a++bytesOf b:=by
 apply ByteArray.ext;simp[bytesOf]
theorem J2 {a b:List Nat} (m:Cy a=true) (f:Cy b=true) (h:bytesOf a=bytesOf b):a=b:=by
 have o:a.map UInt8.ofNat=b.map UInt8.ofNat:=by
  have:=congrArg (fun x=>x.data.toList) h;simpa[bytesOf] using this
 have c:∀l:List Nat,Cy l=true->(l.map UInt8.ofNat).map UInt8.toNat=l:=fun l d=>by
  rw[Gd] at d;rw[EN]
  conv=>rhs;rw[<-List.map_id l]
  refine Di fun n e=>?_
  have:=d n e;simp[UInt8.toNat_ofNat'];omega
 rw[<-c a m,<-c b f,o]
theorem VU {P:Program} (i:BinOp) (t:TypeId) (d c:Operand) (k e:IntKind) (a b:Int) (w:World):(eqGuard i t d c (.int k a) (.int e b)).run P w= .ok () w:=by
 cases i<;>simp[eqGuard]
theorem LH {P:Program} (i:BinOp) (t:TypeId) (d c:Operand) (a b:ByteArray) (w:World):(eqGuard i t d c (.string a) (.string b)).run P w= .ok () w:=by
 cases i<;>simp[eqGuard]
section
variable{P:Program} {E:Env} {C:Ctx} (j:Em P E C)
variable{i:BinOp}
theorem VV {x y:Int} (e:i≠ .shl/\i≠ .shr) (h:eL i k x y g=true) (t:TypeId):
  ∃v,g v=true/\isBad v=false/\∀w,∃z,(binOp i t (.int k x) (.int k y)).run P w= .ok z w/\∀a,conc a v=some z:=by
 cases i<;>simp only[eL] at h
 case add=>exact⟨_,FC h,rfl,fun w=>⟨_,by(simp[binOp,Op.intArith])<;>rfl,fun a=>rfl⟩⟩
 case sub=>exact⟨_,FC h,rfl,fun w=>⟨_,by(simp[binOp,Op.intArith])<;>rfl,fun a=>rfl⟩⟩
 case mul=>exact⟨_,FC h,rfl,fun w=>⟨_,by(simp[binOp,Op.intArith])<;>rfl,fun a=>rfl⟩⟩
 case quo=>
  have⟨b,c⟩:=Eh h;rw[Gc] at b;have d:¬y=0:=by simpa using b
  exact⟨_,FC c,rfl,fun w=>⟨_,by(simp[binOp,Op.intDiv,d])<;>rfl,fun a=>rfl⟩⟩
 case rem=>
  have⟨b,c⟩:=Eh h;rw[Gc] at b;have d:¬y=0:=by simpa using b
  rw[Iq] at c;exact⟨_,c,rfl,fun w=>⟨_,by(simp[binOp,Op.intDiv,d])<;>rfl,fun a=>rfl⟩⟩
 case and=>exact⟨_,FC h,rfl,fun w=>⟨_,by(simp[binOp,Op.intBits,ne_eq,not_true,if_false])<;>rfl,fun a=>rfl⟩⟩
 case or=>exact⟨_,FC h,rfl,fun w=>⟨_,by(simp[binOp,Op.intBits,ne_eq,not_true,if_false])<;>rfl,fun a=>rfl⟩⟩
 case xor=>exact⟨_,FC h,rfl,fun w=>⟨_,by(simp[binOp,Op.intBits,ne_eq,not_true,if_false])<;>rfl,fun a=>rfl⟩⟩
 case eql=>rw[Gc] at h;exact⟨_,h,rfl,fun w=>⟨_,by(simp[binOp,Op.intCmp])<;>rfl,fun a=>rfl⟩⟩
 case neq=>rw[Gc] at h;exact⟨_,h,rfl,fun w=>⟨_,by(simp[binOp,Op.intCmp,ne_eq,not_true,if_false])<;>rfl,fun a=>rfl⟩⟩
 case lss=>rw[J1] at h;exact⟨_,h,rfl,fun w=>⟨_,by(simp[binOp,Op.intCmp])<;>rfl,fun a=>rfl⟩⟩
 case leq=>
  rw[J1] at h;exact⟨_,h,rfl,fun w=>⟨.bool (decide (x<=y)),by simp[binOp,Op.intCmp],fun a=>by simp only[conc];congr 2;rw[Dz];simp⟩⟩
 case gtr=>rw[J1] at h;exact⟨_,h,rfl,fun w=>⟨_,by(simp[binOp,Op.intCmp])<;>rfl,fun a=>rfl⟩⟩
 case geq=>
  rw[J1] at h;exact⟨_,h,rfl,fun w=>⟨.bool (decide (x≥y)),by simp[binOp,Op.intCmp],fun a=>by simp only[conc];congr 2;rw[Dz];simp⟩⟩
 all_goals cases h
theorem Re {c:IntKind} {x y:Int} (b:i= .shl∨i= .shr) (h:mC i k x y g=true) (t:TypeId):
  ∃v,g v=true/\isBad v=false/\∀w,∃z,(binOp i t (.int k x) (.int c y)).run P w= .ok z w/\∀a,conc a v=some z:=by
 unfold mC at h;split at h
 .rename_i n;rcases b with rfl|rfl
  .simp only[Dx] at h;refine⟨_,FC h,rfl,fun w=>⟨.int k (k.wrap (x*2^min n k.bits)),?_,fun a=>?_⟩⟩
   .have:¬(Int.ofNat n<0):=oS
    (simp[binOp,Op.shift])<;>(intro d;omega)
   .simp only[conc];congr 3
  .simp only[Dx,Iq] at h;refine⟨_,h,rfl,fun w=>⟨.int k (x.fdiv (2^min n k.bits)),?_,fun a=>?_⟩⟩
   ·(simp[binOp,Op.shift])<;>(intro d;omega)
   .simp only[conc];congr 3
 .cases h
theorem Fj {t:TypeId} {r:Bool} {w:World} {b a:Value} (e:binOp .eql t b a=(do pure (.bool (<-Op.equal t b a)))) (d:binOp .neq t b a=(do pure (.bool (!(<-Op.equal t b a)))))
  (c:(Op.equal t b a).run P w= .ok r w):∀i,i= .eql∨i= .neq->(binOp i t b a).run P w= .ok (.bool (if i= .eql then r else !r)) w:=by
 rintro i (rfl|rfl)
 .rw[e];simp[c]
 .rw[d];simp[c]
theorem eq_of {t:TypeId} {b a:Value} {r:Bool} {w:World} (h:∀n,(Op.equalIn (n+1) t b a).run P w= .ok r w):(Op.equal t b a).run P w= .ok r w:=h 9999
variable{x:AV}
include j in
theorem Rf {t:TypeId} {y:AV} {g:Bool->Bool} (h:lC E t x y g=true):
  ∃r,g r=true/\isBad x=false/\isBad y=false/\∀D w B A,conc D x=some B->conc D y=some A->(Op.equal t B A).run P w= .ok r w/\(∀i H G,(eqGuard i t H G B A).run P w= .ok () w)/\
   (∀i,i= .eql∨i= .neq->(binOp i t B A).run P w= .ok (.bool (if i= .eql then r else !r)) w):=by
 unfold lC at h;split at h
 .cases h
 .rename_i a ht;have J:=fun w=>Cq j ht (w:=w)
  split at h<;>try(cases h;done)
  ·
   rename_i p q u;refine⟨_,Gx h,rfl,rfl,fun D w B A s m=>?_⟩;cases s;cases m;have d:(Op.equal t (.bool p) (.bool q)).run P w= .ok (cond p q (!q)) w:=by
    refine eq_of fun n=>?_
    simp[Op.equalIn,Ay,J,Am,u,AJ];cases p<;>cases q<;>rfl
   exact⟨d,fun i H G=>by cases i<;>simp[eqGuard],Fj rfl rfl d⟩
  ·
   rename_i e u;refine⟨_,h,rfl,rfl,fun D w B A s m=>?_⟩;cases s;cases m;have d:(Op.equal t (.pointer none) (.pointer none)).run P w= .ok true w:=by
    refine eq_of fun n=>?_
    simp only[Op.equalIn,Ay,J,Am,u,AJ];rfl
   exact⟨d,fun i H G=>by cases i<;>simp[eqGuard],Fj rfl rfl d⟩
  .rename_i e b o u;refine⟨_,h,rfl,rfl,fun D w B A s m=>?_⟩;cases s;simp[conc,Af] at m;obtain⟨z,L,rfl⟩:=m;have d:(Op.equal t (.pointer none) (.pointer (some ⟨z.blk,z.shift+o,none⟩))).run P w= .ok false w:=by
    refine eq_of fun n=>?_
    simp only[Op.equalIn,Ay,J,Am,u,AJ];rfl
   exact⟨d,fun i H G=>by cases i<;>simp[eqGuard],Fj rfl rfl d⟩
  .rename_i e b o u;refine⟨_,h,rfl,rfl,fun D w B A s m=>?_⟩;cases m;simp[conc,Af] at s;obtain⟨z,L,rfl⟩:=s;have d:(Op.equal t (.pointer (some ⟨z.blk,z.shift+o,none⟩)) (.pointer none)).run P w= .ok false w:=by
    refine eq_of fun n=>?_
    simp[Op.equalIn,Ay,J,Am,u,AJ]
   exact⟨d,fun i H G=>by cases i<;>simp[eqGuard],Fj rfl rfl d⟩
  .rename_i e b o c p u;split at h
   .rename_i ea S;have⟨h1,h2⟩:=Bs h;have⟨h3,h4⟩:=(BC _ _).1 h1;have U:=beq_eq h3;subst U;have a0:=ble_eq h4;refine⟨_,Gx h2,rfl,rfl,fun D w B A s m=>?_⟩;simp[conc,Af] at s m;obtain⟨z,L,rfl⟩:=s;obtain⟨z',M,rfl⟩:=m;rw[L] at M;cases M;have d:(Op.equal t (.pointer (some ⟨z.blk,z.shift+o,none⟩)) (.pointer (some ⟨z.blk,z.shift+p,none⟩))).run P w= .ok (Nat.beq o p) w:=by
     refine eq_of fun n=>?_
     simp only[Op.equalIn,Ay,J,Am,u,Cs j S];rw[if_pos oO];simp only[sameAddr,beq_self_eq_true,if_true,AJ];congr 1;rw[Dz];simp[Nat.beq_eq]
    exact⟨d,fun i H G=>by cases i<;>simp[eqGuard],Fj rfl rfl d⟩
   .cases h
  .rename_i ms Q v u;refine⟨_,h,rfl,rfl,fun D w B A s m=>?_⟩;cases s;simp[conc,Af] at m;obtain⟨z,L,rfl⟩:=m;have d:(Op.equal t .nilIface (.iface Q z)).run P w= .ok false w:=by
    refine eq_of fun n=>?_
    simp[Op.equalIn,Ay,J,Am,u,AJ]
   exact⟨d,fun i H G=>by cases i<;>simp[eqGuard],Fj rfl rfl d⟩
  .rename_i ms Q v u;refine⟨_,h,rfl,rfl,fun D w B A s m=>?_⟩;cases m;simp[conc,Af] at s;obtain⟨z,L,rfl⟩:=s;have d:(Op.equal t (.iface Q z) .nilIface).run P w= .ok false w:=by
    refine eq_of fun n=>?_
    simp[Op.equalIn,Ay,J,Am,u,AJ]
   exact⟨d,fun i H G=>by cases i<;>simp[eqGuard],Fj rfl rfl d⟩
  .rename_i e u;refine⟨_,h,rfl,rfl,fun D w B A s m=>?_⟩;cases s;cases m;have d:(Op.equal t (.slice none 0 0) (.slice none 0 0)).run P w= .ok true w:=by
    refine eq_of fun n=>?_
    simp only[Op.equalIn,Ay,J,Am,u,AJ];rfl
   exact⟨d,fun i H G=>by cases i<;>simp[eqGuard],Fj rfl rfl d⟩
  .rename_i e b o l c i u;refine⟨_,h,rfl,rfl,fun D w B A s m=>?_⟩;cases s;simp[conc,Af] at m;obtain⟨z,L,rfl⟩:=m;have d:(Op.equal t (.slice none 0 0) (.slice (some ⟨z.blk,z.shift+o,none⟩) l (if i=true then c+z.extra else c))).run P w= .ok false w:=by
    refine eq_of fun n=>?_
    simp only[Op.equalIn,Ay,J,Am,u,AJ];rfl
   exact⟨d,fun i H G=>by cases i<;>simp[eqGuard],Fj rfl rfl d⟩
  .rename_i e b o l c i u;refine⟨_,h,rfl,rfl,fun D w B A s m=>?_⟩;cases m;simp[conc,Af] at s;obtain⟨z,L,rfl⟩:=s;have d:(Op.equal t (.slice (some ⟨z.blk,z.shift+o,none⟩) l (if i=true then c+z.extra else c)) (.slice none 0 0)).run P w= .ok false w:=by
    refine eq_of fun n=>?_
    simp[Op.equalIn,Ay,J,Am,u,AJ]
   exact⟨d,fun i H G=>by cases i<;>simp[eqGuard],Fj rfl rfl d⟩
  .rename_i kt et u;refine⟨_,h,rfl,rfl,fun D w B A s m=>?_⟩;cases s;cases m;have d:(Op.equal t (.map none) (.map none)).run P w= .ok true w:=by
    refine eq_of fun n=>?_
    simp only[Op.equalIn,Ay,J,Am,u,AJ];rfl
   exact⟨d,fun i H G=>by cases i<;>simp[eqGuard],Fj rfl rfl d⟩
  .rename_i kt et b u;refine⟨_,h,rfl,rfl,fun D w B A s m=>?_⟩;cases s;simp[conc,Af] at m;obtain⟨z,L,rfl⟩:=m;have d:(Op.equal t (.map none) (.map (some z.blk))).run P w= .ok false w:=by
    refine eq_of fun n=>?_
    simp only[Op.equalIn,Ay,J,Am,u,AJ];rfl
   exact⟨d,fun i H G=>by cases i<;>simp[eqGuard],Fj rfl rfl d⟩
  .rename_i kt et b u;refine⟨_,h,rfl,rfl,fun D w B A s m=>?_⟩;cases m;simp[conc,Af] at s;obtain⟨z,L,rfl⟩:=s;have d:(Op.equal t (.map (some z.blk)) (.map none)).run P w= .ok false w:=by
    refine eq_of fun n=>?_
    simp[Op.equalIn,Ay,J,Am,u,AJ]
   exact⟨d,fun i H G=>by cases i<;>simp[eqGuard],Fj rfl rfl d⟩
  .rename_i ps Z Y u;refine⟨_,h,rfl,rfl,fun D w B A s m=>?_⟩;cases s;cases m;have d:(Op.equal t .nilFunc .nilFunc).run P w= .ok true w:=by
    refine eq_of fun n=>?_
    simp[Op.equalIn,Ay,J,Am,u,AJ]
   exact⟨d,fun i H G=>by cases i<;>simp[eqGuard],Fj rfl rfl d⟩
  .rename_i ps Z Y f fi ca u;refine⟨_,h,rfl,rfl,fun D w B A s m=>?_⟩;cases s;simp[conc,Af,Cx] at m;obtain⟨z,L,O,R,rfl⟩:=m;have d:(Op.equal t .nilFunc (.func (.func f) z.toArray O.toArray)).run P w= .ok false w:=by
    refine eq_of fun n=>?_
    simp[Op.equalIn,Ay,J,Am,u,AJ]
   exact⟨d,fun i H G=>by cases i<;>simp[eqGuard],Fj rfl rfl d⟩
  .rename_i ps Z Y f fi ca u;refine⟨_,h,rfl,rfl,fun D w B A s m=>?_⟩;cases m;simp[conc,Af,Cx] at s;obtain⟨z,L,O,R,rfl⟩:=s;have d:(Op.equal t (.func (.func f) z.toArray O.toArray) .nilFunc).run P w= .ok false w:=by
    refine eq_of fun n=>?_
    simp[Op.equalIn,Ay,J,Am,u,AJ]
   exact⟨d,fun i H G=>by cases i<;>simp[eqGuard],Fj rfl rfl d⟩
include j in
theorem UI {t:TypeId} {o m:Operand} (h:(match E.ty.get t with
   |some {d:= .interface _,..}=>match i with
    | .eql=>g (.bool true)
    | .neq=>g (.bool false)
    |_=>false
   |_=>false)=true) (e:∀w,(eqGuard i t o m .nilIface .nilIface).run P w= .ok () w):∃v,g v=true/\∀a w c b,VR a .inil c->VR a .inil b->∃z,(do eqGuard i t o m c b;binOp i t c b:Sem Value).run P w= .ok z w/\conc a v=some z:=by
 split at h
 .rename_i s _ _ _ r;have q:=fun w=>Cq j r (w:=w)
  have p:∀w,(Op.equal t .nilIface .nilIface).run P w= .ok true w:=fun w=>by
   refine eq_of fun n=>?_
   simp[Op.equalIn,Ay,q,Am,AJ]
  split at h
  .refine⟨_,h,fun a w c b l f=>?_⟩;cases l.conc oS;cases f.conc oS;exact⟨.bool true,by simp[Ay,e,Am,binOp,p,AJ],rfl⟩
  .refine⟨_,h,fun a w c b l f=>?_⟩;cases l.conc oS;cases f.conc oS;exact⟨.bool false,by simp only[Ay,e,Am,binOp,p,AJ];rfl,rfl⟩
  .cases h
 .cases h
include j in
theorem VW {t:TypeId} {M L:Operand} {y:AV} (h:eN E i t M L x y g=true):
  ∃v,g v=true/\∀c w d l,VR c x d->VR c y l->∃z,(do eqGuard i t M L d l;binOp i t d l:Sem Value).run P w= .ok z w/\conc c v=some z:=by
 unfold eN at h;split at h
 .rename_i k a O b;have H:∃v,g v=true/\isBad v=false/\∀w,∃z,(binOp i t (.int k a) (.int O b)).run P w= .ok z w/\∀c,conc c v=some z:=by
   split at h
   .exact Re (.inl rfl) h t
   .exact Re (.inr rfl) h t
   .rename_i o B;have⟨e,A⟩:=Bs h;have:=K7 e;subst this;exact VV ⟨o,B⟩ A t
  have⟨v,R,p,D⟩:=H;refine⟨v,R,fun c w d l n m=>?_⟩;cases n.conc oS;cases m.conc oS;have⟨z,Q,S⟩:=D w;exact⟨z,by simp[Ay,VU,Am,Q],S c⟩
 .rename_i a b;have conv:∀c d,VR c (.str a) d->Cy a=true/\d= .string (bytesOf a):=fun c d e=>by
   have:=e.conc oS;simp only[conc] at this;split at this<;>simp at this
   exact⟨by assumption,this.symm⟩
  have f:∀c d,VR c (.str b) d->Cy b=true/\d= .string (bytesOf b):=fun c d e=>by
   have:=e.conc oS;simp only[conc] at this;split at this<;>simp at this
   exact⟨by assumption,this.symm⟩
  have G:Cy a=true->Cy b=true->((bytesOf a).toList==(bytesOf b).toList)=eqS a b:=fun u p=>by
   rw[LG,Dz];simp only[beq_iff_eq,ByteArray.toList_eq];exact⟨fun e=>J2 u p (by apply ByteArray.ext;exact Ch e),fun e=>by rw[e]⟩
  split at h
  .have⟨o,B⟩:=Bs h;have A:=ble_eq o;have U:=Ph _ _ _ B;refine⟨_,U,fun c w d l n m=>?_⟩;obtain⟨u,rfl⟩:=conv c d n
   obtain⟨p,rfl⟩:=f c l m;refine⟨.string (bytesOf a++bytesOf b),?_,?_⟩
   .simp only[Ay,LH,Am,binOp,Op.stringOp];have Z:a.length+b.length<=0x100000000:=A;rw[if_neg (by simp[Df,IntKind.max,IntKind.signed,IntKind.bits];omega)];rfl
   .simp only[conc,OL u p,if_true,Nr]
  .have o:=Gx h;refine⟨_,o,fun c w d l n m=>?_⟩;obtain⟨u,rfl⟩:=conv c d n
   obtain⟨p,rfl⟩:=f c l m;refine⟨.bool (eqS a b),?_,rfl⟩;simp[Ay,LH,Am,binOp,Op.stringOp,AJ,G u p]
  .have o:=Gx h;refine⟨_,o,fun c w d l n m=>?_⟩;obtain⟨u,rfl⟩:=conv c d n
   obtain⟨p,rfl⟩:=f c l m;refine⟨.bool (!eqS a b),?_,rfl⟩;simp[Ay,LH,Am,binOp,Op.stringOp,AJ,G u p]
  .cases h
 ·
  split at h
  .rename_i Y _ _;exact UI j h (fun w=>by cases i<;>simp[eqGuard])
  .exact UI j h (fun w=>by cases i<;>simp[eqGuard])
  .cases h
 .split at h
  .have⟨r,J,s,q,D⟩:=Rf j h;refine⟨_,J,fun c w d l n m=>?_⟩;have⟨o,B,A⟩:=D c w d l (n.conc' s) (m.conc' q);exact⟨.bool r,by simp[Ay,B,Am,A .eql (.inl rfl),if_true],rfl⟩
  .have⟨r,J,s,q,D⟩:=Rf j h;refine⟨_,J,fun c w d l n m=>?_⟩;have⟨o,B,A⟩:=D c w d l (n.conc' s) (m.conc' q);exact⟨.bool (!r),by simp only[Ay,B,Am,A .neq (.inr rfl)];rfl,rfl⟩
  .cases h
theorem Xy {i:UnOp} (h:mD i x g=true):
  ∃v,g v=true/\∀a w b,VR a x b->∃z,(Op.unary i b).run P w= .ok z w/\conc a v=some z:=by
 unfold mD at h;split at h
 .refine⟨_,FC h,fun a w b e=>?_⟩;cases e.conc oS;exact⟨_,rfl,rfl⟩
 .refine⟨_,FC h,fun a w b e=>?_⟩;cases e.conc oS;exact⟨_,rfl,rfl⟩
 .refine⟨_,h,fun a w b e=>?_⟩;cases e.conc oS;exact⟨_,rfl,rfl⟩
 .cases h
end
end
section
theorem Mr {P:Program} {E:Env} {C:Ctx} (c:Em P E C) {o:Option Operand} {d:Tr AV} {g:Option AV->Bool} (h:OX o (fun o f=>ev E o d f) g=true):
  ∃r,g r=true/\(r=none↔o=none)/\∀i b w a,BK C i b w->Rc i d a->∀v x,r=some v->o=some x->VR i v (a x):=by
 unfold OX at h;split at h
 .grind
 .rename_i o;have⟨v,e,j⟩:=BH c h;exact⟨_,e,oS,fun i b w a l k u x n m=>by cases n;cases m;exact j i b w a l k⟩
theorem Ff {v:AV} {g:Nat->Bool} (h:MY v g=true):∃k n,v= .int k (.ofNat n)/\g n=true:=by
 unfold MY at h;split at h
 .exact⟨_,_,rfl,h⟩
 .cases h
theorem Gl {o:Option AV} {d:Nat} {f:Nat->Bool} (h:NF o d f=true):∃n,f n=true/\((o=none/\n=d)∨∃k,o=some (.int k (.ofNat n))):=by
 unfold NF at h;split at h
 .exact⟨d,h,.inl ⟨rfl,rfl⟩⟩
 .obtain⟨k,n,rfl,h⟩:=Ff h;exact⟨n,h,.inr ⟨k,rfl⟩⟩
theorem Ox:∀(n:Nat) (l:List Nat) (g:List Nat->Bool),Yc n l g=true->g (l.take n)=true
 |0,l,g,h=>by simpa using(show g []=true from h)
 |n+1,[],g,h=>absurd (show false=true from h) oD
 |n+1,v::l,g,h=>by simpa using Ox n l _ (show Yc n l (fun r=>g (v::r))=true from h)
def OV (i:BJ) (o:Option AV) (a:Option Value):Prop:=(o=none↔a=none)/\∀v x,o=some v->a=some x->VR i v x
variable{i:BJ}
theorem OV.of_none {a:Option Value} (h:OV i none a):a=none:=h.1.1 rfl
theorem OV.of_int {k:IntKind} {n:Int} {a:Option Value} (h:OV i (some (.int k n)) a):a=some (.int k n):=by
 cases a with
 |none=>have:=h.1.2 rfl;cases this
 |some x=>have:=(h.2 _ _ rfl rfl).conc oS;cases this;rfl
theorem Gm {P:Program} (k:IntKind) (n y:Nat) (c:BoundsCode) (w:World) (h:n<=y):(Instr.sliceBound (.int k (.ofNat n)) y c).run P w= .ok n w:=by
 simp[Instr.sliceBound,asIntOf];intro a;omega
theorem JL {P:Program} {lo h:Option AV} {b e:Option Value} (g:Bool) (len cap l a:Nat) (w:World) (f:OV i lo b) (o:OV i h e) (m:(lo=none/\l=0)∨∃k,lo=some (.int k (.ofNat l)))
  (j:(h=none/\a=len)∨∃k,h=some (.int k (.ofNat a))) (d:l<=a) (n:a<=cap):(Instr.sliceBounds g len cap b e none).run P w= .ok (l,a,cap) w:=by
 unfold Instr.sliceBounds;rcases j with⟨rfl,rfl⟩|⟨k,rfl⟩
 .rw[o.of_none];rcases m with⟨rfl,rfl⟩|⟨k,rfl⟩
  .rw[f.of_none];simp
  .rw[f.of_int];simp only[Ay,AJ,Am];rw[Gm k l _ _ _ d];rfl
 .rw[o.of_int];rcases m with⟨rfl,rfl⟩|⟨k,rfl⟩
  .rw[f.of_none];simp only[Ay,AJ,Am];rw[Gm k a _ _ _ n];rfl
  .rw[f.of_int];simp only[Ay,AJ,Am];rw[Gm _ a _ _ _ n];simp only[Am];rw[Gm _ l _ _ _ d];rfl
theorem Jt (s:List Nat) (l a:Nat):(bytesOf s).extract l a=bytesOf ((s.drop l).take (a-l)):=by
 apply ByteArray.ext;apply Ch;simp[bytesOf,List.extract_eq_take_drop,DZ,List.map_drop]
theorem Uy {s:List Nat} (h:Cy s=true) (l n:Nat):Cy ((s.drop l).take n)=true:=by
 rw[Gd] at*;exact fun x a=>h x (List.mem_of_mem_drop (Jo a))
theorem BK.map_ownless {C:Ctx} {h:AH} {w:World} (k:BK C i h w) {b:Nat} {ao:AO} (A:h.m.get b=some ao) (v:b<h.nx) (u:i b=none) (H:ao.owns=false) (y:Loc) (o:OR (i.put b y) y w ao):BK C (i.put b y) h w:=by
 have g:=BJ.sub_put y u;refine⟨k.below,k.base,fun n s=>g n _ (k.glob n s),fun c x=>?_,(by have:=k.nx;simp[BJ.put];omega),fun c p z f a=>?_,fun c p z f a l j=>?_,fun c d p q z t f a l j r D B=>?_⟩
 .rw[BJ.put_other _ oO];exact k.fresh c x
 .by_cases e:c=b
  .subst e;rw[BJ.put_same] at a;cases a;rw[A] at f;cases f;exact o
  .rw[BJ.put_other _ e] at a;exact(k.obj c p z f a).mono g rfl
 .by_cases e:c=b
  .grind
  .rw[BJ.put_other _ e] at a;exact k.own c p z f a l j
 .by_cases e:c=b
  .grind
  .by_cases G:d=b
   .grind
   .rw[BJ.put_other _ e] at l;rw[BJ.put_other _ G] at j;exact k.apart c d p q z t f a l j r D B
section
variable{P:Program} {E:Env} {C:Ctx} (c:Em P E C)
include c
theorem Ta {t:TypeId} {x:AV} {lo hi mx:Option AV} {h:AH} {g:AV->AH->Bool} (d:Ma E t x lo hi mx h g=true):
  ∃v h',g v h'=true/\∀i w r j q p,BK C i h w->VR i x r->OV i lo j->OV i hi q->OV i mx p->
   ∃a0 z,i.le a0/\(Instr.sliceAt t r j q p).run P w= .ok z w/\conc a0 v=some z/\BK C a0 h' w:=by
 unfold Ma at d;split at d
 .cases d
 .rename_i a ht;have hu:=fun w=>Cq c ht (w:=w)
  split at d<;>try(cases d;done)
  ·
   rename_i s hd;split at d
   .cases d
   .rw[Dx] at d;have⟨J,d,Y⟩:=Gl d;have⟨l,d,L⟩:=Gl d;have⟨h1,d⟩:=Bs d;have⟨O,Z⟩:=(BC _ _).1 h1;have d:=Jf _ _ _ d;rw[Dx] at d;have d:=Ox _ _ _ d;refine⟨_,_,d,fun i w r j q p k G A D B=>?_⟩;have:=G.conc oS;simp only[conc] at this;split at this
    .rename_i a6;cases this;refine⟨i,.string (bytesOf ((s.drop l).take (J-l))),BJ.le.refl i,?_,by simp only[conc];rw[if_pos (Uy a6 _ _)];rfl,k⟩;rw[B.of_none];simp only[Instr.sliceAt,Ay,hu,Am,hd,Instr.slice];have:=JL (P:=P) false s.length s.length l J w A D L Y (ble_eq O) (ble_eq Z);simp only[Option.isSome_none,Cm,if_false,Ay,Df,this,Am,AJ,Jt]
    .cases this
  ·
   rename_i e hd;split at d
   .cases d
   .rename_i ea Q;split at d
    .cases d
    .have⟨J,d,Y⟩:=Gl d;have⟨l,d,L⟩:=Gl d;have⟨h1,d⟩:=Bs d;have⟨O,Z⟩:=(BC _ _).1 h1;have O:=beq_eq O;have Z:=beq_eq Z;subst O;subst Z;refine⟨_,_,d,fun i w r j q p k G A D B=>?_⟩;cases G.conc oS;refine⟨i,_,BJ.le.refl i,?_,rfl,k⟩;rw[B.of_none];have:=JL (P:=P) true 0 0 0 0 w A D L Y (Ai _) (Ai _);simp only[Instr.sliceAt,Ay,hu,Am,hd,Instr.slice,this,Cs c Q,AJ];rfl
  ·
   rename_i e b o len cap f hd;split at d
   .cases d
   .rename_i ea Q;split at d
    .have⟨J,d,Y⟩:=Gl d;have⟨l,d,L⟩:=Gl d;have⟨h1,d⟩:=Bs d;have⟨O,Z⟩:=(BC _ _).1 h1;have O:=ble_eq O;have Z:=ble_eq Z;have u:∀i w r j q p,BK C i h w->VR i (.sl b o len cap f) r->OV i lo j->OV i hi q->OV i none p->∃x,i b=some x/\
       (Instr.sliceAt t r j q p).run P w= .ok (.slice (if(if f then cap+x.extra else cap)=l then some ⟨x.blk,x.shift+o,none⟩ else some ⟨x.blk,x.shift+(o+l*ea.size),none⟩) (J-l) ((if f then cap+x.extra else cap)-l)) w:=by
      intro i w r j q p k G A D B;have:=G.conc oS;simp only[conc,Af] at this;obtain⟨x,H,rfl⟩:=this;refine⟨x,H,?_⟩;rw[B.of_none];have U:J<=(if f then cap+x.extra else cap):=by split<;>omega
      have:=JL (P:=P) true len (if f then cap+x.extra else cap) l J w A D L Y O U;simp only[Instr.sliceAt,Ay,hu,Am,hd,Instr.slice,this,Cs c Q,AJ,Bf,Hj,Ea]
     rcases Ex d with⟨M,d⟩|⟨M,d⟩
     .have M:=beq_eq M;have S:J=l:=oO;rcases Ex d with⟨h5,d⟩|⟨h5,d⟩
      .rcases Ex d with⟨h6,d⟩|⟨h6,d⟩
       .have h6:=beq_eq h6;refine⟨_,_,d,fun i w r j q p k G A D B=>?_⟩;have⟨x,H,R⟩:=u i w r j q p k G A D B;refine⟨i,_,BJ.le.refl i,R,?_,k⟩;subst h6;subst h5;have:cap=0:=oO;subst this;simp only[conc,H,Bf,if_true,CC,S,Nat.sub_zero,JS,Eb,ite_self]
       .split at d
        .rename_i cs e' z hm;have⟨h7,d⟩:=Bs d;have⟨h8,h9⟩:=(BC _ _).1 h7;have h8:=beq_eq h8;have h9:=beq_eq h9;rw[Dx] at d;have⟨m,d,hp⟩:=CO d;refine⟨_,_,d,fun i w r j q p k G A D B=>?_⟩;have⟨x,H,R⟩:=u i w r j q p k G A D B;subst h5;have hn:=k.fresh _ (Ai _);obtain⟨y,hy⟩:∃y:Loc,y=if x.extra=0 then⟨x.blk,x.shift+o,0⟩ else⟨x.blk,x.shift+(o+l*ea.size),x.extra⟩:=⟨_,rfl⟩;have a2:=k.lp y;refine⟨i.put h.nx y,_,a2,R,?_,k.bump_put y▸(k.more hp).map_ownless (ao:= .tail b cs.length) (by rw[hp];rw[if_pos rfl]) oS hn rfl y ⟨x,a2 _ _ H,?_,fun h0=>?_⟩⟩
         .simp only[conc,BJ.put_same,Bf,if_true,CC,Eb,S,Nat.sub_self];by_cases e0:x.extra=0
          .rw[if_pos e0] at hy;subst hy;rw[if_pos oO];simp;omega
          .rw[if_neg e0] at hy;subst hy;rw[if_neg oO];simp;omega
         .subst hy;split<;>rfl
         .subst hy;by_cases e0:x.extra=0
          .rw[if_pos e0] at h0;simp at h0
          .rw[if_neg e0];refine⟨?_,Ai _⟩;have:o+l*ea.size=cs.length:=by rw[M];exact h8
           simp;omega
        .cases d
      .refine⟨_,_,d,fun i w r j q p k G A D B=>?_⟩;have⟨x,H,R⟩:=u i w r j q p k G A D B;refine⟨i,_,BJ.le.refl i,R,?_,k⟩;subst h5;simp[conc,H,Bf,Cm,if_false,S,M,if_true,Nat.sub_self]
     .simp[Dx] at d;have M:l≠cap:=fun e=>by subst e;simp[Fx] at M
      refine⟨_,_,d,fun i w r j q p k G A D B=>?_⟩;have⟨x,H,R⟩:=u i w r j q p k G A D B;refine⟨i,_,BJ.le.refl i,R,?_,k⟩;have a4:¬(if f then cap+x.extra else cap)=l:=by split<;>omega
      rw[if_neg a4];simp only[conc,H,Bf];congr 2;show(if f=true then cap-l+x.extra else cap-l)=_;split<;>omega
    .rename_i m;split at d
     .cases d
     .rename_i hv;have⟨mk,m,em,hk2⟩:=Ff d;have⟨a3,J,eh,a5⟩:=Ff hk2;subst em;subst eh;have⟨l,d,L⟩:=Gl a5;have⟨h1,d⟩:=Bs d;have⟨O,Z⟩:=(BC _ _).1 h1;have⟨O,a1⟩:=(BC _ _).1 O;have O:=ble_eq O;have a1:=ble_eq a1;have Z:=ble_eq Z;have u:∀i w r j q p,BK C i h w->VR i (.sl b o len cap f) r->OV i lo j->OV i (some (.int a3 (.ofNat J))) q->OV i (some (.int mk (.ofNat m))) p->∃x,i b=some x/\
        (Instr.sliceAt t r j q p).run P w= .ok (.slice (if m=l then some ⟨x.blk,x.shift+o,none⟩ else some ⟨x.blk,x.shift+(o+l*ea.size),none⟩) (J-l) (m-l)) w:=by
       intro i w r j q p k G A D B;have:=G.conc oS;simp only[conc,Af] at this;obtain⟨x,H,rfl⟩:=this;refine⟨x,H,?_⟩;rw[B.of_int,D.of_int];have U:m<=(if f then cap+x.extra else cap):=by split<;>omega
       have a7:(Instr.sliceBounds true len (if f then cap+x.extra else cap) j (some (.int a3 (.ofNat J))) (some (.int mk (.ofNat m)))).run P w= .ok (l,J,m) w:=by
        unfold Instr.sliceBounds;simp only[Ay,Gm _ m _ _ _ U,Am,Gm _ J _ _ _ a1];rcases L with⟨rfl,rfl⟩|⟨kk,rfl⟩
        .rw[A.of_none];rfl
        .rw[A.of_int];simp only[Ay];rw[Gm _ l _ _ _ O];rfl
       simp only[Instr.sliceAt,Ay,hu,Am,hd,Instr.slice,a7,Cs c Q,AJ,Bf,Hj,Ea]
      rcases Ex d with⟨M,d⟩|⟨M,d⟩
      .have M:=beq_eq M;refine⟨_,_,d,fun i w r j q p k G A D B=>?_⟩;have⟨x,H,R⟩:=u i w r j q p k G A D B;refine⟨i,_,BJ.le.refl i,R,?_,k⟩;have S:J=l:=oO;simp[conc,H,Bf,Cm,if_false,S,M,if_true,Nat.sub_self]
      .simp only[Dx] at d;have M:m≠l:=fun e=>by subst e;simp[Fx] at M
       refine⟨_,_,d,fun i w r j q p k G A D B=>?_⟩;have⟨x,H,R⟩:=u i w r j q p k G A D B;refine⟨i,_,BJ.le.refl i,R,?_,k⟩;rw[if_neg M];simp only[conc,H,Bf,Cm,if_false];rfl
  ·
   rename_i n e b o hd;split at d
   .cases d
   rename_i ea Q;split at d
   .have⟨h1,d⟩:=Bs d;refine⟨_,_,d,fun i w r j q p k G A D B=>?_⟩;have:=G.conc oS;simp[conc,Af] at this;obtain⟨x,H,rfl⟩:=this;refine⟨i,.slice (some ⟨x.blk,x.shift+o,none⟩) n n,BJ.le.refl i,?_,by simp[conc,H],k⟩;rw[A.of_none,D.of_none,B.of_none];simp[Instr.sliceAt,Ay,hu,Am,hd,Instr.sureAddr,AJ,Instr.sliceBounds,Cs c Q,JS,Nat.sub_zero,Hj,Eb,ite_self]
   .cases d
end
end
section
theorem Oj:∀(s:List Nat) (g:List AV->Bool),gz s g=true->g (s.map fun n=> .int .u8 (.ofNat n))=true
 |[],g,h=>h
 |n::s,g,h=>Oj s _ (show gz s (fun l=>g (.int .u8 (.ofNat n)::l))=true from h)
variable{σ:BJ}
theorem SQ (s:List Nat) (h:Cy s=true):B2 σ (s.map fun n=>AV.int .u8 (.ofNat n))=some ((bytesOf s).data.toList.map fun b=> .int .u8 b.toNat):=by
 induction s with
 |nil=>rfl
 |cons n s c=>
  have⟨i,g⟩:=(AE _ _▸(show(Nat.ble n 255&&Cy s)=true from h):Nat.ble n 255=true/\Cy s=true);have k:=ble_eq i;have:(UInt8.ofNat n).toNat=n:=by simp[UInt8.toNat_ofNat'];omega
  simp only[BI,B2,conc,c g,Dh,Bf];simp[bytesOf,this]
theorem KF:∀{c:List AV},UY c=true->∀v∈c,Jv v=true
 |[],_,v,b=>by simp at b
 |u::c,h,v,b=>by
  have⟨i,g⟩:=Bs (show cond (Jv u) (UY c) false=true from h);rcases Az.1 b with rfl|b
  .exact i
  .exact KF g v b
variable{h:AH}
theorem PT {P:Program} {C:Ctx} {size:Nat} {x:AV} {g:List AV->Nat->Bool} (c:al h size x g=true):
  ∃m n,g m n=true/\m.length=n*size/\∀σ w j,BK C σ h w->VR σ x j->∃f,B2 σ m=some f/\(Builtin.lenOf j).run P w= .ok n w/\(Builtin.firstCells size n j).run P w= .ok f.toArray w:=by
 unfold al at c;split at c
 .refine⟨[],0,c,oS,fun σ w j k e=>?_⟩;cases e.conc oS;exact⟨[],rfl,rfl,rfl⟩
 .rename_i b o len cap i;rw[Dx] at c;have⟨M,O,e,z,ro,J,H,q,A,_,L⟩:=I4 c;refine⟨M,len,J,A,fun σ w j k e=>?_⟩;have:=e.conc oS;simp[conc,Af] at this;obtain⟨y,B,rfl⟩:=this;subst q;have⟨f,D,p,G⟩:=Ji k H B A L;refine⟨f,D,rfl,Hk p G⟩
 .rename_i s;have⟨v,c⟩:=Bs c;have v:=beq_eq v;subst v;have c:=Oj _ _ c;rw[Dx] at c;refine⟨_,s.length,c,oS,fun σ w j k e=>?_⟩;have:=e.conc oS;simp only[conc] at this;split at this
  .rename_i u;cases this;refine⟨_,SQ s u,by simp[Builtin.lenOf,Df],?_⟩;simp only[Builtin.firstCells,AJ];congr 1;apply Ch;have:(bytesOf s).extract 0 s.length=bytesOf s:=by rw[Jt];simp
   rw[this];simp
  .cases this
 .cases c
theorem Ol (z:Array Value) (n:Nat):(Builtin.zeroCells z n).size=n*z.size:=by simp[Builtin.zeroCells]
theorem lH {d:TypeDesc} (h:∀k,d≠ .int k):(match d with| .int _=>true|_=>false)=false:=by
 cases d<;>first|rfl|exact absurd rfl (h _)
theorem Zf {d:TypeDesc} (h:(match d with| .int _=>false|_=>true)=true):∀k,d≠ .int k:=fun k e=>by subst e;cases h
section
variable{P:Program} {t r e size n bytes:Nat} {d:TypeDesc} {base:Option Addr} {sLen sCap:Nat} {j:Value} {ty:TypeId} {w l:World} {f:List Value}
theorem run_append_room (p:∀w,(underlying t).run P w= .ok (.slice e) w) (o:∀w,(underlying r).run P w= .ok d w)
  (q:∀k,d≠ .int k) (m:∀w,(sizeOf e).run P w= .ok size w) (i:(Builtin.lenOf j).run P w= .ok n w) (g:(Builtin.firstCells size n j).run P w= .ok f.toArray w)
  (c:sLen+n<=sCap) (b:match base with|some a=>(storeCells (a.add (sLen*size)) f).run P w= .ok () l|none=>l=w):
  (Builtin.append_ #[t,r] ty #[.slice base sLen sCap,j]).run P w= .ok (.slice base (sLen+n) sCap) l:=by
 cases base with
 |none=>
  subst b;simp[Builtin.append_,p,o,m,i,g,c]
 |some a=>
  simp[Builtin.append_,p,o,m,i,g,c,b]
theorem Om {i:TypeInfo} {p:Value} {old:List Value} (G:∀w,(underlying t).run P w= .ok (.slice e) w) (D:∀w,(underlying r).run P w= .ok d w)
  (H:∀k,d≠ .int k) (B:∀w,(sizeOf e).run P w= .ok size w) (A:(Builtin.lenOf j).run P w= .ok n w) (z:(Builtin.firstCells size n j).run P w.drew= .ok f.toArray w.drew)
  (s:∀w,(typeInfo e).run P w= .ok i w) (v:1<=i.bytes) (x:(sLen+n)*i.bytes<=140737488355328) (g:∀w,(zeroValue e).run P w= .ok p w)
  (y:(Builtin.firstCells size sLen (.slice base sLen sCap)).run P w.drew= .ok old.toArray w.drew) (u:sCap<sLen+n):
  ∃b,sLen+n<=b/\(Builtin.append_ #[t,r] ty #[.slice base sLen sCap,j]).run P w=
   .ok (.slice (some ⟨w.heap.size,0,none⟩) (sLen+n) b) (w.drew.alloc (.cells (old++f++(Builtin.zeroCells p.cells (b-(sLen+n))).toList).toArray e)):=by
 have q:=growslice_fits u x;refine⟨(Question.appendCap (sLen+n) sCap e).cut (w.tape w.drawn (Question.appendCap (sLen+n) sCap e)),by simp[Question.cut],?_⟩;have o:¬i.bytes=0:=oO;have m:¬(sLen+n<=sCap):=oO;have c:¬(281474976710656<Builtin.nextslicecap (sLen+n) sCap*i.bytes):=oO;simp[Builtin.append_,G,D,B,A,m,s,o,c,Question.forced,z,y,g,newRow];congr 2;apply Ch;simp
end
theorem BK.take {C:Ctx} {w l:World} (k:BK C σ h w) {b:Nat} {J H:AO} {x y:Loc} (Y:h.m.get b=some J) (S:σ b=some x) (U:J.owns=true) (a0:J.ro=false)
  {m1 m2 m3:Tr AO} (a3:h.m.Put b .dead m1) (O:∀c p,m2.get c=some p->p≠ .dead->m1.get c=some p) (M:m2.Put h.nx H m3) (hy:y.blk=x.blk)
  (v:C.B<=x.blk->Below C.B w l) (A:l.heap.size=w.heap.size) (L:∀j,j≠x.blk->l.heap[j]?=w.heap[j]?) (a4:H.ro=false) (a1:OR (σ.put h.nx y) y l H):BK C (σ.put h.nx y) ⟨m3,h.nx+1⟩ l:=by
 have hB:=k.own b J x Y S U a0;have G:=k.lp y;have g:∀c p,m3.get c=some p->c≠h.nx->p≠ .dead->c≠b/\h.m.get c=some p:=fun c p u i o=>by
  rw[M c,if_neg i] at u;have s:=O c p u o;rw[a3 c] at s;by_cases e:c=b
  .grind
  .rw[if_neg e] at s;exact⟨e,s⟩
 have ne:∀{p:AO},p.owns=true->p≠ .dead:=fun h e=>by subst e;simp[AO.owns] at h
 refine⟨k.below.trans (v hB),by rw[A];exact k.base,fun n a2=>G n _ (k.glob n a2),fun c hc=>?_,(by have:=k.nx;simp[BJ.put];omega),fun c p z u i=>?_,fun c p z u i o s=>?_,fun c d p q z z' u i o s D h5 h6=>?_⟩
 .simp at hc;rw[BJ.put_other _ oO];exact k.fresh c oO
 .by_cases e:c=h.nx
  .subst e;rw[BJ.put_same] at i;cases i;rw[M,if_pos rfl] at u;cases u;exact a1
  .rw[BJ.put_other _ e] at i;by_cases hp:p= .dead
   .subst hp;trivial
   .have⟨R,o⟩:=g c p u e hp;by_cases ho:p.owns=true
    .exact(k.obj c p z o i).mono G (L _ (k.apart c b p J z x o Y i S R ho U))
    .exact(k.obj c p z o i).ownless G (by simpa using ho)
 .by_cases e:c=h.nx
  .subst e;rw[BJ.put_same] at i;cases i;rw[hy];exact hB
  .rw[BJ.put_other _ e] at i;exact k.own c p z (g c p u e (ne o)).2 i o s
 .by_cases e:c=h.nx
  .subst e;rw[BJ.put_same] at o;cases o;rw[BJ.put_other _ (Ne.symm D)] at s;have⟨R,Z⟩:=g d q i (Ne.symm D) (ne h6);rw[hy];exact fun Q=>k.apart d b q J z' x Z Y s S R h6 U Q.symm
  .rw[BJ.put_other _ e] at o;have⟨R,Z⟩:=g c p u e (ne h5);by_cases Q:d=h.nx
   .subst Q;rw[BJ.put_same] at s;cases s;rw[hy];exact k.apart c b p J z x Z Y o S R h5 U
   .rw[BJ.put_other _ Q] at s;have⟨e4,h8⟩:=g d q i Q (ne h6);exact k.apart c d p q z z' Z h8 o s D h5 h6
section
variable{P:Program} {E:Env} {C:Ctx} (a:Em P E C)
include a
theorem Jd {t r e n:Nat} {c:TD} {d:TypeDesc} {base:Option Addr} {sLen sCap:Nat} {j:Value} {ty:TypeId} {w:World} {f old:List Value} {B os:List AV} {m:Tr AO}
  (h1:∀w,(underlying t).run P w= .ok (.slice e) w) (h2:∀w,(underlying r).run P w= .ok d w) (S:∀k,d≠ .int k) (y:E.ty.get e=some c) (H:isBad c.zero=false) (u:(cellsOf c.zero).length=c.size) (Y:1<=c.bytes) (A:c.bytes<=65536) (L:1<=c.size)
  (h4:(Builtin.lenOf j).run P w= .ok n w) (h5:(Builtin.firstCells c.size n j).run P w.drew= .ok f.toArray w.drew) (Z:(Builtin.firstCells c.size sLen (.slice base sLen sCap)).run P w.drew= .ok old.toArray w.drew)
  (U:sCap<sLen+n) (p:sLen+n<=1048576) (k:BK C σ h w) (O:h.m.Put h.nx (.cells (os++B) e c.size false) m) (Q:B2 σ os=some old) (J:B2 σ B=some f):
  ∃o z l,σ.le o/\(Builtin.append_ #[t,r] ty #[.slice base sLen sCap,j]).run P w= .ok z l/\conc o (.sl h.nx 0 (sLen+n) (sLen+n) true)=some z/\BK C o ⟨m,h.nx+1⟩ l:=by
 obtain⟨i,R,x⟩:∃i,(∀w,(typeInfo e).run P w= .ok i w)/\i.bytes=c.bytes:=by
  have⟨i,q1,q2,q3,q4,q5⟩:=a.ty e c y;exact⟨i,fun w=>by simp[typeInfo,q1],q4⟩
 obtain⟨g,q,v⟩:∃g,(∀w,(zeroValue e).run P w= .ok g w)/\∀σ,conc σ c.zero=some g:=by
  have⟨i,q1,q2,q3,q4,q5⟩:=a.ty e c y;have⟨g,G,D⟩:=q5 H;exact⟨g,fun w=>by simp[zeroValue,typeInfo,q1,G],D⟩
 have s:g.cells.size=c.size:=by
  have:=BT (F0 (v σ));rw[u] at this;simpa using this
 obtain⟨b,hn,M⟩:=Om h1 h2 S (fun w=>Cs a y w) h4 h5 R oO (by rw[x];exact Bj (Nat.mul_le_mul p A) oD) q Z U;obtain⟨r1,r2⟩:=Kb (w:=w.drew) k.drew O (II Q J) (Builtin.zeroCells g.cells (b-(sLen+n))).toList (b-(sLen+n))
  (by simp[Ol,s]) (old++f++(Builtin.zeroCells g.cells (b-(sLen+n))).toList).toArray oS (fun e=>oO)
 refine⟨_,_,_,r2,M,?_,r1⟩;simp only[conc,BJ.put_same,Bf,if_true];have:sLen+n+(b-(sLen+n))=b:=oO;rw[this];rfl
theorem QL {t r:TypeId} {s x:AV} {g:AV->AH->Bool} (B:Qx E t r s x h g=true):
  ∃v h',g v h'=true/\∀(ty:TypeId) σ w s' j,BK C σ h w->VR σ s s'->VR σ x j->∃c4 z l,σ.le c4/\(Builtin.append_ #[t,r] ty #[s',j]).run P w= .ok z l/\conc c4 v=some z/\BK C c4 h' l:=by
 unfold Qx at B;split at B
 .rename_i e _ _ _ xa g8 g4;have h1:=fun w=>Cq a g8 (w:=w)
  have h2:=fun w=>Cq a g4 (w:=w)
  simp only at h1;split at B
  .cases B
  .rename_i G he;have⟨hc,B⟩:=Bs B;have⟨i0,h9⟩:=(BC _ _).1 hc;have⟨b0,b4⟩:=(BC _ _).1 i0;have⟨h8,hd⟩:=(BC _ _).1 h9;have⟨b3,h7⟩:=(BC _ _).1 h8;have⟨hz,a9⟩:=(BC _ _).1 h7;have b0:=ble_eq b0;have b4:=ble_eq b4;have b3:=ble_eq b3;have a9:=beq_eq a9;have hz:isBad G.zero=false:=by simpa using hz
   have hd:=Zf hd;have⟨xs,n,hk2,e7,A⟩:=PT (P:=P) (C:=C) B;have B:=hk2
   cases s with
   |snil=>
    cases n with
    |zero=>
     refine⟨_,_,(show g .snil h=true from B),fun ty σ w s' j k e1 S=>?_⟩;cases e1.conc oS;have⟨f,M,Z,v3⟩:=A σ w j k S;exact⟨σ,_,w,BJ.le.refl σ,run_append_room (base:=none) (sLen:=0) (sCap:=0) h1 h2 hd (fun w=>Cs a he w) Z v3 oO rfl,rfl,k⟩
    |succ n=>
     have B:=B;have⟨O,B⟩:=Bs B;have⟨m,B,hp⟩:=CO B;refine⟨_,_,B,fun ty σ w s' j k e1 S=>?_⟩;cases e1.conc oS;have⟨f,M,Z,v3⟩:=A σ w j k S;have⟨U,J,c5,Y⟩:=A σ w.drew j k.drew S;rw[M] at J;cases J;have:=Jd a (ty:=ty) (base:=none) (sLen:=0) (sCap:=0) (old:=[]) (os:=[]) h1 h2 hd he hz a9 b4 b3 b0 Z Y rfl oO (by have:=ble_eq O;omega) k (by simpa using hp) rfl M;simpa using this
   |sl b o len cap D=>
    simp only[Dx] at B;rcases Ex B with⟨u,B⟩|⟨u,B⟩
    .have u:=ble_eq u;have u:len+n<=cap:=u;have c2:∀σ s',VR σ (.sl b o len cap D) s'->∃y,σ b=some y/\s'= .slice (some ⟨y.blk,y.shift+o,none⟩) len (if D then cap+y.extra else cap)/\len+n<=(if D then cap+y.extra else cap):=fun σ s' e1=>by
      have:=e1.conc oS;simp only[conc,Af] at this;obtain⟨y,hy,rfl⟩:=this;exact⟨y,hy,rfl,by split<;>omega⟩
     cases n with
     |zero=>
      refine⟨_,_,(show g (.sl b o (len+0) cap D) h=true from B),fun ty σ w s' j k e1 S=>?_⟩;obtain⟨y,hy,rfl,H⟩:=c2 σ s' e1;have⟨f,M,Z,v3⟩:=A σ w j k S;have g6:f=[]:=by have:=BT M;rw[e7] at this;simpa using this
      subst g6;refine⟨σ,_,w,BJ.le.refl σ,run_append_room (base:=some ⟨y.blk,y.shift+o,none⟩) h1 h2 hd (fun w=>Cs a he w) Z v3 H rfl,?_,k⟩;simp[conc,hy]
     |succ n=>
      have B:(aG h b (Nat.add o (Nat.mul len G.size)) xs fun h=>g (.sl b o (len+(n+1)) cap D) h)=true:=B;have⟨cs,e',z,m,B,hm,hl,hs,hp⟩:=Lj B;refine⟨_,_,B,fun ty σ w s' j k e1 S=>?_⟩;obtain⟨y,hy,rfl,H⟩:=c2 σ s' e1;have⟨f,M,Z,v3⟩:=A σ w j k S;have⟨l,r1,r2⟩:=NN (P:=P) k hm hl hs hp hy M;refine⟨σ,_,l,BJ.le.refl σ,run_append_room (base:=some ⟨y.blk,y.shift+o,none⟩) h1 h2 hd (fun w=>Cs a he w) Z v3 H (by simp only[Hj];rw[Ea];exact r1),?_,r2⟩;simp[conc,hy]
    .have u:¬(len+n<=cap):=fun H=>by
      have:Nat.ble (len+n) cap=true:=by rw[Nat.ble_eq];exact H
      rw[show Nat.ble (Nat.add len n) cap=Nat.ble (len+n) cap from rfl] at u;rw[this] at u;cases u
     have⟨O,B⟩:=Bs B;have O:len+n<=1048576:=ble_eq O;split at B
     ·
      rename_i b' L b2;have⟨hq,c0⟩:=Bs B;have⟨b8,h3⟩:=(BC _ _).1 hq;have⟨a6,g9⟩:=(BC _ _).1 h3;have a6:=KF a6;have⟨e8,c9⟩:=(BC _ _).1 g9;have e8:cap+len=0:=beq_eq e8;have c9:=beq_eq c9;obtain⟨rfl,rfl⟩:cap=0/\len=0:=oO;subst b8;subst c9;split at c0
      .rename_i cs e' z c3;have⟨pq,a7⟩:=Bs c0;have⟨b6,c8⟩:=(BC _ _).1 pq;have⟨a0,Q⟩:=(BC _ _).1 c8;have b6:=beq_eq b6;have a0:=beq_eq a0;have Q:=beq_eq Q;subst b6;subst a0;subst Q;have⟨m1,b9,b1⟩:=Tr.set_spec _ _ _ _ a7;have⟨m2,e5,g0⟩:=Tr.set_spec _ _ _ _ b9;have⟨m3,e4,b7⟩:=CO e5;refine⟨_,_,e4,fun ty σ w s' j k e1 S=>?_⟩;have:=e1.conc oS;simp only[conc,Af,if_true,CC,Eb] at this;obtain⟨y,hy,rfl⟩:=this;have⟨f,M,Z,v3⟩:=A σ w j k S;have⟨U,J,c5,Y⟩:=A σ w.drew j k.drew S;rw[M] at J;cases J;have⟨y0,e6,a8,g7⟩:=k.obj b _ y b2 hy;by_cases g3:n<=y.extra
       .have⟨i5,i4⟩:=g7 oO;have⟨arr,fz,a1,a2,a3,a4⟩:=k.obj b' _ y0 c3 e6;have g5:=BT M;have g2:n*G.size<=y0.extra*G.size:=Ef _ oO;have a5:∀v∈f,v.oneCell'=true:=Gu M a6;have⟨l,c1,r1,r2,r3,r4,r5,r6,r7⟩:=H0 (P:=P) y.blk y.shift e' fz f 0 arr w (by rw[a8];exact a1) oO (KX (a4.1 rfl)) a5;have hk1:=(k.kill b1);have H:=k.lp ⟨y.blk,y.shift,y.extra-n⟩;refine⟨σ.put h.nx ⟨y.blk,y.shift,y.extra-n⟩,_,l,H,run_append_room (base:=some ⟨y.blk,y.shift,none⟩) h1 h2 hd (fun w=>Cs a he w) Z v3 oO (by simp only[Hj,JS,Eb];exact r1),?_,?_⟩
        .simp only[conc,BJ.put_same,Bf,if_true,CC,Eb];have:n+(y.extra-n)=y.extra:=oO;rw[show Nat.add 0 n=n from CC n,this]
        .refine k.take (b:=b') (x:=y0) c3 e6 rfl rfl b1 (m2:=m2) (fun c p hc e9=>by rw[g0] at hc;by_cases e:c=b;(rw[if_pos e] at hc;cases hc;exact absurd rfl e9);(rw[if_neg e] at hc;exact hc)) b7 a8 (by rw[<-a8];exact r7 _) r5 (by rw[<-a8];exact r6) rfl<|⟨c1,fz,r2,?_,fun i v hi=> .inr ?_,fun _=>(by rw[r3];exact a4.1 rfl),fun e=>oO⟩
         .rw[r3];have:(y.extra-n)*G.size+n*G.size<=y0.extra*G.size:=by rw[<-Nat.add_mul];exact Ef _ oO
          simp only;omega
         .have⟨q,hq,hc⟩:=CG M i v hi;refine⟨q,?_,EF H _ _ hc⟩;have h5:i<f.length:=(Aa.1 hq).1;rw[r4,if_pos oT];have:y.shift+i-(y.shift+0)=i:=oO;simp[this];exact hq
       .have k2:BK C σ ⟨m2,h.nx⟩ w:=(k.kill b1).kill g0;have:=Jd a (ty:=ty) (base:=some ⟨y.blk,y.shift,none⟩) (sLen:=0) (sCap:=y.extra) (old:=[]) (os:=[]) h1 h2 hd he hz a9 b4 b3 b0 Z Y (by simp[Builtin.firstCells,loadCells,loadCellsFrom]) oO oO k2 (by simpa using b7) rfl M;simpa using this
      .cases c0
     .have⟨os,b5,i6,i3,i1,c0,e3,h4,e0,_,g1⟩:=I4 B;subst h4;rcases Ex c0 with⟨b8,a7⟩|⟨b8,a7⟩
      .subst b8;split at a7
       .rename_i cs e' z b2;rw[b2] at e3;cases e3;have⟨pq,b9⟩:=Bs a7;have⟨b6,c8⟩:=(BC _ _).1 pq;have⟨a0,Q⟩:=(BC _ _).1 b6;have⟨c7,c6⟩:=(BC _ _).1 c8;have⟨a6,Q⟩:=(BC _ _).1 Q;have a6:=KF a6;have a0:=beq_eq a0;have c7:=beq_eq c7;have c6:=beq_eq c6;have Q:o+len*G.size=b5.length:=beq_eq Q;subst a0;subst c7;subst c6;have⟨m1,e5,b1⟩:=Tr.set_spec _ _ _ _ b9;have⟨m3,e4,b7⟩:=CO e5;refine⟨_,_,e4,fun ty σ w s' j k e1 S=>?_⟩;have:=e1.conc oS;simp only[conc,Af,if_true] at this;obtain⟨y,hy,rfl⟩:=this;have⟨f,M,Z,v3⟩:=A σ w j k S;have⟨U,J,c5,Y⟩:=A σ w.drew j k.drew S;rw[M] at J;cases J;have⟨old,q1,q2,q3⟩:=Ji (w:=w.drew) k.drew b2 hy e0 g1;have⟨arr,fz,a1,a2,a3,a4⟩:=k.obj b _ y b2 hy;by_cases g3:n<=y.extra
        .have g5:=BT M;have R:((b5.drop o).take (len*G.size)).length=len*G.size:=e0;have i2:old.length=len*G.size:=(BT q1).trans R;have g2:n*G.size<=y.extra*G.size:=Ef _ g3;have a5:∀v∈f,v.oneCell'=true:=Gu M a6;have⟨l,c1,r1,r2,r3,r4,r5,r6,r7⟩:=H0 (P:=P) y.blk (y.shift+o+len*G.size) _ fz f 0 arr w a1 oO (KX (a4.1 rfl)) a5;have H:=k.lp ⟨y.blk,y.shift+o,y.extra-n⟩;refine⟨σ.put h.nx ⟨y.blk,y.shift+o,y.extra-n⟩,_,l,H,run_append_room (base:=some ⟨y.blk,y.shift+o,none⟩) h1 h2 hd (fun w=>Cs a he w) Z v3 oO (by simp only[Hj];exact r1),?_,?_⟩
         .simp only[conc,BJ.put_same,Bf,if_true,Eb];have:len+n+(y.extra-n)=len+y.extra:=oO;rw[show Nat.add len n=len+n from rfl,this]
         .refine k.take (b:=b) (x:=y) b2 hy rfl rfl b1 (m2:=m1) (fun c p hc e9=>hc) b7 rfl (r7 _) r5 r6 rfl<|⟨c1,fz,r2,?_,fun i v hi=> .inr ?_,fun _=>(by rw[r3];exact a4.1 rfl),fun e=>oO⟩
          .rw[r3];have:(y.extra-n)*G.size+n*G.size<=y.extra*G.size:=by rw[<-Nat.add_mul];exact Ef _ oO
           have h0:((b5.drop o).take (Nat.mul len G.size)).length=len*G.size:=R;simp only[Cf,h0,e7];omega
          .by_cases h6:i<len*G.size
           .rw[AW (by rw[show((b5.drop o).take (Nat.mul len G.size)).length=len*G.size from R];exact h6)] at hi;have⟨q,hq,hc⟩:=CG q1 i v hi;refine⟨q,?_,EF H _ _ hc⟩;rw[r4,if_neg (by simp only;omega)];have:=q3 i q hq;rw[cell_of (w:=w.drew) a1] at this;exact this
           .rw[BR (by rw[show((b5.drop o).take (Nat.mul len G.size)).length=len*G.size from R];omega),show((b5.drop o).take (Nat.mul len G.size)).length=len*G.size from R] at hi;have⟨q,hq,hc⟩:=CG M _ v hi;refine⟨q,?_,EF H _ _ hc⟩;have h5:i-len*G.size<f.length:=(Aa.1 hq).1;rw[r4,if_pos oT];have:y.shift+o+i-(y.shift+o+len*G.size+0)=i-len*G.size:=oO;simp only[this];exact hq
        .have k2:BK C σ ⟨m1,h.nx⟩ w:=k.kill b1;exact Jd a (ty:=ty) h1 h2 hd he hz a9 b4 b3 b0 Z Y (by simp only[Builtin.firstCells];exact Hk q2 q3) oO O k2 b7 q1 M
       .cases a7
      .subst b8;have⟨m,b9,hp⟩:=CO a7;refine⟨_,_,b9,fun ty σ w s' j k e1 S=>?_⟩;have:=e1.conc oS;simp[conc,Af,Cm,if_false] at this;obtain⟨y,hy,rfl⟩:=this;have⟨f,M,Z,v3⟩:=A σ w j k S;have⟨U,J,c5,Y⟩:=A σ w.drew j k.drew S;rw[M] at J;cases J;have⟨old,q1,q2,q3⟩:=Ji (w:=w.drew) k.drew e3 hy e0 g1;exact Jd a (ty:=ty) h1 h2 hd he hz a9 b4 b3 b0 Z Y (by simp only[Builtin.firstCells];exact Hk q2 q3) oO O k hp q1 M
   |_=>cases B
 .cases B
end
end
section
theorem OB (a:Nat):∀(l:List Value) (k:Nat) (b:Array Value),a+k+l.length<=b.size->
  ((l.zipIdx k).foldl (fun(b:Array Value) (x:Value×Nat)=>b.setIfInBounds (a+x.2) x.1) b).size=b.size/\
  ∀j,((l.zipIdx k).foldl (fun(b:Array Value) (x:Value×Nat)=>b.setIfInBounds (a+x.2) x.1) b)[j]?=if a+k<=j/\j<a+k+l.length then l[j-(a+k)]? else b[j]?
 |[],k,b,h=>⟨rfl,fun j=>by rw[if_neg oS];rfl⟩
 |v::l,k,b,h=>by
  simp only[List.zipIdx_cons,List.foldl_cons];simp only[BU] at h⊢;have⟨d,c⟩:=OB a l (k+1) (b.setIfInBounds (a+k) v) oT;refine⟨by rw[d];simp,fun j=>?_⟩;rw[c];by_cases e:a+(k+1)<=j/\j<a+(k+1)+l.length
  .grind
  .grind
theorem ZS {a size:Nat} {v:Value} {l:List Value} (d:v.cells.size=size) (e:a+size<=l.length):
  (v.cells.zipIdx.foldl (fun(c:Array Value) (x:Value×Nat)=>c.setIfInBounds (a+x.2) x.1) l.toArray).toList=l.take a++v.cells.toList++l.drop (a+v.cells.toList.length):=by
 rw[<-Array.foldl_toList,Array.toList_zipIdx];have⟨f,b⟩:=OB a v.cells.toList 0 l.toArray oT;apply EM;intro j;rw[BP,b,Jh _ _ _ _ oT];by_cases g:j<a
 .grind
 .grind
section
variable{P:Program} {E:Env} {C:Ctx} (hE:Em P E C)
include hE
theorem Hl {b:Nat->(Nat->Nat->Bool)->Bool} {G:Tr AV} {pc:Nat->Option (Nat×Nat)} (t:∀i f,b i f=true->∃a size,f a size=true/\pc i=some (a,size)):
  ∀{ps:List (Nat×Operand)} {m:List AV} {g:List AV->Bool},Ir E b G ps m g=true->
  ∃q,g q=true/\∀o J w d l,BK C o J w->Rc o G d->B2 o m=some l->∃H,Instr.fill pc l.toArray (ps.map fun(i,x)=>(i,d x))=some H.toArray/\B2 o q=some H
 |[],m,g,h=>⟨m,h,fun o J w d l _ _ B=>⟨l,rfl,B⟩⟩
 |p::ps,m,g,h=>by
  have h':ev E p.2 G (fun v=>b p.1 fun a size=>cond (Nat.beq (cellsOf v).length size) (DL a (cellsOf v) m fun m=>Ir E b G ps m g) false)=true:=h;have⟨v,Z,L⟩:=BH hE h';have⟨a,size,h2,J⟩:=t _ _ Z;have⟨R,h4⟩:=Bs h2;have R:=beq_eq R;have⟨h5,h6,h7⟩:=Jg _ _ _ _ h4;have⟨q,hg,hs⟩:=Hl t h5;refine⟨q,hg,fun o y w d l k S B=>?_⟩;have O:=L o y w d k S;have Q:v≠ .bad:=fun e=>by
   subst e;have:=h7 .bad (by simp[cellsOf]);simp[Jv] at this
  have M:=O.conc Q;have D:=F0 M;have n:=BT D;have a0:=BT B;have s:(d p.2).cells.size=size:=by rw[R] at n;simpa using n
  have A:B2 o (m.take a++cellsOf v++m.drop (a+(cellsOf v).length))=some (l.take a++(d p.2).cells.toList++l.drop (a+(d p.2).cells.toList.length)):=by
   refine GL (by simp;simp at n;omega) fun i u r=>?_
   rw[Jh _ _ _ _ h6] at r;rw[Jh _ _ _ _ (by simp;simp at n;omega)];have he:(d p.2).cells.toList.length=(cellsOf v).length:=n;rw[he];by_cases Y:i<a
   .rw[if_pos Y] at r⊢;exact CG B i u r
   .rw[if_neg Y] at r⊢;by_cases U:i<a+(cellsOf v).length
    .rw[if_pos U] at r⊢;exact CG D _ u r
    .rw[if_neg U] at r⊢;exact CG B i u r
  have⟨H,r1,r2⟩:=hs o y w d _ k S A;refine⟨H,?_,r2⟩;simp only[BI,Instr.fill,J];have z:a+size<=l.length:=oO;rw[if_neg (by simp[s];omega)];have hf:=ZS s z;rw[show((d p.2).cells.zipIdx.foldl (fun m (x:Value×Nat)=>match x with|(c,j)=>m.setIfInBounds (a+j) c) l.toArray)=
   (l.take a++(d p.2).cells.toList++l.drop (a+(d p.2).cells.toList.length)).toArray from by
    apply Ch;rw[<-hf]]
  exact r1
end
end
end Go.Refl
