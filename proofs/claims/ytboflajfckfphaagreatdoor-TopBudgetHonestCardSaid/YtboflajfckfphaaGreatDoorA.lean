/- A part of the proof of TopBudgetHonest. -/
import Derived.IntWalk
import Derived.Lib.Hide
import Derived.Test.YtboflajfckfphaaGreatDoorProg
set_option linter.all false
section
theorem oC {α:Type} {x:Option α} {a b:α} (h:x=some a) (e:a=b:=by kernel_rfl):x=some b:=h.trans (congrArg some e)
theorem oO {p:Prop} (h:p:=by omega):p:=h
theorem oD {p:Prop} (h:p:=by decide):p:=h
theorem oS {p:Prop} (h:p:=by simp):p:=h
theorem oK {p:Prop} (h:p:=by kernel_rfl):p:=h
theorem oT {p:Prop} (h:p:=by simp;omega):p:=h
abbrev Aa:=@List.getElem?_eq_some_iff
abbrev Ab:=@List.getElem?_eq_getElem
abbrev Af:=@Option.map_eq_some_iff
abbrev Ah:=@Option.some.inj
abbrev Ai:=@Nat.le_refl
abbrev Ak:=@Array.getElem?_eq_some_iff
abbrev Am:=@Go.Result.andThen_ok
abbrev Aq:=@Go.Lib.hid
abbrev Ax:=@Go.World.ownsRow.lt
abbrev Ay:=@Go.Sem.run_bind
abbrev Az:=@List.mem_cons
abbrev A0:=@Option.some.injEq
abbrev AD:=@List.getElem?_set_self
abbrev AE:=@Bool.and_eq_true
abbrev AI:=@List.getElem?_set_ne
abbrev AJ:=@Go.Sem.run_pure
abbrev AQ:=@List.mem_of_getElem?
abbrev AS:=@Array.getD_eq_getD_getElem?
abbrev AW:=@List.getElem?_append_left
abbrev Bb:=@Go.IntWalk.i64_in
abbrev Bf:=@Option.map_some
abbrev Bh:=@Nat.eq_of_beq_eq_true
abbrev Bi:=@List.all_eq_true
abbrev Bj:=@Nat.le_trans
abbrev Bn:=@Nat.le_of_ble_eq_true
abbrev Bq:=@Option.isSome_iff_exists
abbrev Bv:=@List.setIfInBounds_toArray
abbrev Bw:=@List.mem_iff_getElem?
abbrev Bx:=@Nat.lt_of_lt_of_le
abbrev Bz:=@List.getElem?_map
abbrev B0:=@List.mem_append
abbrev B3:=@List.set_cons_zero
abbrev B9:=@List.set_cons_succ
abbrev BB:=@List.mem_map
abbrev BI:=@List.map_cons
abbrev BP:=@Array.getElem?_toList
abbrev BR:=@List.getElem?_append_right
abbrev BS:=@List.all_cons
abbrev BU:=@List.length_cons
abbrev BX:=@List.getElem?_eq_none
abbrev BY:=@List.eq_nil_of_length_eq_zero
abbrev Ca:=@List.length_take
abbrev Cb:=@Go.World.block_lt_of_cell?
abbrev Cc:=@List.pairwise_iff_getElem
abbrev Ce:=@List.getElem?_take
abbrev Cf:=@List.length_append
abbrev Ch:=@Array.ext'
abbrev Cm:=@Bool.false_eq_true
abbrev Co:=@List.drop_eq_getElem_cons
abbrev Cv:=@Bool.or_eq_true
abbrev Cw:=@List.all_nil
abbrev Cx:=@Option.bind_eq_some_iff
abbrev CB:=@List.nodup_append
abbrev CC:=@Nat.zero_add
abbrev CJ:=@List.length_map
abbrev CK:=@List.take_add_one
abbrev CL:=@Bool.not_eq_true'
abbrev CT:=@Go.World.frozen?_of_block
abbrev CW:=@Array.getElem?_eq_none
abbrev CX:=@List.take_of_length_le
abbrev CY:=@List.pairwise_cons
abbrev Db:=@List.map_append
abbrev Dc:=@List.nodup_cons
abbrev Dh:=@Option.bind_some
abbrev Di:=@List.map_congr_left
abbrev Dk:=@List.mem_cons_of_mem
abbrev Dl:=@List.getElem?_drop
abbrev Dm:=@List.not_mem_nil
abbrev Do:=@Nat.lt_or_ge
abbrev Dp:=@List.map_set
abbrev Dy:=@Array.getElem?_setIfInBounds
abbrev Dz:=@Bool.eq_iff_iff
abbrev D4:=@List.map_nil
abbrev D6:=@Nat.eq_zero_or_pos
abbrev D7:=@Nat.mod_lt
abbrev D9:=@List.getElem?_replicate
abbrev DA:=@List.cons_append
abbrev DE:=@Go.World.ownsRow.frozenAt
abbrev DJ:=@Array.getElem?_setIfInBounds_ne
abbrev DK:=@Array.getElem?_eq_getElem
abbrev DN:=@Array.getElem?_modify
abbrev DU:=@List.getElem_mem
abbrev DV:=@Nat.lt_succ_self
abbrev DZ:=@List.map_take
abbrev Ea:=@Nat.add_assoc
abbrev Eb:=@Nat.add_zero
abbrev Ed:=@Go.World.ownsRow.cellAt
abbrev Ee:=@List.getElem?_append
abbrev Ef:=@Nat.mul_le_mul_right
abbrev Ew:=@List.drop_eq_nil_of_le
abbrev E4:=@List.map_toArray
abbrev E7:=@List.length_replicate
abbrev EL:=@Int.toNat_natCast
abbrev EM:=@List.ext_getElem?
abbrev EN:=@List.map_map
abbrev Fb:=@List.append_toArray
abbrev Fg:=@List.any_eq_true
abbrev Fv:=@List.map_replicate
abbrev Fw:=@Array.ext_getElem?
abbrev Fx:=@Nat.beq_refl
abbrev F2:=@List.length_nil
abbrev F3:=@Nat.min_eq_left
abbrev FA:=@Nat.ble_eq_true_of_le
abbrev FB:=@List.length_singleton
abbrev FY:=@Go.World.ownsRow.stored
abbrev G9:=@Nat.add_right_cancel_iff
abbrev GA:=@Array.setIfInBounds_comm
abbrev GF:=@List.mem_filter
abbrev GQ:=@List.mem_singleton
abbrev GR:=@Nat.add_right_comm
abbrev GZ:=@List.getElem?_cons_zero
abbrev Ha:=@Nat.zero_le
abbrev Hn:=@List.append_assoc
abbrev Ho:=@List.mapM_cons
abbrev Hq:=@List.nodup_nil
abbrev Hr:=@List.set_set
abbrev Im:=@Array.getElem?_mapIdx
abbrev IA:=@Nat.lt_of_not_le
abbrev IB:=@List.take_length
abbrev Jo:=@List.mem_of_mem_take
abbrev Jx:=@List.nil_append
abbrev Jy:=@List.length_set
abbrev Jz:=@Array.length_toList
abbrev J0:=@List.getElem?_range
abbrev JS:=@Nat.zero_mul
abbrev Kq:=@Array.getElem?_append_left
abbrev Kr:=@List.getD_eq_getElem?_getD
abbrev Ks:=@List.mem_range
end
namespace Bud
def G2 (x:Int):Int:=(x+9223372036854775808)%18446744073709551616- 9223372036854775808
def Ih:Int:=1099511627776
def lim:Nat:=1099511627776
structure Cl where
 l:List Int
 Q:Bool
 X:Int
structure St where
 n:Nat
 K:List Cl
 W:List (List Nat)
 V:List (Option Bool)
 H:List Nat
 Y:List (Option Nat)
 L:List Int
 D:List Nat
 d:Nat
 X:List Int
 J:Int
 O:List Nat
 P:List Int
 F:List Bool
 Q:List Nat
 Z:Bool
 U:List Bool
def B7 (x:Int):Nat:=x.natAbs
def EC (x:Int):Nat:=if x<0 then 2*x.natAbs+1 else 2*x.natAbs
def KK (s:St) (x:Int):Option (Option Bool):=(s.V[B7 x]?).map fun v=>if x<0 then v.map (!·) else v
def Z5 (a b:Int) (v w:Nat):Bool:=if b<a then true else if a<b then false else decide (v<w)
def Jm (s:St) (v w:Nat):Option Bool:=
 match s.X[v]?,s.X[w]? with
 |some a,some b=>some (Z5 a b v w)
 |_,_=>none
def H8 (s:St) (i k:Nat):Option St:=
 match s.O[i]?,s.O[k]? with
 |some a,some b=>if a<s.P.length/\b<s.P.length then some {s with O:=(s.O.set i b).set k a,P:=(s.P.set b i).set a k} else none
 |_,_=>none
def VE:Nat->St->Nat->Option St
 |0,_,_=>none
 |f+1,s,i=>
  if i=0 then some s else
  match s.O[i]?,s.O[(i- 1)/2]? with
  |some a,some b=>match Jm s a b with
   |some false=>some s
   |some true=>match H8 s i ((i- 1)/2) with
    |some c=>VE f c ((i- 1)/2)
    |none=>none
   |none=>none
  |_,_=>none
def GO (s:St) (c k:Nat):Option Nat:=
 if k<s.O.length then
  match s.O[k]?,s.O[c]? with
  |some a,some b=>(Jm s a b).map fun h=>if h then k else c
  |_,_=>none
 else some c
def I7:Nat->St->Nat->Option St
 |0,_,_=>none
 |f+1,s,i=>
  if lim<=i then none else
  match GO s i (2*i+1) with
  |some c=>match GO s c (2*i+2) with
   |some a=>if a=i then some s else match H8 s i a with
    |some b=>I7 f b a
    |none=>none
   |none=>none
  |none=>none
def Mv (s:St):Option (Nat×St):=
 match s.O[0]? with
 |some v=>match H8 s 0 (s.O.length- 1) with
  |some b=>
   let a:St:={b with O:=b.O.take (b.O.length- 1),P:=b.P.set v (-1)}
   if 0<a.O.length then(I7 (a.O.length+1) a 0).map fun c=>(v,c) else some (v,a)
  |none=>none
 |none=>none
def Ii (s:St):Nat->Option St
 |0=>some s
 |i+1=>match I7 (s.O.length+1) s i with
  |some a=>Ii a i
  |none=>none
def L3 (s:St) (i:Nat):Option St:=(s.K[i]?).map fun c=>{s with K:=s.K.set i {c with X:=G2 (c.X.tdiv 1024)}}
def Ei:List Nat->St->Option St
 |[],s=>some s
 |i::r,s=>match L3 s i with
  |some a=>Ei r a
  |none=>none
def Ij (s:St):Option St:=
 match Ei s.Q {s with X:=s.X.map fun a=>G2 (a.tdiv 1024)} with
 |some b=>Ii {b with J:=max 1 (G2 (b.J.tdiv 1024))} (b.O.length/2)
 |none=>none
def MT (s:St) (v:Nat):Option St:=
 match s.X[v]? with
 |none=>none
 |some a=>
  let c:St:={s with X:=s.X.set v (G2 (a+s.J))}
  match(if Ih<G2 (a+s.J) then Ij c else some c) with
  |none=>none
  |some b=>match b.P[v]? with
   |some p=>if 0<=p then VE (p.toNat+1) b p.toNat else some b
   |none=>none
def O6 (s:St):Option St:=
 let j:=G2 (s.J+G2 (G2 (s.J.tdiv 20)+1))
 if Ih<j then Ij {s with J:=j} else some {s with J:=j}
def Ik (s:St) (l:Int) (a:Option Nat):Option St:=
 if B7 l<s.V.length/\B7 l<s.H.length/\B7 l<s.Y.length/\s.L.length<lim then
  some {s with V:=s.V.set (B7 l) (some (decide (0<=l))),H:=s.H.set (B7 l) s.D.length,Y:=s.Y.set (B7 l) a,L:=s.L++[l]}
 else none
def Et (s:St) (x:Int) (c:Nat):Option St:=
 match s.W[EC (-x)]? with
 |some r=>if r.length<lim then some {s with W:=s.W.set (EC (-x)) (r++[c])} else none
 |none=>none
def Gw (s:St) (c:Nat):Option St:=
 match s.K[c]? with
 |some k=>match k.l with
  |x::y::_=>match Et s x c with
   |some a=>Et a y c
   |none=>none
  |_=>none
 |none=>none
def I8:List Int->St->Option St
 |[],s=>some s
 |l::r,s=>
  let v:=B7 l
  if v<s.F.length/\v<s.V.length/\v<s.Y.length then
   let a:St:={s with F:=s.F.set v (decide (0<l)),V:=s.V.set v none,Y:=s.Y.set v none}
   match a.P[v]? with
   |none=>none
   |some p=>
    if p<0 then
     if lim<=a.O.length then none else
     match VE (a.O.length+1) {a with P:=a.P.set v a.O.length,O:=a.O++[v]} a.O.length with
     |some b=>I8 r b
     |none=>none
    else I8 r a
  else none
def GD (s:St) (b:Nat):Option St:=
 if s.D.length<=b then some s else
 match s.D[b]? with
 |some a=>if a<=s.L.length then(I8 (s.L.drop a) s).map fun c=>{c with L:=c.L.take a,D:=c.D.take b,d:=a} else none
 |none=>none
def Gb (s:St) (c i k:Nat):Option St:=
 match s.K[c]? with
 |some x=>match x.l[i]?,x.l[k]? with
  |some a,some b=>some {s with K:=s.K.set c {x with l:=(x.l.set i b).set k a}}
  |_,_=>none
 |none=>none
def Ju (s:St) (l:List Int):Nat->Nat->Option (Option Nat)
 |0,_=>some none
 |f+1,k=>match l[k]? with
  |none=>some none
  |some x=>match KK s x with
   |none=>none
   |some (some false)=>Ju s l f (k+1)
   |some _=>some (some k)
def KL (s:St) (e:Int) (c:Nat):Option (St×Nat):=
 match s.K[c]? with
 |none=>none
 |some x=>match x.l[0]?,x.l[1]? with
  |some a,some _=>
   match(if a=-e then Gb s c 0 1 else some s) with
   |none=>none
   |some d=>match(d.K[c]?).map (·.l) with
    |none=>none
    |some l=>match l[0]? with
     |none=>none
     |some g=>match KK d g with
      |none=>none
      |some (some true)=>some (d,0)
      |some h=>match Ju d l l.length 2 with
       |none=>none
       |some (some k)=>match Gb d c 1 k with
        |none=>none
        |some f=>match l[k]? with
         |none=>none
         |some b=>if EC (-b)=EC e then none else(Et f b c).map fun i=>(i,1)
       |some none=>match h with
        |some false=>some (d,2)
        |_=>(Ik d g (some c)).map fun f=>(f,0)
  |_,_=>none
def OY:Nat->St->Int->Nat->Nat->Nat->Option (St×Option Nat)
 |0,_,_,_,_,_=>none
 |f+1,s,lit,n,i,k=>
  match s.W[EC lit]? with
  |none=>none
  |some a=>
   if n<=i then some ({s with W:=s.W.set (EC lit) (a.take k)},none) else
   match a[i]? with
   |none=>none
   |some c=>match KL s lit c with
    |none=>none
    |some (s1,1)=>OY f s1 lit n (i+1) k
    |some (s1,0)=>OY f {s1 with W:=s1.W.set (EC lit) (a.set k c)} lit n (i+1) (k+1)
    |some (s1,_)=>some ({s1 with W:=s1.W.set (EC lit) ((a.take k++[c])++a.drop (i+1)),d:=s1.L.length},some c)
def QQ:Nat->St->Option (St×Option Nat)
 |0,_=>none
 |f+1,s=>
  if s.L.length<=s.d then some (s,none) else
  match s.L[s.d]? with
  |none=>none
  |some b=>match s.W[EC b]? with
   |none=>none
   |some a=>match OY (a.length+1) {s with d:=s.d+1} b a.length 0 0 with
    |none=>none
    |some (s1,some c)=>some (s1,some c)
    |some (s1,none)=>QQ f s1
def DI:List Int->St->List Nat->List Int->Nat->Option (St×List Nat×List Int×Nat)
 |[],s,m,o,k=>some (s,m,o,k)
 |x::r,s,m,o,k=>
  match s.U[B7 x]?,s.H[B7 x]? with
  |some b,some lv=>
   if b=true∨lv=0 then DI r s m o k
   else if lim<=m.length∨lim<=o.length∨lim<=k then none
   else match MT {s with U:=s.U.set (B7 x) true} (B7 x) with
    |some a=>if lv=s.D.length then DI r a (m++[B7 x]) o (k+1) else DI r a (m++[B7 x]) (o++[x]) k
    |none=>none
  |_,_=>none
def IF (s:St):Nat->Option Nat
 |0=>none
 |i+1=>match s.L[i]? with
  |some l=>match s.U[B7 l]? with
   |some true=>some i
   |some false=>IF s i
   |none=>none
  |none=>none
def Hb (s:St) (c:Nat) (k:Cl):St:=if k.Q then{s with K:=s.K.set c {k with X:=G2 (k.X+s.J)}} else s
def DF:Nat->St->Nat->Int->Nat->List Nat->List Int->Nat->Option (St×List Nat×List Int×Int)
 |0,_,_,_,_,_,_,_=>none
 |f+1,s,c,lit,i,m,o,k=>
  match s.K[c]? with
  |none=>none
  |some x=>match DI (x.l.filter fun y=>decide (y≠lit)) (Hb s c x) m o k with
   |none=>none
   |some (s1,m1,o1,k1)=>match IF s1 i with
    |none=>none
    |some j=>match s1.L[j]? with
     |none=>none
     |some l=>if k1=0 then none else if k1=1 then some (s1,m1,o1,l) else
      match s1.Y[B7 l]? with
      |some (some c1)=>DF f s1 c1 l j m1 o1 (k1- 1)
      |_=>none
abbrev Kn:=Int->Option Bool
def OM (K:Kn) (x:Int) (b:Bool):Kn:=fun y=>if y=x then some b else K y
def J5 (imp:Kn->Int->Option (Bool×Kn)) (s:St):List Int->Kn->Option (Bool×Kn)
 |[],K=>some (true,K)
 |y::r,K=>
  match s.U[B7 y]?,s.H[B7 y]? with
  |some b,some lv=>
   if b=false/\0<lv then
    match imp K y with
    |some (true,K1)=>J5 imp s r K1
    |some (false,K1)=>some (false,K1)
    |none=>none
   else J5 imp s r K
  |_,_=>none
def ER (s:St):Nat->Kn->Int->Option (Bool×Kn)
 |0,_,_=>none
 |f+1,K,x=>
  match K x with
  |some b=>some (b,K)
  |none=>match s.Y[B7 x]? with
   |none=>none
   |some none=>some (false,OM K x false)
   |some (some c)=>match s.K[c]? with
    |none=>none
    |some k=>match J5 (ER s f) s (k.l.filter fun y=>decide (y≠-x)) K with
     |some (b,K1)=>some (b,OM K1 x b)
     |none=>none
def KT (s:St) (f:Nat):List Int->Kn->List Int->Option (List Int)
 |[],_,r=>some r
 |x::t,K,r=>
  match ER s f K x with
  |some (true,K1)=>KT s f t K1 r
  |some (false,K1)=>KT s f t K1 (r++[x])
  |none=>none
def Gq:List Nat->St->Option St
 |[],s=>some s
 |v::r,s=>if v<s.U.length then Gq r {s with U:=s.U.set v false} else none
def Fy (s:St):Nat->List Int->Nat->Nat->Option (List Int×Nat)
 |0,l,_,lv=>some (l,lv)
 |f+1,l,i,lv=>
  match l[i]? with
  |none=>some (l,lv)
  |some x=>match s.H[B7 x]? with
   |none=>none
   |some n=>if lv<n then
     match l[1]? with
     |some y=>Fy s f ((l.set 1 x).set i y) (i+1) n
     |none=>none
    else Fy s f l (i+1) lv
def deepest:Nat:=64
def N7 (s:St) (c:Nat):Option (St×List Int×Nat):=
 if lim<s.Y.length then none else
 match DF (s.L.length+1) s c 0 s.L.length [] [] 0 with
 |none=>none
 |some (s1,m,o,lit)=>match KT s1 deepest o (fun _=>none) [-lit] with
  |none=>none
  |some a=>match Gq m s1 with
   |none=>none
   |some b=>match Fy b a.length a 1 0 with
    |none=>none
    |some (l,lv)=>some (b,l,lv)
def N8 (s:St) (l:List Int):Bool:=l.all fun x=>match s.H[B7 x]? with
 |some k=>decide (k<=lim)
 |none=>false
def Hs (s:St):Bool:=(s.W.all fun r=>r.all fun c=>decide (c<s.K.length))&&(s.Q.all fun c=>decide (c<s.K.length))&&s.Y.all fun x=>match x with
 |none=>true
 |some c=>decide (c<s.K.length)
def RB (s:St) (l:List Int):Option St:=
 match l with
 |[]=>none
 |x::_=>
  if Hs s=false∨N8 s l=false∨lim<=s.K.length∨lim<=s.Q.length∨lim<=l.length then none else
  match(if 1<l.length then Gw {s with K:=s.K++[⟨l,true,s.J⟩],Q:=s.Q++[s.K.length]} s.K.length else some {s with K:=s.K++[⟨l,true,s.J⟩],Q:=s.Q++[s.K.length]}) with
  |some a=>Ik a x (some s.K.length)
  |none=>none
def FG:Nat->Nat->Nat->Nat
 |0,p,_=>p
 |f+1,p,i=>if p<=i then FG f (2*p) i else p
def FH:Nat->Nat->Nat
 |0,_=>0
 |f+1,i=>
  let p:=FG 64 1 i
  if i+1=p then p/2 else FH f (i-(p/2- 1))
inductive Nx where
 |none_|lit (x:Int)|bad (x:Int)
def GI (a:List Int):Nat->St->Option (St×Nx)
 |0,_=>none
 |f+1,s=>
  match a[s.D.length]? with
  |none=>some (s,.none_)
  |some p=>match KK s p with
   |none=>none
   |some (some true)=>if s.D.length<lim then GI a f {s with D:=s.D++[s.L.length]} else none
   |some (some false)=>some (s,.bad p)
   |some none=>some (s,.lit p)
def Kv:Nat->St->Option (St×Nx)
 |0,_=>none
 |f+1,s=>
  if s.O.length=0 then some (s,.none_) else
  match Mv s with
  |none=>none
  |some (v,s1)=>match s1.V[v]?,s1.F[v]? with
   |some none,some ph=>if v=0 then none else some (s1,.lit (if ph then(v:Int) else-(v:Int)))
   |some (some _),some _=>Kv f s1
   |_,_=>none
def IG (s:St) (x:Int):Option St:=if s.D.length<lim then Ik {s with D:=s.D++[s.L.length]} x none else none
def Kw (s:St) (x:Int):Bool:=
 match s.H[B7 x]? with
 |none=>false
 |some 0=>true
 |some _=>decide (s.H.length<=lim/\s.L.length<lim/\0<s.D.length)&&s.L.all fun y=>match s.Y[B7 y]? with
  |none=>false
  |some none=>true
  |some (some c)=>match s.K[c]? with
   |none=>false
   |some k=>k.l.all fun z=>decide (B7 z<s.H.length)
structure SS where
 s:St
 turn:Nat
 left:Int
 z:Nat
inductive Kd where
 |yes|no|out
inductive Ans where
 |go (x:SS)
 |stop (s:St) (k:Kd) (spent:Nat)
def KU (s:St):Nat:=s.n+2
def ED (x:SS) (e:St) (c:Nat):Option Ans:=
 match N7 e c with
 |none=>none
 |some (s2,l,lv)=>match GD s2 lv with
  |none=>none
  |some d=>match RB d l with
   |none=>none
   |some b=>match O6 b with
    |none=>none
    |some a=>some (.go ⟨a,x.turn,x.left- 1,x.z+1⟩)
def GJ (a:List Int) (x:SS) (d:St):Option Ans:=
 match GI a (a.length+1) d with
 |none=>none
 |some (s2,.bad p)=>if Kw s2 p then some (.stop s2 .no x.z) else none
 |some (s2,.lit p)=>(IG s2 p).map fun b=> .go ⟨b,x.turn,x.left,x.z⟩
 |some (s2,.none_)=>match Kv (s2.O.length+1) s2 with
  |none=>none
  |some (b,.lit p)=>(IG b p).map fun c=> .go ⟨c,x.turn,x.left,x.z⟩
  |some (b,_)=>if b.V.length=b.n+1/\b.n<lim then some (.stop b .yes x.z) else none
def M5 (b:List Int) (a:Int) (x:SS):Option Ans:=
 match QQ (KU x.s) x.s with
 |none=>none
 |some (s1,c)=>
  if(c.all fun i=>decide (i<x.s.K.length))=false then none else
  if c.isSome∨s1.Z=true then
   if s1.Z=true∨s1.D.length=0 then some (.stop s1 .no x.z)
   else if(x.z:Int)=a then some (.stop s1 .out x.z)
   else match c with
    |some c=>if x.z<=1000000/\-(lim:Int)<=x.left/\x.left<=(lim:Int) then ED x s1 c else none
    |none=>none
  else if x.left<=0 then
   if s1.n<=10/\x.turn<1000000 then(GD s1 0).map fun d=> .go ⟨d,x.turn+1,32*(FH 64 (x.turn+1):Int),x.z⟩ else none
  else GJ b x s1
def D5 (b:List Int) (a:Int):Nat->SS->Option (St×Kd×Nat)
 |0,_=>none
 |f+1,x=>match M5 b a x with
  |none=>none
  |some (.go y)=>D5 b a f y
  |some (.stop s k n)=>some (s,k,n)
def Hc (x y:Int):Bool:=decide (B7 x<B7 y)||(decide (B7 x=B7 y)&&decide (y<=x))
def sortL (l:List Int):List Int:=l.mergeSort Hc
def Cj:List Int->List Int
 |x::y::r=>if x=y then Cj (y::r) else x::Cj (y::r)
 |l=>l
def Jp:List Int->Bool
 |x::y::r=>decide (x=-y)||Jp (y::r)
 |_=>false
def Dd (l:List Int):List Int:=Cj (sortL l)
def M6 (a:St) (x:List Int) (k:Nat):Option St:=
 if Jp x then some a else
 match x with
 |[]=>some {a with Z:=true}
 |[y]=>match KK a y with
  |none=>none
  |some (some false)=>some {a with Z:=true}
  |some (some true)=>some a
  |some none=>Ik a y (some k)
 |_=>Gw a k
def M7 (s:St) (l:List Int) (a:Bool) (act:Int):Option St:=
 if Hs s=false∨lim<=s.K.length then none else M6 {s with K:=s.K++[⟨Dd l,a,act⟩]} (Dd l) s.K.length
def J6:List (List Int)->St->Option St
 |[],s=>some s
 |l::r,s=>match M7 s l false 0 with
  |some a=>J6 r a
  |none=>none
def IH:List (List Int×Int×Int)->St->Option St
 |[],s=>some s
 |(l,_,a)::r,s=>
  if lim<=s.Q.length then none else
  match M7 s l true a with
  |some b=>IH r {b with Q:=b.Q++[s.K.length]}
  |none=>none
structure Sv where
 n:Nat
 G:List (List Int)
 Q:List (List Int×Int×Int)
 X:List Int
 O:List Nat
 J:Int
 F:List Bool
def FI:List Nat->Nat->List Int->List Int
 |[],_,p=>p
 |v::r,i,p=>FI r (i+1) (p.set v (i:Int))
def LS (n:Nat) (l:List Nat):List Int:=FI l 0 (List.replicate (n+1) 0)
def Cp (v:Sv):St:=
 {n:=v.n,K:=[],W:=List.replicate (2*v.n+2) [],V:=List.replicate (v.n+1) none,H:=List.replicate (v.n+1) 0,Y:=List.replicate (v.n+1) none,
  L:=[],D:=[],d:=0,X:=v.X,J:=v.J,O:=v.O,P:=LS v.n v.O,F:=v.F,Q:=[],Z:=false,U:=List.replicate (v.n+1) false}
def Hd (v:Sv):Option St:=
 match J6 v.G (Cp v) with
 |some s=>IH v.Q s
 |none=>none
structure Same (s t:St):Prop where
 n:t.n=s.n
 W:t.W=s.W
 V:t.V=s.V
 H:t.H=s.H
 Y:t.Y=s.Y
 L:t.L=s.L
 D:t.D=s.D
 d:t.d=s.d
 F:t.F=s.F
 Q:t.Q=s.Q
 Z:t.Z=s.Z
 U:t.U=s.U
 len:t.K.length=s.K.length
 lits:∀i:Nat,(t.K[i]?).map Cl.l=(s.K[i]?).map Cl.l
theorem Same.refl (s:St):Same s s:=⟨rfl,rfl,rfl,rfl,rfl,rfl,rfl,rfl,rfl,rfl,rfl,rfl,rfl,fun _=>rfl⟩
theorem Same.trans {s t u:St} (h:Same s t) (k:Same t u):Same s u:=
 ⟨k.n.trans h.n,k.W.trans h.W,k.V.trans h.V,k.H.trans h.H,k.Y.trans h.Y,k.L.trans h.L,k.D.trans h.D,k.d.trans h.d,k.F.trans h.F,
  k.Q.trans h.Q,k.Z.trans h.Z,k.U.trans h.U,k.len.trans h.len,fun i=>(k.lits i).trans (h.lits i)⟩
structure DX (s:St):Prop where
 small:s.n<lim
 X:s.X.length=s.n+1
 P:s.P.length=s.n+1
 ord:∀i v:Nat,s.O[i]?=some v->0<v/\v<=s.n/\s.P[v]?=some (i:Int)
 plc:∀(v:Nat) (i:Nat),0<v->s.P[v]?=some (i:Int)->s.O[i]?=some v
variable{s:St}
theorem Q8 (h:DX s) {i k:Nat} (n:i<s.O.length) (e:k<s.O.length):
  ∃t,H8 s i k=some t/\DX t/\Same s t/\t.O.length=s.O.length/\(∀a,s.O[i]?=some a->t.O[k]?=some a):=by
 obtain⟨a,g⟩:∃a,s.O[i]?=some a:=⟨_,Ab n⟩;obtain⟨b,f⟩:∃b,s.O[k]?=some b:=⟨_,Ab e⟩;have q:=h.ord i a g;have p:=h.ord k b f;have d:a<s.P.length:=by rw[h.P];omega
 have c:b<s.P.length:=by rw[h.P];omega
 unfold H8;rw[g,f];simp only[d,c,and_self,if_true];refine⟨_,rfl,⟨h.small,h.X,by simp[h.P],fun j v m=>?_,fun v j o m=>?_⟩,⟨rfl,rfl,rfl,rfl,rfl,rfl,rfl,rfl,rfl,rfl,rfl,rfl,rfl,fun _=>rfl⟩,oS,fun x l=>(AD (by simpa using e)).trans l⟩
 .have:=h.ord;grind
 .have:=h.ord;have:=h.plc;grind
variable{v:Nat}
theorem DX.actAt (h:DX s) (b:v<=s.n):∃a,s.X[v]?=some a:=⟨_,Ab (by rw[h.X];omega)⟩
theorem DX.ordAt (h:DX s) {i:Nat} (a:i<s.O.length):∃v,s.O[i]?=some v/\0<v/\v<=s.n:=by
 refine⟨_,Ab a,?_⟩;have:=h.ord i _ (Ab a);exact⟨this.1,this.2.1⟩
theorem Sf (h:DX s) {w:Nat} (d:v<=s.n) (c:w<=s.n):∃b,Jm s v w=some b:=by
 have⟨a,f⟩:=h.actAt d;have⟨b,e⟩:=h.actAt c;exact⟨_,by unfold Jm;rw[f,e]⟩
theorem JF:∀(m:Nat) (l:List Nat),l.Nodup->(∀v∈l,v<m)->l.length<=m
 |0,[],_,_=>oS
 |0,v::_,_,h=>absurd (h v oS) oO
 |m+1,l,hn,h=>by
  have f:=JF m (l.erase m) (hn.erase m) (fun v c=>by
   have b:v∈l:=List.mem_of_mem_erase c;have d:v≠m:=fun e=>by subst e;exact(List.Nodup.not_mem_erase hn) c
   have:=h v b;omega)
  have b:=List.length_erase (a:=m) (l:=l);split at b<;>omega
theorem DX.nodup (h:DX s):s.O.Nodup:=by
 refine Cc.2 fun i j d b c e=>?_
 have a:=h.ord i _ (Ab d);have f:=h.ord j _ (Ab b);rw[e] at a;have:=a.2.2.symm.trans f.2.2;simp at this;omega
theorem DX.olen (h:DX s):s.O.length<=s.n+1:=JF _ _ h.nodup fun v a=>by
 have⟨i,b⟩:=Bw.1 a;have:=h.ord i v b;omega
structure Heap (s t:St):Prop where
 inv:DX t
 same:Same s t
 len:t.O.length=s.O.length
theorem Heap.trans {s t u:St} (h:Heap s t) (k:Heap t u):Heap s u:=⟨k.inv,h.same.trans k.same,k.len.trans h.len⟩
theorem Yz:∀(f:Nat) {s:St} (i:Nat),DX s->i<s.O.length->i<f->∃t,VE f s i=some t/\Heap s t
 |0,_,_,_,_,hf=>absurd hf oO
 |f+1,s,i,h,hi,hf=>by
  unfold VE;by_cases g:i=0
  .exact⟨s,by rw[if_pos g],h,Same.refl s,rfl⟩
  .rw[if_neg g];have⟨a,o,_,d⟩:=h.ordAt hi;have⟨b,n,_,c⟩:=h.ordAt (i:=(i- 1)/2) oO;rw[o,n];have⟨r,m⟩:=Sf h d c;simp only[m]
   cases r with
   |false=>exact⟨s,rfl,h,Same.refl s,rfl⟩
   |true=>
    have⟨t,l,e,x,q,_⟩:=Q8 h hi (k:=(i- 1)/2) oO;simp only[l];have⟨u,j,p⟩:=Yz f ((i- 1)/2) e oO oO;exact⟨u,j,Heap.trans ⟨e,x,q⟩ p⟩
theorem PB (h:DX s) {b k:Nat} (e:b<s.O.length):∃r,GO s b k=some r/\r<s.O.length/\(r=b∨r=k):=by
 unfold GO;by_cases d:k<s.O.length
 .rw[if_pos d];have⟨x,g,_,c⟩:=h.ordAt d;have⟨y,f,_,a⟩:=h.ordAt e;have⟨r,i⟩:=Sf h c a;rw[g,f];simp only[i];cases r
  .exact⟨b,rfl,e,.inl rfl⟩
  .exact⟨k,rfl,d,.inr rfl⟩
 .grind
theorem Q9:∀(f:Nat) {s:St} (i:Nat),DX s->i<s.O.length->s.O.length<f+i->∃t,I7 f s i=some t/\Heap s t
 |0,_,_,_,hi,hf=>absurd hf oO
 |f+1,s,i,h,hi,hf=>by
  unfold I7;rw[if_neg (by have:=h.olen;have:=h.small;omega)];have⟨x,p,e,r⟩:=PB h (k:=2*i+1) hi;have⟨c,o,d,q⟩:=PB h (k:=2*i+2) e;simp only[p,o];by_cases a:c=i
  .exact⟨s,by rw[if_pos a],h,Same.refl s,rfl⟩
  .rw[if_neg a];have⟨t,j,b,n,m,_⟩:=Q8 h hi d;simp only[j];have⟨u,g,l⟩:=Q9 f c b oO oO;exact⟨u,g,Heap.trans ⟨b,n,m⟩ l⟩
theorem Y1 (h:DX s) (j:0<s.O.length):∃v t,Mv s=some (v,t)/\0<v/\v<=s.n/\DX t/\Same s t/\t.O.length+1=s.O.length:=by
 have⟨v,g,e,d⟩:=h.ordAt j;have⟨a,q,c,l,x,b⟩:=Q8 h j (k:=s.O.length- 1) oO;unfold Mv;rw[g];simp only[q];replace b:=b v g;have u:DX {a with O:=a.O.take (a.O.length- 1),P:=a.P.set v (-1)}:=by
  have A:=c.ord;have z:=c.plc;refine⟨c.small,c.X,by simp[c.P],fun i w p=>?_,fun w i y p=>?_⟩
  .grind
  .grind
 have r:Same s {a with O:=a.O.take (a.O.length- 1),P:=a.P.set v (-1)}:=l.trans ⟨rfl,rfl,rfl,rfl,rfl,rfl,rfl,rfl,rfl,rfl,rfl,rfl,rfl,fun _=>rfl⟩;split
 .rename_i o;have⟨t,m,f⟩:=Q9 ((a.O.take (a.O.length- 1)).length+1) 0 u o (by grind);rw[m];refine⟨v,t,rfl,e,d,f.inv,r.trans f.same,?_⟩;rw[f.len];simp;omega
 .grind
theorem Sg:∀(i:Nat) {s:St},DX s->i<=s.O.length->∃t,Ii s i=some t/\Heap s t
 |0,s,h,_=>⟨s,rfl,h,Same.refl s,rfl⟩
 |i+1,s,h,hi=>by
  unfold Ii;have⟨t,c,a⟩:=Q9 (s.O.length+1) i h oO oO;simp only[c];have⟨u,b,d⟩:=Sg i a.inv (by rw[a.len];omega);exact⟨u,b,a.trans d⟩
def IR (s:St):Prop:=∀i∈s.Q,i<s.K.length
theorem NQ (h:DX s) (i:Nat) (c:Cl) (a:Int) (b:s.K[i]?=some c):Heap s {s with K:=s.K.set i {c with X:=a}}:=
 ⟨⟨h.small,h.X,h.P,h.ord,h.plc⟩,⟨rfl,rfl,rfl,rfl,rfl,rfl,rfl,rfl,rfl,rfl,rfl,rfl,oS,fun j=>by
  by_cases e:i=j
  .grind
  .simp only[AI e]⟩,rfl⟩
theorem MG:∀(l:List Nat) {s:St},DX s->(∀i∈l,i<s.K.length)->∃t,Ei l s=some t/\Heap s t
 |[],s,h,_=>⟨s,rfl,h,Same.refl s,rfl⟩
 |i::r,s,h,hl=>by
  obtain⟨c,b⟩:∃c,s.K[i]?=some c:=⟨_,Ab (hl i oS)⟩;have a:=NQ h i c (G2 (c.X.tdiv 1024)) b;have⟨t,d,f⟩:=MG r a.inv (fun j e=>by rw[a.same.len];exact hl j (by simp[e]));refine⟨t,?_,a.trans f⟩;unfold Ei L3;simp only[b,Bf];exact d
theorem Si (h:DX s) (g:IR s):∃t,Ij s=some t/\Heap s t:=by
 have d:Heap s {s with X:=s.X.map fun a=>G2 (a.tdiv 1024)}:=⟨⟨h.small,by simp[h.X],h.P,h.ord,h.plc⟩,⟨rfl,rfl,rfl,rfl,rfl,rfl,rfl,rfl,rfl,rfl,rfl,rfl,rfl,fun _=>rfl⟩,rfl⟩;have⟨t,f,b⟩:=MG s.Q d.inv g;have c:Heap t {t with J:=max 1 (G2 (t.J.tdiv 1024))}:=⟨⟨b.inv.small,b.inv.X,b.inv.P,b.inv.ord,b.inv.plc⟩,⟨rfl,rfl,rfl,rfl,rfl,rfl,rfl,rfl,rfl,rfl,rfl,rfl,rfl,fun _=>rfl⟩,rfl⟩;have⟨u,e,i⟩:=Sg (t.O.length/2) c.inv (by grind);refine⟨u,?_,(d.trans b).trans (c.trans i)⟩;unfold Ij;rw[f];exact e
theorem Sj (h:DX s) (l:List Int) (a:l.length=s.X.length) (j:Int):Heap s {s with X:=l,J:=j}:=
 ⟨⟨h.small,by rw[<-h.X];exact a,h.P,h.ord,h.plc⟩,⟨rfl,rfl,rfl,rfl,rfl,rfl,rfl,rfl,rfl,rfl,rfl,rfl,rfl,fun _=>rfl⟩,rfl⟩
variable{t:St}
theorem Heap.linv (h:Heap s t) (b:IR s):IR t:=by
 intro i a;rw[h.same.len];rw[h.same.Q] at a;exact b i a
theorem bS (h:DX s) (l:IR s) (k:v<=s.n) (e:0<v):∃t,MT s v=some t/\Heap s t:=by
 have⟨a,m⟩:=h.actAt k;unfold MT;rw[m];have d:Heap s {s with X:=s.X.set v (G2 (a+s.J))}:=Sj h _ oS s.J;obtain⟨b,o,c⟩:∃b,(if Ih<G2 (a+s.J) then Ij {s with X:=s.X.set v (G2 (a+s.J))} else some {s with X:=s.X.set v (G2 (a+s.J))})=some b/\Heap s b:=by
  split
  .have⟨t,f,i⟩:=Si d.inv (d.linv l);exact⟨t,f,d.trans i⟩
  .exact⟨_,rfl,d⟩
 simp only[o];obtain⟨p,j⟩:∃p,b.P[v]?=some p:=⟨_,Ab (by rw[c.inv.P,c.same.n];omega)⟩;rw[j];simp only;split
 .rename_i q;have g:b.P[v]?=some ((p.toNat:Nat):Int):=by rw[j];congr 1;omega
  have:=c.inv.plc v p.toNat e g;have⟨t,f,i⟩:=Yz (p.toNat+1) p.toNat c.inv (Aa.1 this).1 oO;exact⟨t,f,c.trans i⟩
 .exact⟨b,rfl,c⟩
theorem Y2 (h:DX s) (c:IR s):∃t,O6 s=some t/\Heap s t:=by
 unfold O6;have a:=Sj h s.X rfl (G2 (s.J+G2 (G2 (s.J.tdiv 20)+1)));simp only;split
 .have⟨t,b,d⟩:=Si a.inv (a.linv c);exact⟨t,b,a.trans d⟩
 .exact⟨_,rfl,a⟩
def Lit (n:Nat) (x:Int):Prop:=x≠0/\B7 x<=n
theorem CZ (x:Int):B7 (-x)=B7 x:=by simp[B7]
variable{x:Int}
theorem Lit.neg {n:Nat} (h:Lit n x):Lit n (-x):=⟨by have:=h.1;omega,by rw[CZ];exact h.2⟩
theorem Lc {y:Int} (a:x≠0) (h:EC x=EC y):x=y:=by
 unfold EC at h;split at h<;>split at h<;>omega
theorem Q2 {n:Nat} (h:B7 x<=n):EC x<2*n+2:=by
 unfold B7 at h;unfold EC;split<;>omega
theorem eY {y:Int} (h:B7 x=B7 y):x=y∨x=-y:=by
 unfold B7 at h;omega
structure Dt (s:St):Prop where
 few:s.n<=10
 val:s.V.length=s.n+1
 lev:s.H.length=s.n+1
 whl:s.Y.length=s.n+1
 pha:s.F.length=s.n+1
 see:s.U.length=s.n+1
 lit:∀(p:Nat) (x:Int),s.L[p]?=some x->Lit s.n x/\s.V[B7 x]?=some (some (decide (0<=x)))
 one:∀(p q:Nat) (x y:Int),s.L[p]?=some x->s.L[q]?=some y->B7 x=B7 y->p=q
 has:∀(v:Nat) (b:Bool),s.V[v]?=some (some b)->∃(p:Nat) (x:Int),s.L[p]?=some x/\B7 x=v
 srt:∀i j a b:Nat,i<=j->s.D[i]?=some a->s.D[j]?=some b->a<=b
 top:∀i a:Nat,s.D[i]?=some a->a<=s.L.length
 lvl:∀(p:Nat) (x:Int),s.L[p]?=some x->∃k,s.H[B7 x]?=some k/\k<=s.D.length/\∀i a:Nat,s.D[i]?=some a->(a<=p↔i<k)
 dec:∀(p:Nat) (x:Int),s.L[p]?=some x->(s.Y[B7 x]?=some none↔p∈s.D)
 rea:∀(p:Nat) (x:Int) (c:Nat),s.L[p]?=some x->s.Y[B7 x]?=some (some c)->∃k,s.K[c]?=some k/\∀y∈k.l,y≠x->∃q:Nat,q<p/\s.L[q]?=some (-y)
 whn:∀(v c:Nat),s.Y[v]?=some (some c)->c<s.K.length
 sb:s.D.length<=lim
 levb:∀(v k:Nat),s.H[v]?=some k->k<=lim
def IN (s:St):Prop:=∀(c:Nat) (k:Cl),s.K[c]?=some k->k.l.length<=lim/\∀y∈k.l,Lit s.n y
theorem Yn (h:Dt s) {p:Nat} (b:s.L[p]?=some x):KK s x=some (some true):=by
 have:=(h.lit p x b).2;unfold KK;rw[this];by_cases a:x<0
 .simp[a]
 .simp[a];omega
theorem P4 (h:Dt s) {p:Nat} (b:s.L[p]?=some (-x)):KK s x=some (some false):=by
 have c:=(h.lit p _ b).2;have d:=(h.lit p _ b).1.1;rw[CZ] at c;unfold KK;rw[c];by_cases a:x<0
 .simp[a];omega
 .simp[a];omega
theorem GV (h:Dt s) (e:Lit s.n x):(KK s x=some none/\s.V[B7 x]?=some none)∨(KK s x=some (some true)/\∃p:Nat,s.L[p]?=some x)∨(KK s x=some (some false)/\∃p:Nat,s.L[p]?=some (-x)):=by
 obtain⟨v,c⟩:∃v,s.V[B7 x]?=some v:=⟨_,Ab (by have:=e.2;rw[h.val];omega)⟩
 cases v with
 |none=>exact .inl ⟨by unfold KK;rw[c];simp,c⟩
 |some b=>
  have⟨p,z,a,d⟩:=h.has _ _ c;rcases eY d with rfl|rfl
  .exact .inr (.inl ⟨Yn h a,p,a⟩)
  .exact .inr (.inr ⟨P4 h a,p,a⟩)
theorem Dt.tlen (h:Dt s):s.L.length<=s.n:=by
 have:=JF s.n (s.L.map fun x=>B7 x- 1) (by
  refine Cc.2 fun i j c b l e=>?_
  simp only[CJ] at c b;have a:=h.lit i _ (Ab c);have d:=h.lit j _ (Ab b);simp only[List.getElem_map] at e;have m:=a.1.1;have o:=d.1.1;have:=h.one i j _ _ (Ab c) (Ab b) (by unfold B7 at*;omega);omega) (by
  intro v g;obtain⟨x,f,rfl⟩:=BB.1 g;have⟨p,k⟩:=Bw.1 f;have a:=(h.lit p x k).1;have d:=a.1;have m:=a.2;unfold B7 at*;omega)
 simpa using this
theorem Dt.congr (h:Dt s) (d:t.n=s.n) (f:t.V=s.V) (j:t.H=s.H) (i:t.Y=s.Y) (r:t.F.length=s.F.length) (q:t.U.length=s.U.length)
  (b:t.L=s.L) (a:t.D=s.D) (m:∀(c:Nat) (k:Cl),s.K[c]?=some k->∃g,t.K[c]?=some g/\∀y∈g.l,y∈k.l):Dt t:=by
 refine⟨by rw[d];exact h.few,by rw[f,d];exact h.val,by rw[j,d];exact h.lev,by rw[i,d];exact h.whl,by rw[r,d];exact h.pha,by rw[q,d];exact h.see,
  by rw[b,d,f];exact h.lit,by rw[b];exact h.one,by rw[b,f];exact h.has,by rw[a];exact h.srt,by rw[a,b];exact h.top,by rw[b,a,j];exact h.lvl,by rw[b,a,i];exact h.dec,?_,fun v c f=>?_,by rw[a];exact h.sb,by rw[j];exact h.levb⟩
 case refine_2=>
  rw[i] at f;have⟨g,e,_⟩:=m c _ (Ab (h.whn v c f));exact(Aa.1 e).1
 rw[b,i];intro p x c C B;have⟨k,u,A⟩:=h.rea p x c C B;have⟨g,e,z⟩:=m c k u;exact⟨g,e,fun y o=>A y (z y o)⟩
theorem Dt.same (h:Dt s) (k:Same s t):Dt t:=
 h.congr k.n k.V k.H k.Y (by rw[k.F]) (by rw[k.U]) k.L k.D fun c x d=>by
  have:=k.lits c;rw[d] at this
  cases a:t.K[c]? with
  |none=>rw[a] at this;simp at this
  |some y=>rw[a] at this;simp at this;exact⟨y,rfl,fun z b=>by rw[<-this];exact b⟩
theorem Same.cl (k:Same s t) {c:Nat} {x:Cl} (b:t.K[c]?=some x):∃y,s.K[c]?=some y/\y.l=x.l:=by
 have:=k.lits c;rw[b] at this
 cases a:s.K[c]? with
 |none=>rw[a] at this;simp at this
 |some y=>rw[a] at this;simp at this;exact⟨y,rfl,this.symm⟩
theorem IN.same (h:IN s) (k:Same s t):IN t:=by
 intro c x b;have⟨z,a,e⟩:=k.cl b;rw[k.n,<-e];exact h c z a
theorem Q3 (h:Dt s) (S:Lit s.n x) (U:s.V[B7 x]?=some none) (y:Option Nat) (hd:y=none->s.L.length∈s.D)
  (hn:∀c,y=some c->s.L.length∉s.D/\∃k,s.K[c]?=some k/\∀z∈k.l,z≠x->∃q:Nat,s.L[q]?=some (-z)):
  Ik s x y=some {s with V:=s.V.set (B7 x) (some (decide (0<=x))),H:=s.H.set (B7 x) s.D.length,Y:=s.Y.set (B7 x) y,L:=s.L++[x]}/\
  Dt {s with V:=s.V.set (B7 x) (some (decide (0<=x))),H:=s.H.set (B7 x) s.D.length,Y:=s.Y.set (B7 x) y,L:=s.L++[x]}:=by
 have R:=S.2;have P:=h.val;have O:=h.lev;have M:=h.whl;have tl:=h.tlen;have fw:=h.few;have new:∀(p:Nat) (z:Int),s.L[p]?=some z->B7 z≠B7 x:=by
  intro p z d e;have:=(h.lit p z d).2;rw[e,U] at this;cases this
 have m:∀(p:Nat) (z:Int),(s.L++[x])[p]?=some z->(s.L[p]?=some z/\p<s.L.length)∨(p=s.L.length/\z=x):=by
  intro p z d;rw[Ee] at d;split at d
  .exact .inl ⟨d,by assumption⟩
  .grind
 constructor
 .unfold Ik;rw[if_pos ⟨oO,oO,oO,by unfold lim;omega⟩]
 .refine⟨h.few,by simp[P],by simp[O],by simp[M],h.pha,h.see,?_,?_,?_,h.srt,?_,?_,?_,?_,?_,h.sb,?_⟩
  .intro p z d;rcases m p z d with⟨d,_⟩|⟨rfl,rfl⟩
   .rw[AI (Ne.symm (new p z d))];exact h.lit p z d
   .grind
  .intro p q z w d A e;rcases m p z d with⟨B,_⟩|⟨a2,a1⟩<;>rcases m q w A with⟨u,_⟩|⟨Z,j⟩
   .exact h.one p q z w B u e
   .grind
   .grind
   .omega
  .intro v b J;by_cases e:B7 x=v
   .exact⟨s.L.length,x,oS,e⟩
   .rw[AI e] at J;have⟨p,z,d,Q⟩:=h.has v b J;exact⟨p,z,by rw[AW (Aa.1 d).1];exact d,Q⟩
  .intro i a r;have:=h.top i a r;simp;omega
  .intro p z d;rcases m p z d with⟨d,_⟩|⟨rfl,rfl⟩
   .rw[AI (Ne.symm (new p z d))];exact h.lvl p z d
   .refine⟨s.D.length,AD oO,Ai _,fun i a r=>?_⟩;have G:=h.top i a r;have h2:=(Aa.1 r).1;simp only[G,h2]
  .intro p z d;rcases m p z d with⟨d,_⟩|⟨rfl,rfl⟩
   .rw[AI (Ne.symm (new p z d))];exact h.dec p z d
   .rw[AD oO]
    cases y with
    |none=>simp[hd rfl]
    |some c=>simp[(hn c rfl).1]
  .intro p z c d o;rcases m p z d with⟨d,a0⟩|⟨rfl,rfl⟩
   .rw[AI (Ne.symm (new p z d))] at o;have⟨k,hk,G⟩:=h.rea p z c d o;refine⟨k,hk,fun w o C=>?_⟩;have⟨q,A,j⟩:=G w o C;exact⟨q,A,by rw[AW (Aa.1 j).1];exact j⟩
   .grind
  .intro v c g;simp only at g⊢;rw[List.getElem?_set] at g;split at g
   .grind
   .exact h.whn v c g
  .intro v k f;simp only at f;rw[List.getElem?_set] at f;split at f
   .split at f
    .injection f with f;rw[<-f];exact h.sb
    .cases f
   .exact h.levb v k f
def Wd (l:List Int) (j:Nat):Prop:=l.Nodup/\∃a b t,l=a::b::t/\(EC (-a)=j∨EC (-b)=j)
structure It (n:Nat) (cls:List Cl) (watch:List (List Nat)):Prop where
 len:watch.length=2*n+2
 row:∀(j:Nat) (r:List Nat),watch[j]?=some r->r.Nodup/\∀c∈r,∃k,cls[c]?=some k/\Wd k.l j
 tot:(watch.map List.length).sum<=2*cls.length
theorem JV:∀(l:List (List Nat)) (i:Nat) (x y:List Nat),l[i]?=some y->((l.set i x).map List.length).sum+y.length=(l.map List.length).sum+x.length
 |[],_,_,_,h=>by cases h
 |z::r,0,x,y,h=>by grind
 |z::r,i+1,x,y,h=>by
  have:=JV r i x y (by simpa using h);simp only[B9,BI,List.sum_cons];omega
theorem Q4 (l:List (List Nat)) (i:Nat) (y:List Nat) (h:l[i]?=some y):y.length<=(l.map List.length).sum:=by
 have:=JV l i [] y h;simp only[F2,Eb] at this;omega
theorem N4 {l:List Int} {i:Nat} {a y x:Int} {t:List Int} (d:l=a::y::t) (g:2<=i) (b:l[i]?=some x):
  ∃t1 t2,t=t1++x::t2/\(l.set 1 x).set i y=a::x::(t1++y::t2)/\(a::x::(t1++y::t2)).Perm l:=by
 obtain⟨m,rfl⟩:∃m,i=m+2:=⟨i- 2,oO⟩;subst d;have b:t[m]?=some x:=by simpa using b
 have⟨f,e⟩:=Aa.1 b;have c:t=t.take m++x::t.drop (m+1):=by rw[<-e];simp
 refine⟨t.take m,t.drop (m+1),c,?_,?_⟩
 .grind
 .grind
theorem UT {s:St} (h:Dt s) {l:List Int} (b:∀y∈l,Lit s.n y):∀(f k:Nat),l.length<=k+f->
  (Ju s l f k=some none/\∀(j:Nat) (x:Int),k<=j->l[j]?=some x->∃q:Nat,s.L[q]?=some (-x))∨
  ∃(j:Nat) (x:Int),Ju s l f k=some (some j)/\k<=j/\l[j]?=some x/\KK s x≠some (some false)
 |0,k,hf=> .inl ⟨rfl,fun j x i a=>absurd (Aa.1 a).1 oO⟩
 |f+1,k,hf=>by
  unfold Ju
  cases a:l[k]? with
  |none=>grind
  |some x=>
   simp only;rcases GV h (b x (AQ a)) with⟨e,_⟩|⟨e,_⟩|⟨e,q,g⟩
   .grind
   .grind
   .rw[e];rcases UT h b f (k+1) oO with⟨d,c⟩|⟨j,y,d,c,o,m⟩
    .grind
    .grind
structure dy (s s1:St) (c:Nat) (k:Cl) (l':List Int):Prop where
 n:s1.n=s.n
 D:s1.D=s.D
 d:s1.d=s.d
 X:s1.X=s.X
 O:s1.O=s.O
 P:s1.P=s.P
 F:s1.F=s.F
 Q:s1.Q=s.Q
 Z:s1.Z=s.Z
 U:s1.U=s.U
 K:s1.K=s.K.set c {k with l:=l'}
 perm:l'.Perm k.l
 L:∃e,s1.L=s.L++e
theorem Rw {a:Type} {l:List a} {i:Nat} {x:a} (h:l[i]?=some x):l.set i x=l:=by
 have⟨b,e⟩:=Aa.1 h;rw[<-e];exact List.set_getElem_self b
theorem Wd.swap {a b:Int} {t:List Int} {j:Nat} (h:Wd (a::b::t) j):Wd (b::a::t) j:=by
 have⟨d,x,y,z,e,c⟩:=h;injection e with i e;injection e with g f;subst i g f;exact⟨(List.Perm.swap b a t).nodup_iff.1 d,b,a,t,rfl,c.symm⟩
theorem XA {s:St} (h:Dt s) (hC:IN s) {f:Int} {c:Nat} {k:Cl} (Y:s.K[c]?=some k) (hw:Wd k.l (EC f)) {p:Nat} (c1:s.L[p]?=some f)
  (b0:∀a∈s.D,a<s.L.length) (c2:s.W.length=2*s.n+2) (a8:∀(j:Nat) (r:List Nat),j≠EC f->s.W[j]?=some r->r.length<lim):
  ∃g code G,KL s f c=some (g,code)/\dy s g c k G/\Dt g/\
  ((code=0/\g.W=s.W/\∀j,Wd k.l j->Wd G j)∨
   (code=1/\∃j r,j≠EC f/\s.W[j]?=some r/\g.W=s.W.set j (r++[c])/\Wd G j/\¬Wd k.l j/\∀j',j'≠EC f->Wd k.l j'->Wd G j')∨
   (code=2/\g.W=s.W/\(∀j,Wd k.l j->Wd G j)/\-f∈G/\∀y∈G,∃q:Nat,g.L[q]?=some (-y))):=by
 have⟨e3,a,b,t,hl,e7⟩:=hw;obtain⟨m,g,c9,e1,a7,B⟩:∃m g,(if a=-f then Gb s c 0 1 else some s)=some g/\g={s with K:=s.K.set c {k with l:=m::-f::t}}/\(m::-f::t).Perm k.l/\∀j,Wd k.l j↔Wd (m::-f::t) j:=by
  by_cases ha:a=-f
  .refine⟨b,_,?_,rfl,?_,?_⟩
   .rw[if_pos ha];unfold Gb;rw[Y];simp only[hl,GZ,List.getElem?_cons_succ];rw[<-ha];rfl
   .grind
   .rw[hl,ha];exact fun j=>⟨Wd.swap,Wd.swap⟩
  .have hb:b=-f:=by
    rcases e7 with e|e
    .have:=Lc (by have:=(hC c k Y).2 a (by rw[hl];simp);have:=this.1;omega) e;exact absurd oO ha
    .have:=Lc (by have:=(hC c k Y).2 b (by rw[hl];simp);have:=this.1;omega) e;omega
   refine⟨a,s,by rw[if_neg ha],?_,by rw[hl,hb],by rw[hl,hb];exact fun j=>Iff.rfl⟩;rw[<-hb,<-hl];show s={s with K:=s.K.set c k};rw[Rw Y]
 have a4:g.K[c]?=some {k with l:=m::-f::t}:=by grind
 have R:∀y∈m::-f::t,Lit s.n y:=fun y hy=>(hC c k Y).2 y (a7.subset hy)
 have A:Dt g:=by
  rw[e1];refine h.congr rfl rfl rfl rfl rfl rfl rfl rfl fun d x hd=>?_
  by_cases c4:c=d
  .grind
  .grind
 have c0:g.n=s.n:=by rw[e1]
 have a6:g.L=s.L:=by rw[e1]
 have a9:g.L[p]?=some f:=by rw[a6];exact c1
 have o:dy s g c k (m::-f::t):=by rw[e1];exact⟨rfl,rfl,rfl,rfl,rfl,rfl,rfl,rfl,rfl,rfl,rfl,a7,[],oS⟩
 have a0:g.W=s.W:=by rw[e1]
 have b7:KL s f c=(match KK g m with
   |none=>none
   |some (some true)=>some (g,0)
   |some J=>match Ju g (m::-f::t) (m::-f::t).length 2 with
       |none=>none
       |some (some k)=>match Gb g c 1 k with
        |none=>none
        |some C=>match(m::-f::t)[k]? with
         |none=>none
         |some b=>if EC (-b)=EC f then none else(Et C b c).map fun s3=>(s3,1)
       |some none=>match J with
        |some false=>some (g,2)
        |_=>(Ik g m (some c)).map fun C=>(C,0):Option (St×Nat)):=by
  unfold KL;rw[Y];simp only[hl,GZ,List.getElem?_cons_succ];rw[c9];simp only[a4,Bf,GZ]
  try rfl
 rw[b7];have go:KK g m≠some (some true)->((KK g m=some none/\g.V[B7 m]?=some none)∨(KK g m=some (some false)/\∃p:Nat,g.L[p]?=some (-m))):=by
  intro H;rcases GV A (x:=m) (by grind) with e|⟨e,_⟩|e
  .exact .inl e
  .exact absurd e H
  .exact .inr e
 have b4:=UT A (by rw[c0];exact R) (m::-f::t).length 2 oO;have b5:∀J,KK g m=some J->J≠some true->∃C code G,(match(some J:Option (Option Bool)) with
   |none=>none
   |some (some true)=>some (g,0)
   |some J=>match Ju g (m::-f::t) (m::-f::t).length 2 with
       |none=>none
       |some (some k)=>match Gb g c 1 k with
        |none=>none
        |some C=>match(m::-f::t)[k]? with
         |none=>none
         |some b=>if EC (-b)=EC f then none else(Et C b c).map fun s3=>(s3,1)
       |some none=>match J with
        |some false=>some (g,2)
        |_=>(Ik g m (some c)).map fun C=>(C,0):Option (St×Nat))=some (C,code)/\dy s C c k G/\Dt C/\
  ((code=0/\C.W=s.W/\∀j,Wd k.l j->Wd G j)∨
   (code=1/\∃j r,j≠EC f/\s.W[j]?=some r/\C.W=s.W.set j (r++[c])/\Wd G j/\¬Wd k.l j/\∀j',j'≠EC f->Wd k.l j'->Wd G j')∨
   (code=2/\C.W=s.W/\(∀j,Wd k.l j->Wd G j)/\-f∈G/\∀y∈G,∃q:Nat,C.L[q]?=some (-y))):=by
  intro J S H;have c6:∀(X:Option (St×Nat)),(match(some J:Option (Option Bool)) with
   |none=>none
   |some (some true)=>some (g,0)
   |some _=>X)=X:=by
   intro X
   cases J with
   |none=>rfl
   |some b=>cases b with
    |true=>exact absurd rfl H
    |false=>rfl
  rcases b4 with⟨e,c3⟩|⟨j,x,e,hj,hx,c7⟩
  .rw[e];have M:∀y∈m::-f::t,y≠m->∃q:Nat,g.L[q]?=some (-y):=by
    intro y hy a5;have⟨i,hi⟩:=Bw.1 hy
    match i,hi with
    |0,hi=>simp at hi;exact absurd hi.symm a5
    |1,hi=>simp at hi;exact⟨p,by rw[<-hi,Int.neg_neg];exact a9⟩
    |i+2,hi=>exact c3 (i+2) y oO hi
   cases J with
   |some b=>
    cases b with
    |true=>exact absurd rfl H
    |false=>
     refine⟨g,2,_,rfl,o,A,.inr (.inr ⟨rfl,a0,fun j hj=>(B j).1 hj,oS,fun y hy=>?_⟩)⟩;by_cases a5:y=m
     .subst a5;rcases GV A (by rw[c0];exact R y oS) with⟨e,_⟩|⟨e,_⟩|⟨_,q,hq⟩
      .rw[S] at e;cases e
      .rw[S] at e;cases e
      .exact⟨q,hq⟩
     .exact M y hy a5
   |none=>
    have c8:g.V[B7 m]?=some none:=by
     rcases GV A (x:=m) (by grind) with⟨_,e⟩|⟨e,_⟩|⟨e,_⟩
     .exact e
     .rw[S] at e;cases e
     .rw[S] at e;cases e
    have⟨e2,e8⟩:=Q3 A (by grind) c8 (some c) (fun z=>by cases z) (fun d hd=>by
     injection hd with hd;subst hd;refine⟨fun z=>?_,_,a4,M⟩;have:=b0 g.L.length (by grind);rw[a6] at this;omega)
    simp only[e2,Bf];refine⟨_,0,_,rfl,⟨o.n,o.D,o.d,o.X,o.O,o.P,o.F,o.Q,o.Z,o.U,o.K,o.perm,[m],by rw[<-a6]⟩,e8,.inl ⟨rfl,a0,fun j hj=>(B j).1 hj⟩⟩
  .rw[e];have⟨t1,t2,ht,b8,a2⟩:=N4 rfl hj hx;have b6:Lit s.n x:=R x (AQ hx);have e9:x≠-f:=by
    intro z;apply c7;rw[z];exact P4 A (p:=p) (by grind)
   have c5:EC (-x)≠EC f:=by
    intro z;have:=Lc (by have:=b6.1;omega) z;omega
   have g0:Gb g c 1 j=some {g with K:=g.K.set c {k with l:=m::x::(t1++-f::t2)}}:=by
    unfold Gb;rw[a4];simp only[hx,List.getElem?_cons_succ,GZ];rw[b8]
   obtain⟨r,hr⟩:∃r,s.W[EC (-x)]?=some r:=⟨_,Ab (by rw[c2];exact Q2 (by rw[CZ];exact b6.2))⟩;have e0:=a8 _ r c5 hr;have e4:Et {g with K:=g.K.set c {k with l:=m::x::(t1++-f::t2)}} x c=some {g with K:=g.K.set c {k with l:=m::x::(t1++-f::t2)},W:=g.W.set (EC (-x)) (r++[c])}:=by
    unfold Et;simp only[a0,hr,if_pos e0]
   have b3:g.K.set c {k with l:=m::x::(t1++-f::t2)}=s.K.set c {k with l:=m::x::(t1++-f::t2)}:=by
    rw[o.K,Hr]
   have b9:(m::-f::t).Nodup:=a7.nodup_iff.2 e3;have a3:(m::x::(t1++-f::t2)).Nodup:=a2.nodup_iff.2 b9;have e6:m≠x:=by
    intro z;subst z;simp at a3
   refine⟨{g with K:=g.K.set c {k with l:=m::x::(t1++-f::t2)},W:=g.W.set (EC (-x)) (r++[c])},1,m::x::(t1++-f::t2),?_,⟨o.n,o.D,o.d,o.X,o.O,o.P,o.F,o.Q,o.Z,o.U,b3,a2.trans a7,[],by simp[a6]⟩,?_,.inr (.inl ⟨rfl,EC (-x),r,c5,hr,by simp only[a0],⟨a3,m,x,_,rfl,.inr rfl⟩,?_,?_⟩)⟩
   .grind
   .refine A.congr rfl rfl rfl rfl rfl rfl rfl rfl fun d y hd=>?_
    by_cases c4:c=d
    .grind
    .exact⟨y,by simp only[AI c4];exact hd,fun y hy=>hy⟩
   .intro z;have⟨_,u,v,w,he,z⟩:=(B _).1 z;injection he with b2 he;injection he with b1 e5;subst b2 b1;rcases z with z|z
    .have:=Lc (by have:=(R m oS).1;omega) z;exact e6 oO
    .grind
   .intro j' g1 z;have⟨_,u,v,w,he,z⟩:=(B _).1 z;injection he with b2 he;injection he with b1 e5;subst b2 b1;rcases z with z|z
    .exact⟨a3,m,x,_,rfl,.inl z⟩
    .grind
 cases S:KK g m with
 |none=>grind
 |some J=>
  by_cases H:J=some true
  .subst H;exact⟨g,0,_,rfl,o,A,.inl ⟨rfl,a0,fun j hj=>(B j).1 hj⟩⟩
  .exact b5 J S H
theorem WU {a:Type} (l:List a) (i j:Nat) (x y:a) (h:i≠j):(l.set i x).set j y=(l.set j y).set i x:=List.set_comm x y h
variable{n c:Nat} {k:Cl} {g:List Int}
theorem It.K {cls:List Cl} {w:List (List Nat)} (h:It n cls w) (m:cls[c]?=some k) (i:∀j,Wd k.l j->Wd g j):It n (cls.set c {k with l:=g}) w:=by
 refine⟨h.len,fun j r a=>⟨(h.row j r a).1,fun d b=>?_⟩,by simpa using h.tot⟩;have⟨x,f,o⟩:=(h.row j r a).2 d b;by_cases e:c=d
 .grind
 .grind
theorem It.file {cls:List Cl} {V:List (List Nat)} (h:It n cls V) {K:Nat} (P:cls[c]?=some k) {A D:List Nat} (Q:V[K]?=some (A++c::D)) {j:Nat} {r:List Nat} (hj:j≠K) (S:V[j]?=some r)
  {g:List Int} (h1:Wd g j) (Z:¬Wd k.l j) (Y:∀H,H≠K->Wd k.l H->Wd g H):It n (cls.set c {k with l:=g}) ((V.set K (A++D)).set j (r++[c])):=by
 have O:=(Aa.1 P).1;have R:=(Aa.1 Q).1;have L:=(Aa.1 S).1;have q:(cls.set c {k with l:=g})[c]?=some {k with l:=g}:=AD O;refine⟨by simp[h.len],fun i x o=>?_,?_⟩
 .by_cases C:i=j
  .subst C;rw[AD (by simpa using L)] at o;injection o with o;subst o;have z:=h.row i r S;have U:c∉r:=by
    intro B;have⟨y,m,f⟩:=z.2 c B;rw[P] at m;injection m with m;subst m;exact Z f
   refine⟨CB.2 ⟨z.1,oS,fun a ha b hb=>?_⟩,fun d p=>?_⟩
   .grind
   .grind
  .rw[AI (Ne.symm C)] at o;by_cases v:i=K
   .subst v;rw[AD R] at o;injection o with o;subst o;have⟨J,B⟩:=h.row i _ Q;have u:=(List.perm_middle).nodup_iff.1 J;rw[Dc] at u;refine⟨u.2,fun d p=>?_⟩;have M:d∈A++c::D:=by
     rcases B0.1 p with p|p
     .exact B0.2 (.inl p)
     .exact B0.2 (.inr (Dk _ p))
    have⟨y,m,f⟩:=B d M;have:c≠d:=fun e=>u.1 (e▸p)
    exact⟨y,by rw[AI this];exact m,f⟩
   .rw[AI (Ne.symm v)] at o;have⟨J,B⟩:=h.row i _ o;refine⟨J,fun d p=>?_⟩;have⟨y,m,f⟩:=B d p;by_cases G:c=d
    .subst G;rw[P] at m;injection m with m;subst m;exact⟨_,q,Y i v f⟩
    .exact⟨y,by rw[AI G];exact m,f⟩
 .have a1:=JV V K (A++D) _ Q;have a2:=JV (V.set K (A++D)) j (r++[c]) r (by grind);have:=h.tot;simp only[Cf,BU,F2,Jy] at*;omega
structure Ext (s t:St):Prop where
 n:t.n=s.n
 D:t.D=s.D
 X:t.X=s.X
 O:t.O=s.O
 P:t.P=s.P
 F:t.F=s.F
 Q:t.Q=s.Q
 Z:t.Z=s.Z
 U:t.U=s.U
 len:t.K.length=s.K.length
 L:∃e,t.L=s.L++e
theorem Ext.trans {s t u:St} (h:Ext s t) (k:Ext t u):Ext s u:=by
 have⟨e,b⟩:=h.L;have⟨d,a⟩:=k.L;exact⟨k.n.trans h.n,k.D.trans h.D,k.X.trans h.X,k.O.trans h.O,k.P.trans h.P,k.F.trans h.F,k.Q.trans h.Q,k.Z.trans h.Z,k.U.trans h.U,k.len.trans h.len,
  e++d,by rw[a,b,Hn]⟩
theorem dy.ext {a:St} (h:dy s a c k g):Ext s a:=⟨h.n,h.D,h.X,h.O,h.P,h.F,h.Q,h.Z,h.U,by rw[h.K];simp,h.L⟩
theorem Ext.at_ (h:Ext s t) {p:Nat} {x:Int} (a:s.L[p]?=some x):t.L[p]?=some x:=by
 have⟨e,b⟩:=h.L;rw[b,AW (Aa.1 a).1];exact a
theorem Ext.full (h:Ext s t) (d:∀a∈s.D,a<s.L.length):∀a∈t.D,a<t.L.length:=by
 intro a b;rw[h.D] at b;have⟨e,f⟩:=h.L;have:=d a b;rw[f,Cf];omega
theorem dy.cinv {i:St} (h:dy s i c k g) (b:s.K[c]?=some k) (f:IN s):IN i:=by
 intro d x a;rw[h.n];rw[h.K] at a;by_cases e:c=d
 .subst e;rw[AD (Aa.1 b).1] at a;injection a with a;subst a;exact⟨by have:=h.perm.length_eq;have:=(f c k b).1;simp only;omega,fun y j=>(f c k b).2 y (h.perm.subset j)⟩
 .rw[AI e] at a;exact f d x a
def Zm (t:St) (a:Int) (c:Nat):Prop:=∃k,t.K[c]?=some k/\-a∈k.l/\∀y∈k.l,∃q:Nat,t.L[q]?=some (-y)
theorem Dt.W {s:St} (h:Dt s) (w:List (List Nat)) (d:Nat):Dt {s with W:=w,d:=d}:=h.congr rfl rfl rfl rfl rfl rfl rfl rfl fun _ x b=>⟨x,b,fun _ a=>a⟩
theorem Ux {u:Int} {n K:Nat} (R:K=EC u):∀(f:Nat) (s:St) (i k:Nat) (b:List Nat) (p:Nat),Dt s->IN s->s.W[K]?=some b->b.length=n->k<=i->i<=n->n<f+i->
  It s.n s.K (s.W.set K (b.take k++b.drop i))->s.L[p]?=some u->(∀a∈s.D,a<s.L.length)->2*s.K.length<lim->
  ∃t r,OY f s u n i k=some (t,r)/\Ext s t/\Dt t/\IN t/\It t.n t.K t.W/\((r=none/\t.d=s.d)∨∃c,r=some c/\t.d=t.L.length/\Zm t u c)
 |0,_,_,_,_,_,_,_,_,_,_,hi,hf,_,_,_,_=>absurd hf oO
 |f+1,s,i,k,b,p,hT,hC,hrow,hn,hki,hin,hf,hW,C,A,hlim=>by
  unfold OY;rw[<-R,hrow];simp only;have a3:K<s.W.length:=(Aa.1 hrow).1;by_cases a0:n<=i
  .rw[if_pos a0];have hd:b.drop i=[]:=Ew oO;rw[hd,List.append_nil] at hW;exact⟨_,_,rfl,⟨rfl,rfl,rfl,rfl,rfl,rfl,rfl,rfl,rfl,rfl,[],oS⟩,hT.W _ _,hC,hW,.inl ⟨rfl,rfl⟩⟩
  .rw[if_neg a0];obtain⟨c,hc⟩:∃c,b[i]?=some c:=⟨_,Ab oO⟩;rw[hc];simp only;have H:b.drop i=c::b.drop (i+1):=by
    rw[Co oO];congr 1;have:=Ab (l:=b) (i:=i) oO;rw[hc] at this;exact(Ah this).symm
   rw[H] at hW;have a2:(s.W.set K (b.take k++c::b.drop (i+1)))[K]?=some (b.take k++c::b.drop (i+1)):=AD a3;have⟨x,Y,a4⟩:=(hW.row K _ a2).2 c oS;have a6:s.W.length=2*s.n+2:=by have:=hW.len;simpa using this
   have G:∀(j:Nat) (r:List Nat),j≠EC u->s.W[j]?=some r->r.length<lim:=by
    intro j r hj hr;have:=Q4 _ j r (by rw[AI (by rw[R];exact Ne.symm hj)];exact hr:(s.W.set K (b.take k++c::b.drop (i+1)))[j]?=some r);have:=hW.tot;omega
   have⟨s1,code,g,e,V,M,J⟩:=XA hT hC Y (R▸a4) C A a6 G;rw[e];have S:=V.cinv Y hC;have o:=V.ext.full A;have y:=V.ext.at_ C;have z:2*s1.K.length<lim:=by rw[V.ext.len];exact hlim
   rcases J with⟨rfl,m,v⟩|⟨rfl,j,r,hj,hr,m,h1,h2,h3⟩|⟨rfl,m,v,hm,a1⟩
   .simp only;have h:=hW.K Y v;rw[<-V.K,<-V.n] at h;have a5:∀X:List Nat,(s1.W.set K X).set K (b.take k++c::b.drop (i+1))=s.W.set K (b.take k++c::b.drop (i+1)):=fun X=>by rw[Hr,m]
    have a8:(b.set k c).take (k+1)=b.take k++[c]:=by
     rw[List.set_eq_take_append_cons_drop,if_pos oO,List.take_append,CX oT];simp;have:k+1-min k b.length=1:=oO;rw[this];simp
    have a7:(b.set k c).drop (i+1)=b.drop (i+1):=by
     rw[List.drop_set_of_lt oO]
    have⟨t,r,e2,q,h4⟩:=Ux (n:=n) R f {s1 with W:=s1.W.set K (b.set k c)} (i+1) (k+1) (b.set k c) p (M.W _ _) S (AD (by rw[m];exact a3)) (by simp[hn]) oO oO oO
     (by simp only[a8,a7,Hn,List.singleton_append];rw[a5];exact h) y o z
    refine⟨t,r,e2,V.ext.trans ⟨q.n,q.D,q.X,q.O,q.P,q.F,q.Q,q.Z,q.U,q.len,q.L⟩,?_⟩;rw[V.d] at h4;exact h4
   .simp only;have B:j≠K:=by rw[R];exact hj
    have h:=hW.file Y a2 B (by rw[AI (Ne.symm B)];exact hr) h1 h2 (by rw[R];exact h3);rw[<-V.K,<-V.n,Hr,WU _ _ _ _ _ (Ne.symm B),<-m] at h;have⟨t,r2,e2,q,h4⟩:=Ux R f s1 (i+1) k b p M S (by rw[m,AI B];exact hrow) hn oO oO oO h y o z;refine⟨t,r2,e2,V.ext.trans q,?_⟩;rw[V.d] at h4;exact h4
   .simp only;have h:=hW.K Y v;rw[<-V.K,<-V.n,<-m] at h;refine⟨_,_,rfl,⟨V.n,V.D,V.X,V.O,V.P,V.F,V.Q,V.Z,V.U,V.ext.len,V.L⟩,M.W _ _,S,?_,.inr ⟨c,rfl,rfl,?_⟩⟩
    .simpa using h
    .exact⟨_,by rw[V.K];exact AD (Aa.1 Y).1,hm,a1⟩
structure RInv (s:St):Prop where
 t:Dt s
 c:IN s
 w:It s.n s.K s.W
 full:∀a∈s.D,a<s.L.length
 d:s.d<=s.L.length
 low:∀a∈s.D,a<=s.d
 lim:2*s.K.length<lim
theorem Mn:∀(f:Nat) (s:St),RInv s->s.n<f+s.d->∃t r,QQ f s=some (t,r)/\Ext s t/\RInv t/\t.d=t.L.length/\∀c,r=some c->∃(i:Int) (p:Nat),t.L[p]?=some i/\(∀a∈t.D,a<=p)/\Zm t i c
 |0,s,h,hf=>absurd hf (by have:=h.t.tlen;have:=h.d;omega)
 |f+1,s,h,hf=>by
  unfold QQ;by_cases C:s.L.length<=s.d
  .rw[if_pos C];exact⟨s,none,rfl,⟨rfl,rfl,rfl,rfl,rfl,rfl,rfl,rfl,rfl,rfl,[],oS⟩,h,by have:=h.d;omega,fun c S=>by cases S⟩
  .rw[if_neg C];obtain⟨i,j⟩:∃i,s.L[s.d]?=some i:=⟨_,Ab oO⟩;obtain⟨o,l⟩:∃o,s.W[EC i]?=some o:=⟨_,Ab (by rw[h.w.len];exact Q2 (h.t.lit _ _ j).1.2)⟩;rw[j];simp only[l];have⟨t,r,e,m,H,J,G,M⟩:=Ux rfl (o.length+1) {s with d:=s.d+1} 0 0 o s.d (h.t.W s.W _) h.c l rfl (Ai _) oO oO (by simp only[List.take_zero,List.drop_zero,Jx];rw[Rw l];exact h.w) j h.full h.lim;have b:Ext s t:=⟨m.n,m.D,m.X,m.O,m.P,m.F,m.Q,m.Z,m.U,m.len,m.L⟩;have B:s.L.length<=t.L.length:=by
    have⟨e,R⟩:=b.L;rw[R];simp
   rw[e];have q:2*t.K.length<Bud.lim:=by rw[b.len];exact h.lim
   rcases M with⟨rfl,y⟩|⟨c,rfl,y,z⟩
   .simp only;have y:t.d=s.d+1:=y;have⟨u,r2,e2,A,Y⟩:=Mn f t ⟨H,J,G,b.full h.full,by rw[y];omega,fun a x=>by rw[b.D] at x;have:=h.low a x;omega,q⟩ (by rw[y,b.n];omega);exact⟨u,r2,e2,b.trans A,Y⟩
   .refine⟨t,some c,rfl,b,⟨H,J,G,b.full h.full,oO,fun a x=>by have:=b.full h.full a x;omega,q⟩,y,fun d v=>?_⟩;injection v with v;subst v;exact⟨i,s.d,b.at_ j,fun a x=>by rw[b.D] at x;exact h.low a x,z⟩
structure oJ (s t:St) (r:List Int):Prop where
 n:t.n=s.n
 W:t.W=s.W
 H:t.H=s.H
 L:t.L=s.L
 D:t.D=s.D
 d:t.d=s.d
 Q:t.Q=s.Q
 Z:t.Z=s.Z
 U:t.U=s.U
 len:t.K.length=s.K.length
 lits:∀i:Nat,(t.K[i]?).map Cl.l=(s.K[i]?).map Cl.l
 vlen:t.V.length=s.V.length
 wlen:t.Y.length=s.Y.length
 plen:t.F.length=s.F.length
 cut:∀v:Nat,v<=s.n->(∃x∈r,B7 x=v)->t.V[v]?=some none/\t.Y[v]?=some none
 keep:∀v:Nat,(∀x∈r,B7 x≠v)->t.V[v]?=s.V[v]?/\t.Y[v]?=s.Y[v]?
theorem push_inv {s:St} (h:DX s) {v:Nat} {p:Int} (g:0<v) (k:v<=s.n) (j:s.P[v]?=some p) (d:p<0):DX {s with P:=s.P.set v (s.O.length:Int),O:=s.O++[v]}:=by
 have c:=h.P;refine⟨h.small,h.X,by simp[c],fun i w a=>?_,fun w i f a=>?_⟩
 .simp only at a⊢;rw[Ee] at a;split at a
  .have b:=h.ord i w a;have:v≠w:=by
    intro e;subst e;have:=j.symm.trans b.2.2;injection this with this;omega
   rw[AI this];exact b
  .grind
 .simp only at a⊢;by_cases e:v=w
  .grind
  .rw[AI e] at a;have b:=h.plc w i f a;rw[AW (Aa.1 b).1];exact b
theorem Vo:∀(r:List Int) (s:St),DX s->s.n<=10->s.V.length=s.n+1->s.Y.length=s.n+1->s.F.length=s.n+1->(∀x∈r,Lit s.n x)->∃t,I8 r s=some t/\DX t/\oJ s t r
 |[],s,h,_,_,_,_,_=>⟨s,rfl,h,rfl,rfl,rfl,rfl,rfl,rfl,rfl,rfl,rfl,rfl,fun _=>rfl,rfl,rfl,rfl,fun _ _ o=>by simp at o,fun _ _=>⟨rfl,rfl⟩⟩
 |x::r,s,h,hf,hv,hw,hp,hr=>by
  unfold I8;have o:=hr x oS;have u:=o.2;have z:0<B7 x:=by have:=o.1;unfold B7;omega
  obtain⟨q,B⟩:∃q,s.P[B7 x]?=some q:=⟨_,Ab (by rw[h.P];omega)⟩;obtain⟨k,M,G,a⟩:∃k,(if q<0 then if lim<=s.O.length then none else VE (s.O.length+1) {s with F:=s.F.set (B7 x) (decide (0<x)),V:=s.V.set (B7 x) none,Y:=s.Y.set (B7 x) none,P:=s.P.set (B7 x) (s.O.length:Int),O:=s.O++[B7 x]} s.O.length
    else some {s with F:=s.F.set (B7 x) (decide (0<x)),V:=s.V.set (B7 x) none,Y:=s.Y.set (B7 x) none})=some k/\DX k/\Same {s with F:=s.F.set (B7 x) (decide (0<x)),V:=s.V.set (B7 x) none,Y:=s.Y.set (B7 x) none} k:=by
   by_cases g:q<0
   .rw[if_pos g,if_neg (by have:=h.olen;unfold lim;omega)];have J:=push_inv (s:={s with F:=s.F.set (B7 x) (decide (0<x)),V:=s.V.set (B7 x) none,Y:=s.Y.set (B7 x) none}) ⟨h.small,h.X,h.P,h.ord,h.plc⟩ z u B g;have⟨t,e,p⟩:=Yz (s.O.length+1) s.O.length J oS oO;have b:=p.same;exact⟨t,e,p.inv,⟨b.n,b.W,b.V,b.H,b.Y,b.L,b.D,b.d,b.F,b.Q,b.Z,b.U,b.len,b.lits⟩⟩
   .rw[if_neg g];exact⟨_,rfl,⟨h.small,h.X,h.P,h.ord,h.plc⟩,Same.refl _⟩
  have⟨t,e,p,U⟩:=Vo r k G (by rw[a.n];exact hf) (by rw[a.V,a.n];simp[hv]) (by rw[a.Y,a.n];simp[hw]) (by rw[a.F,a.n];simp[hp]) (fun y c=>by rw[a.n];exact hr y (by simp[c]));refine⟨t,?_,p,U.n.trans a.n,U.W.trans a.W,U.H.trans a.H,U.L.trans a.L,U.D.trans a.D,U.d.trans a.d,U.Q.trans a.Q,U.Z.trans a.Z,U.U.trans a.U,
   U.len.trans a.len,fun i=>(U.lits i).trans (a.lits i),by rw[U.vlen,a.V];simp,by rw[U.wlen,a.Y];simp,by rw[U.plen,a.F];simp,fun v A f=>?_,fun v f=>?_⟩
  .grind
  .by_cases j:∃y∈r,B7 y=v
   .exact U.cut v (by rw[a.n];exact A) j
   .have:=U.keep v (fun y c C=>j ⟨y,c,C⟩);have⟨y,c,l⟩:=f;rcases Az.1 c with rfl|c
    .rw[this.1,this.2,a.V,a.Y,<-l];exact⟨AD oO,AD oO⟩
    .exact absurd ⟨y,c,l⟩ j
  .have:=U.keep v (fun y c=>f y (by simp[c]));have m:=f x oS;rw[this.1,this.2,a.V,a.Y];exact⟨AI m,AI m⟩
structure Bk (s t:St) (lv from_:Nat):Prop where
 n:t.n=s.n
 W:t.W=s.W
 H:t.H=s.H
 L:t.L=s.L.take from_
 D:t.D=s.D.take lv
 d:t.d=from_
 Q:t.Q=s.Q
 Z:t.Z=s.Z
 U:t.U=s.U
 len:t.K.length=s.K.length
 lits:∀i:Nat,(t.K[i]?).map Cl.l=(s.K[i]?).map Cl.l
 gone:∀(p:Nat) (x:Int),from_<=p->s.L[p]?=some x->t.V[B7 x]?=some none
theorem QA {s:St} (h:Dt s) (hH:DX s) {o d:Nat} (m:s.D[o]?=some d):∃t,GD s o=some t/\Dt t/\DX t/\Bk s t o d:=by
 have a7:=(Aa.1 m).1;have a5:=h.top o d m;unfold GD;rw[if_neg oO,m];simp only;rw[if_pos a5];have⟨t,e,M,U⟩:=Vo (s.L.drop d) s hH h.few h.val h.whl h.pha (fun x g=>by
  have⟨p,f⟩:=Bw.1 g;rw[Dl] at f;exact(h.lit _ x f).1)
 rw[e];have B:∀(p:Nat) (x:Int),(s.L.take d)[p]?=some x↔(p<d/\s.L[p]?=some x):=by
  intro p x;rw[Ce];split
  .simp[*]
  .simp[*]
 have R:∀(i a:Nat),(s.D.take o)[i]?=some a↔(i<o/\s.D[i]?=some a):=by
  intro i a;rw[Ce];split
  .simp[*]
  .simp[*]
 have a6:∀(p:Nat) (x:Int),d<=p->s.L[p]?=some x->x∈s.L.drop d:=by
  intro p x f g;refine Bw.2 ⟨p-d,?_⟩;rw[Dl];rw[show d+(p-d)=p by omega];exact g
 have low:∀(p:Nat) (x:Int),p<d->s.L[p]?=some x->∀y∈s.L.drop d,B7 y≠B7 x:=by
  intro p x f g y J l;have⟨q,z⟩:=Bw.1 J;rw[Dl] at z;have:=h.one _ _ _ _ z g l;omega
 refine⟨_,rfl,?_,⟨M.small,M.X,M.P,M.ord,M.plc⟩,U.n,U.W,U.H,by simp only[U.L],by simp only[U.D],rfl,U.Q,U.Z,U.U,U.len,U.lits,fun p x f g=>?_⟩
 .refine⟨by simp only[U.n];exact h.few,by simp only[U.n,U.vlen];exact h.val,by simp only[U.n,U.H];exact h.lev,by simp only[U.n,U.wlen];exact h.whl,by simp only[U.n,U.plen];exact h.pha,by simp only[U.n,U.U];exact h.see,
   ?_,?_,?_,?_,?_,?_,?_,?_,?_,?_,?_⟩
  .intro p x f;simp only[U.L,U.n] at f⊢;rw[B] at f;have a1:=h.lit p x f.2;refine⟨a1.1,?_⟩;rw[(U.keep _ (low p x f.1 f.2)).1];exact a1.2
  .intro p q x y f z;simp only[U.L] at f z;rw[B] at f z;exact h.one p q x y f.2 z.2
  .intro v b u;simp only[U.L] at u⊢;have C:v<=s.n:=by
    have:=(Aa.1 u).1;rw[U.vlen,h.val] at this;omega
   have a2:∀x∈s.L.drop d,B7 x≠v:=by
    intro x g l;have:=(U.cut v C ⟨x,g,l⟩).1;rw[u] at this;cases this
   rw[(U.keep v a2).1] at u;have⟨p,x,f,g⟩:=h.has v b u;refine⟨p,x,(B p x).2 ⟨?_,f⟩,g⟩;rcases Do p d with l|l
   .exact l
   .grind
  .intro i j a b a4 A u;simp only[U.D] at A u;rw[R] at A u;exact h.srt i j a b a4 A.2 u.2
  .intro i a A;simp only[U.D,U.L] at A⊢;rw[R] at A;have:=h.srt i o a d oO A.2 m;simp;omega
  .intro p x f;simp only[U.L,U.H,U.D] at f⊢;rw[B] at f;have⟨k,hk,hk2,a8⟩:=h.lvl p x f.2;refine⟨k,hk,?_,fun i a A=>?_⟩
   .grind
   .grind
  .intro p x f;simp only[U.L,U.D] at f⊢;rw[B] at f;rw[(U.keep _ (low p x f.1 f.2)).2,h.dec p x f.2];constructor
   .intro hm;have⟨i,hi⟩:=Bw.1 hm;refine Bw.2 ⟨i,(R i p).2 ⟨?_,hi⟩⟩;rcases Do i o with l|l
    .exact l
    .have:=h.srt o i d p l m hi;omega
   .grind
  .intro p x c f Y;simp only[U.L] at f Y⊢;rw[B] at f;rw[(U.keep _ (low p x f.1 f.2)).2] at Y;have⟨k,hk,h1⟩:=h.rea p x c f.2 Y;have G:=U.lits c;rw[hk] at G
   cases hc:t.K[c]? with
   |none=>rw[hc] at G;simp at G
   |some k2=>
    rw[hc] at G;simp at G;refine⟨k2,rfl,fun y J a3=>?_⟩;have⟨q,z,a0⟩:=h1 y (by rw[<-G];exact J) a3;exact⟨q,z,(B q _).2 ⟨oO,a0⟩⟩
  .intro v c r;rw[U.len];have C:v<=s.n:=by
    have:=(Aa.1 r).1;rw[U.wlen,h.whl] at this;omega
   by_cases O:∃y∈s.L.drop d,B7 y=v
   .have:=(U.cut v C O).2;rw[r] at this;cases this
   .rw[(U.keep v fun y J l=>O ⟨y,J,l⟩).2] at r;exact h.whn v c r
  .have:=h.sb;simp only[U.D,Ca];omega
  .simp only[U.H];exact h.levb
 .have S:=(h.lit p x g).1.2;exact(U.cut (B7 x) S ⟨x,a6 p x f g,rfl⟩).1
structure Lr (s t:St):Prop where
 n:t.n=s.n
 W:t.W=s.W
 V:t.V=s.V
 H:t.H=s.H
 Y:t.Y=s.Y
 L:t.L=s.L
 D:t.D=s.D
 d:t.d=s.d
 F:t.F=s.F
 Q:t.Q=s.Q
 Z:t.Z=s.Z
 U:t.U.length=s.U.length
 len:t.K.length=s.K.length
 lits:∀i:Nat,(t.K[i]?).map Cl.l=(s.K[i]?).map Cl.l
theorem Lr.refl (s:St):Lr s s:=⟨rfl,rfl,rfl,rfl,rfl,rfl,rfl,rfl,rfl,rfl,rfl,rfl,rfl,fun _=>rfl⟩
theorem Lr.trans {s t u:St} (h:Lr s t) (k:Lr t u):Lr s u:=
 ⟨k.n.trans h.n,k.W.trans h.W,k.V.trans h.V,k.H.trans h.H,k.Y.trans h.Y,k.L.trans h.L,k.D.trans h.D,k.d.trans h.d,k.F.trans h.F,
  k.Q.trans h.Q,k.Z.trans h.Z,k.U.trans h.U,k.len.trans h.len,fun i=>(k.lits i).trans (h.lits i)⟩
theorem Same.lr (h:Same s t):Lr s t:=⟨h.n,h.W,h.V,h.H,h.Y,h.L,h.D,h.d,h.F,h.Q,h.Z,by rw[h.U],h.len,h.lits⟩
variable{x:Cl}
theorem Lr.cl (k:Lr s t) (b:s.K[c]?=some x):∃y,t.K[c]?=some y/\y.l=x.l:=by
 have:=k.lits c;rw[b] at this
 cases a:t.K[c]? with
 |none=>rw[a] at this;simp at this
 |some y=>rw[a] at this;simp at this;exact⟨y,rfl,this⟩
theorem Lr.cl' (k:Lr s t) (b:t.K[c]?=some x):∃y,s.K[c]?=some y/\y.l=x.l:=by
 have:=k.lits c;rw[b] at this
 cases a:s.K[c]? with
 |none=>rw[a] at this;simp at this
 |some y=>rw[a] at this;simp at this;exact⟨y,rfl,this.symm⟩
theorem Dt.lr (h:Dt s) (k:Lr s t):Dt t:=
 h.congr k.n k.V k.H k.Y (by rw[k.F]) k.U k.L k.D fun c x d=>by
  have⟨y,b,e⟩:=k.cl d;exact⟨y,b,fun z a=>by rw[<-e];exact a⟩
theorem IN.lr (h:IN s) (k:Lr s t):IN t:=by
 intro c x b;have⟨z,a,e⟩:=k.cl' b;rw[k.n,<-e];exact h c z a
theorem IR.lr (h:IR s) (k:Lr s t):IR t:=by
 intro i a;rw[k.len];rw[k.Q] at a;exact h i a
def Mk (s:St) (m:List Nat):Prop:=∀v:Nat,s.U[v]?=some true↔v∈m
def pc (s:St) (l:Int):Bool:=decide (s.U[B7 l]?=some true)&&decide (s.H[B7 l]?=some s.D.length)
def cnt (s:St) (i:Nat):Nat:=(s.L.take i).countP (pc s)
structure QC (s:St) (m:List Nat) (o:List Int):Prop where
 nd:o.Nodup
 mem:∀x∈o,B7 x∈m
 fal:∀x∈o,∃q:Nat,s.L[q]?=some (-x)
 lev:∀x∈o,∃k,s.H[B7 x]?=some k/\k<s.D.length
variable{m:List Nat}
theorem QC.lr {o:List Int} (h:QC s m o) (k:Lr s t):QC t m o:=⟨h.nd,h.mem,by rw[k.L];exact h.fal,by rw[k.H,k.D];exact h.lev⟩
theorem NV:∀(L:List Int) (P Q:Int->Bool) (q:Nat) (z:Int),L[q]?=some z->(∀(r:Nat) (w:Int),L[r]?=some w->B7 w=B7 z->r=q)->P z=false->Q z=true->(∀w∈L,B7 w≠B7 z->Q w=P w)->L.countP Q=L.countP P+1
 |[],_,_,_,_,h,_,_,_,_=>by cases h
 |a::L,P,Q,0,z,h,h1,hP,hQ,hs=>by
  simp at h;subst h;rw[List.countP_cons_of_pos hQ,List.countP_cons_of_neg (by rw[hP];simp)];congr 1;refine List.countP_congr fun w d=>?_
  have⟨r,f⟩:=Bw.1 d;have:B7 w≠B7 a:=fun e=>by have:=h1 (r+1) w (by simpa using f) e;omega
  rw[hs w (by simp[d]) this]
 |a::L,P,Q,q+1,z,h,h1,hP,hQ,hs=>by
  have k:B7 a≠B7 z:=fun e=>by have:=h1 0 a oS e;omega
  have j:=NV L P Q q z (by simpa using h) (fun r w f e=>by have:=h1 (r+1) w (by simpa using f) e;omega) hP hQ (fun w d=>hs w (by simp[d]));have g:=hs a oS k
  cases b:P a with
  |true=>grind
  |false=>rw[List.countP_cons_of_neg (by rw[g,b];simp),List.countP_cons_of_neg (by rw[b];simp),j]
theorem Dt.levAt (h:Dt s) (a:v<=s.n):∃k,s.H[v]?=some k:=⟨_,Ab (by rw[h.lev];omega)⟩
theorem Dt.seeAt (h:Dt s) (a:v<=s.n):∃k,s.U[v]?=some k:=⟨_,Ab (by rw[h.see];omega)⟩
theorem Dt.whyAt (h:Dt s) (a:v<=s.n):∃k,s.Y[v]?=some k:=⟨_,Ab (by rw[h.whl];omega)⟩
theorem Mk.len (h:Dt s) (d:Mk s m) (b:m.Nodup):m.length<=s.n+1:=JF _ _ b fun v a=>by
 have:=(Aa.1 ((d v).2 a)).1;rw[h.see] at this;exact this
theorem IV {i:Nat}:∀(L:List Int) (s:St) (m:List Nat) (o:List Int) (k:Nat),Dt s->DX s->IR s->Mk s m->m.Nodup->QC s m o->o.length+k<=m.length->k=cnt s i->
  (∀y∈L,∃q:Nat,q<i/\s.L[q]?=some (-y))->
  ∃z B M C,DI L s m o k=some (z,B,M,C)/\Lr s z/\DX z/\Mk z B/\B.Nodup/\QC z B M/\M.length+C<=B.length/\C=cnt z i/\k<=C/\(∀y∈L,s.H[B7 y]?=some s.D.length->0<s.D.length->(s.U[B7 y]?≠some true)->0<C)
 |[],s,m,o,k,_,hH,_,hm,hn,hO,hl,hk,_=>⟨s,m,o,k,rfl,Lr.refl s,hH,hm,hn,hO,hl,hk,Ai _,fun y f=>by simp at f⟩
 |x::r,s,m,o,k,hT,hH,hL,hm,hn,hO,hl,hk,hf=>by
  have⟨q,b3,hq⟩:=hf x oS;have hx:=(hT.lit q _ hq).1;have Y:B7 x<=s.n:=by have:=hx.2;rwa [CZ] at this
  have b9:x≠0:=by have:=hx.1;omega
  have b2:0<B7 x:=by unfold B7;omega
  have⟨b,J⟩:=hT.seeAt Y;have⟨lv,l⟩:=hT.levAt Y;unfold DI;rw[J,l];simp only;by_cases hs:b=true∨lv=0
  .rw[if_pos hs];have⟨z,B,M,C,e,h1,h2,h3,h4,h5,h6,h7,h8,h9⟩:=IV r s m o k hT hH hL hm hn hO hl hk (fun y f=>hf y (by simp[f]));refine⟨z,B,M,C,e,h1,h2,h3,h4,h5,h6,h7,h8,fun y f g S R=>?_⟩;rcases Az.1 f with rfl|f
   .grind
   .exact h9 y f g S R
  .rw[if_neg hs];have b4:b=false:=by cases b<;>simp_all
   subst b4;have c0:=hm.len hT hn;have b8:=hT.few;rw[if_neg (by unfold lim;omega)];have b6:DX {s with U:=s.U.set (B7 x) true}:=⟨hH.small,hH.X,hH.P,hH.ord,hH.plc⟩;have⟨A,e',Q⟩:=bS b6 hL Y b2;simp only[e'];have d:Lr s A:=Lr.trans (t:={s with U:=s.U.set (B7 x) true}) ⟨rfl,rfl,rfl,rfl,rfl,rfl,rfl,rfl,rfl,rfl,rfl,oS,rfl,fun _=>rfl⟩ Q.same.lr;have j:A.U=s.U.set (B7 x) true:=Q.same.U;have a0:B7 x∉m:=fun hh=>by have:=(hm _).2 hh;rw[J] at this;cases this
   have a5:B7 x<s.U.length:=by rw[hT.see];omega
   have a7:Mk A (m++[B7 x]):=by
    intro v;rw[j];by_cases e:B7 x=v
    .subst e;rw[AD a5];simp
    .rw[AI e,hm v];have:v≠B7 x:=fun hh=>e hh.symm
     simp[this]
   have a6:(m++[B7 x]).Nodup:=CB.2 ⟨hn,oS,fun a ha b J=>by simp at J;subst J;exact fun e=>a0 (e▸ha)⟩;have b0:=hT.lr d;have b1:=hL.lr d;have a8:∀y∈r,∃q:Nat,q<i/\A.L[q]?=some (-y):=fun y f=>by rw[d.L];exact hf y (by simp[f])
   have a4:∀(p:Nat) (w:Int),(s.L.take i)[p]?=some w↔(p<i/\s.L[p]?=some w):=by
    intro p w;rw[Ce];split<;>simp[*]
   have a9:∀w∈s.L.take i,B7 w≠B7 (-x)->pc A w=pc s w:=by
    intro w hw u;rw[CZ] at u;unfold pc;rw[j,AI (Ne.symm u),d.H,d.D]
   have G:QC A (m++[B7 x]) o:=⟨hO.nd,fun y f=>B0.2 (.inl (hO.mem y f)),(hO.lr d).fal,(hO.lr d).lev⟩;by_cases h:lv=s.D.length
   .rw[if_pos h];subst h;have Z:cnt A i=cnt s i+1:=by
     unfold cnt;rw[d.L];refine NV _ _ _ q (-x) ((a4 q (-x)).2 ⟨b3,hq⟩) (fun p w hp e=>hT.one p q w (-x) ((a4 p w).1 hp).2 hq e) ?_ ?_ a9
     .unfold pc;rw[CZ,J];simp
     .unfold pc;rw[CZ,j,AD a5,d.H,d.D,l];simp
    have⟨z,B,M,C,e,h1,h2,h3,h4,h5,h6,h7,h8,h9⟩:=IV r A (m++[B7 x]) o (k+1) b0 Q.inv b1 a7 a6 G oT (by rw[Z,hk]) a8;exact⟨z,B,M,C,e,d.trans h1,h2,h3,h4,h5,h6,h7,oO,fun _ _ _ _ _=>oO⟩
   .rw[if_neg h];have Z:cnt A i=cnt s i:=by
     unfold cnt;rw[d.L];refine List.countP_congr fun w hw=>?_
     by_cases u:B7 w=B7 (-x)
     .have a1:pc s w=false:=by unfold pc;rw[u,CZ,J];simp
      have a2:pc A w=false:=by
       unfold pc;rw[u,CZ,d.H,d.D,l];simp[h]
      rw[a1,a2]
     .rw[a9 w hw u]
    have⟨kk,O,b7,_⟩:=hT.lvl q _ hq;rw[CZ,l] at O;injection O with O;subst O;have b5:QC A (m++[B7 x]) (o++[x]):=by
     refine⟨CB.2 ⟨hO.nd,oS,fun a ha b J=>?_⟩,fun y f=>?_,fun y f=>?_,fun y f=>?_⟩
     .simp at J;subst J;exact fun e=>a0 (hO.mem _ (e▸ha))
     .rcases B0.1 f with f|f
      .exact B0.2 (.inl (hO.mem y f))
      .simp at f;subst f;simp
     .rcases B0.1 f with f|f
      .exact G.fal y f
      .simp at f;subst f;exact⟨q,by rw[d.L];exact hq⟩
     .rcases B0.1 f with f|f
      .exact G.lev y f
      .simp at f;subst f;exact⟨lv,by rw[d.H];exact l,by rw[d.D];omega⟩
    have⟨z,B,M,C,e,h1,h2,h3,h4,h5,h6,h7,h8,h9⟩:=IV r A (m++[B7 x]) (o++[x]) k b0 Q.inv b1 a7 a6 b5 oT (by rw[Z,hk]) a8;refine⟨z,B,M,C,e,d.trans h1,h2,h3,h4,h5,h6,h7,h8,fun y f g S R=>?_⟩;rcases Az.1 f with rfl|f
    .rw[l] at g;injection g with g;exact absurd g h
    .by_cases a3:B7 x=B7 y
     .rw[<-a3,l] at g;injection g with g;exact absurd g h
     .exact h9 y f (by rw[d.H,d.D];exact g) (by rw[d.D];exact S) (by rw[j,AI a3];exact R)
theorem fD (h:Dt s) {q p:Nat} {x y:Int} (g:s.L[q]?=some x) (j:s.L[p]?=some y) (f:q<=p) (e:s.H[B7 x]?=some s.D.length):s.H[B7 y]?=some s.D.length:=by
 have⟨a,d,z,u⟩:=h.lvl q x g;have⟨b,r,o,n⟩:=h.lvl p y j;rw[e] at d;injection d with d;rw[r];congr 1;rcases Do b s.D.length with k|l
 .grind
 .omega
variable{i:Nat}
theorem Y7 {l:Int} (h:s.L[i]?=some l):cnt s (i+1)=cnt s i+(if pc s l=true then 1 else 0):=by
 unfold cnt;rw[CK,h,Option.toList_some,List.countP_append,List.countP_singleton]
theorem KZ (h:0<cnt s i):∃(q:Nat) (x:Int),q<i/\s.L[q]?=some x/\pc s x=true:=by
 have⟨x,b,d⟩:=List.countP_pos_iff.1 h;have⟨q,a⟩:=Bw.1 b;rw[Ce] at a;split at a
 .exact⟨q,x,by assumption,a,d⟩
 .cases a
theorem Vp {s:St} (h:Dt s):∀(i:Nat),i<=s.L.length->0<cnt s i->∃j l,IF s i=some j/\j<i/\s.L[j]?=some l/\pc s l=true/\cnt s j+1=cnt s i
 |0,_,h0=>by unfold cnt at h0;simp at h0
 |i+1,hi,h0=>by
  obtain⟨l,f⟩:∃l,s.L[i]?=some l:=⟨_,Ab oO⟩;unfold IF;rw[f];have⟨b,k⟩:=h.seeAt (h.lit i l f).1.2;simp only[k];have g:=Y7 f
  cases b with
  |true=>
   have a:pc s l=true:=by
    by_cases n:pc s l=true
    .exact n
    .rw[if_neg n] at g;obtain⟨q,x,y,p,d⟩:=KZ oO;unfold pc at d⊢;simp only[AE,decide_eq_true_eq] at d⊢;exact⟨k,fD h p f oO d.2⟩
   rw[if_pos a] at g;exact⟨i,l,rfl,oO,f,a,oO⟩
  |false=>
   have a:pc s l=false:=by unfold pc;rw[k];simp
   rw[if_neg (by rw[a];simp)] at g;have⟨j,o,e,z,u,r,A⟩:=Vp h i oO oO;exact⟨j,o,e,oO,u,r,oO⟩
theorem Y8 (h:DX s) (a:s.K[c]?=some x):Heap s (Hb s c x):=by
 unfold Hb;split
 .exact NQ h c x _ a
 .exact⟨h,Same.refl s,rfl⟩
theorem Same.mks (h:Same s t) (a:Mk s m):Mk t m:=by
 unfold Mk;rw[h.U];exact a
theorem Same.cnt {s t:St} (h:Same s t) (i:Nat):cnt t i=cnt s i:=by
 unfold Bud.cnt;rw[h.L];congr 1;funext l;unfold pc;rw[h.U,h.H,h.D]
theorem Vq:∀(f:Nat) (s:St) (c:Nat) (n:Int) (i:Nat) (m:List Nat) (o:List Int) (k:Nat),Dt s->DX s->IR s->Mk s m->m.Nodup->QC s m o->o.length+k<=m.length->k=cnt s i->i<=s.L.length->i<f->0<s.D.length->
  (∃x,s.K[c]?=some x/\(∀y∈x.l,y≠n->∃q:Nat,q<i/\s.L[q]?=some (-y))/\(0<k∨∃y∈x.l,y≠n/\s.H[B7 y]?=some s.D.length/\s.U[B7 y]?≠some true))->
  ∃d J P l,DF f s c n i m o k=some (d,J,P,l)/\Lr s d/\DX d/\Mk d J/\J.Nodup/\QC d J P/\P.length<=J.length/\∃p:Nat,d.L[p]?=some l/\d.H[B7 l]?=some d.D.length
 |0,_,_,_,_,_,_,_,_,_,_,_,_,_,_,_,_,hf,_,_=>absurd hf oO
 |f+1,s,c,n,i,m,o,k,hT,hH,hL,hm,hn,hO,hl,hk,hi,hf,hst,⟨x,hx,hfal,G⟩=>by
  unfold DF;rw[hx];simp only;have A:=Y8 hH hx;have r:=A.same.lr;obtain⟨d,J,P,S,e,h1,h2,h3,h4,h5,h6,h7,h8,h9⟩:=IV (x.l.filter fun y=>decide (y≠n)) (Hb s c x) m o k (hT.same A.same) A.inv (hL.lr r) (A.same.mks hm) hn (hO.lr r) hl (by rw[A.same.cnt];exact hk)
   (fun y B=>by
    rw[GF] at B;rw[A.same.L];exact hfal y B.1 (by simpa using B.2))
  rw[e];simp only;have u:=r.trans h1;have hk1:0<S:=by
   rcases G with G|⟨y,B,a0,Z,Y⟩
   .omega
   .exact h9 y (GF.2 ⟨B,by simpa using a0⟩) (by rw[A.same.H,A.same.D];exact Z) (by rw[A.same.D];exact hst) (by rw[A.same.U];exact Y)
  have h:=hT.lr u;have⟨j,l,ej,hj,C,O,a5⟩:=Vp h i (by rw[u.L];exact hi) oO;rw[ej];simp only[C];rw[if_neg oO];have a4:d.H[B7 l]?=some d.D.length:=by
   unfold pc at O;simp only[AE,decide_eq_true_eq] at O;exact O.2
  by_cases Q:S=1
  .grind
  .rw[if_neg Q];have⟨y,B⟩:=h.whyAt (h.lit j l C).1.2;rw[B]
   cases y with
   |none=>
    exfalso;have a1:=(h.dec j l C).1 B;have⟨a,ha⟩:=Bw.1 a1;have⟨q,z,hq,hz,M⟩:=KZ (s:=d) (i:=j) oO;have⟨b,hb,a6,a3⟩:=h.lvl q z hz;have:d.H[B7 z]?=some d.D.length:=by
     unfold pc at M;simp only[AE,decide_eq_true_eq] at M;exact M.2
    rw[this] at hb;injection hb with hb;have a7:=a3 a j ha;have:=(Aa.1 ha).1;omega
   |some c1=>
    have⟨kk,a2,R⟩:=h.rea j l c1 C B;have⟨s2,m2,o2,l2,e2,g1,g⟩:=Vq f d c1 l j J P (S- 1) h h2 (hL.lr u) h3 h4 h5 oO oO (by grind) oO (by rw[u.D];exact hst)
     ⟨kk,a2,R,.inl oO⟩
    exact⟨s2,m2,o2,l2,e2,u.trans g1,g⟩
theorem LO {s:St} (h:Dt s) (imp:Kn->Int->Option (Bool×Kn)):∀(L:List Int) (K:Kn),(∀y∈L,B7 y<=s.n/\∀K,∃b a,imp K y=some (b,a))->∃b a,J5 imp s L K=some (b,a)
 |[],K,_=>⟨true,K,rfl⟩
 |y::r,K,hL=>by
  have⟨g,i⟩:=hL y oS;have⟨b,j⟩:=h.seeAt g;have⟨k,f⟩:=h.levAt g;unfold J5;rw[j,f];simp only;split
  .have⟨d,a,e⟩:=i K;rw[e]
   cases d with
   |true=>exact LO h imp r a fun z c=>hL z (by simp[c])
   |false=>exact⟨false,a,rfl⟩
  .exact LO h imp r K fun z c=>hL z (by simp[c])
theorem Ny {s:St} (h:Dt s):∀(f:Nat) (K:Kn) (x:Int) (q:Nat),s.L[q]?=some (-x)->q<f->∃b i,ER s f K x=some (b,i)
 |0,_,_,_,_,hf=>absurd hf oO
 |f+1,K,x,q,hq,hf=>by
  unfold ER
  cases K x with
  |some b=>exact⟨b,K,rfl⟩
  |none=>
   have g:=(h.lit q _ hq).1.2;rw[CZ] at g;have⟨y,a⟩:=h.whyAt g;rw[a]
   cases y with
   |none=>exact⟨false,_,rfl⟩
   |some c=>
    have⟨k,j,m⟩:=h.rea q (-x) c hq (by rw[CZ];exact a);simp only[j];have⟨b,i,e⟩:=LO h (ER s f) (k.l.filter fun y=>decide (y≠-x)) K (fun y a=>by
     rw[GF] at a;have⟨p,n,d⟩:=m y a.1 (by simpa using a.2);have:=(h.lit p _ d).1.2;rw[CZ] at this;exact⟨this,fun K=>Ny h f K y p d oO⟩)
    rw[e];exact⟨b,_,rfl⟩
theorem Nz {s:St} (h:Dt s) {f:Nat} (i:s.n<=f):∀(L:List Int) (K:Kn) (r:List Int),(∀x∈L,∃q:Nat,s.L[q]?=some (-x))->∃sub,KT s f L K r=some (r++sub)/\sub.Sublist L
 |[],K,r,_=>⟨[],by simp[KT],List.Sublist.refl _⟩
 |x::t,K,r,hL=>by
  have⟨q,g⟩:=hL x oS;have k:=h.tlen;have:=(Aa.1 g).1;have⟨b,j,e⟩:=Ny h f K x q g oO;unfold KT;rw[e]
  cases b with
  |true=>
   have⟨sub,d,c⟩:=Nz h i t j r fun y a=>hL y (by simp[a])
   exact⟨sub,d,c.cons x⟩
  |false=>
   have⟨sub,d,c⟩:=Nz h i t j (r++[x]) fun y a=>hL y (by simp[a])
   exact⟨x::sub,by simp only;rw[d];simp,c.cons_cons x⟩
theorem Pm:∀(m:List Nat) (s:St),(∀v∈m,v<s.U.length)->∃l,Gq m s=some {s with U:=l}/\l.length=s.U.length/\∀v:Nat,(v∈m->l[v]?=some false)/\(v∉m->l[v]?=s.U[v]?)
 |[],s,_=>⟨s.U,rfl,rfl,fun v=>⟨fun h=>by simp at h,fun _=>rfl⟩⟩
 |v::r,s,h=>by
  unfold Gq;have b:=h v oS;rw[if_pos b];have⟨l,e,c,d⟩:=Pm r {s with U:=s.U.set v false} (fun w a=>by have:=h w (by simp[a]);simpa using this);refine⟨l,e,by simpa using c,fun w=>⟨fun a=>?_,fun a=>?_⟩⟩
  .grind
  .grind
def Rk (s:St) (x:Int):Nat:=(s.H[B7 x]?).getD 0
theorem LP {s:St}:∀(f:Nat) (l:List Int) (i g:Nat) (a:Int) (t:List Int),l=a::t->l.length<=f+i->1<=i->(∀y∈l,∃k,s.H[B7 y]?=some k)->(g=0∨∃y∈t,Rk s y=g)->(∀(j:Nat) (y:Int),1<=j->j<i->l[j]?=some y->Rk s y<=g)->
  ∃v c,Fy s f l i g=some (a::v,c)/\v.Perm t/\(c=0∨∃y∈v,Rk s y=c)/\∀y∈v,Rk s y<=c
 |0,l,i,g,a,t,hl,hf,hi,hk,hlv,hlow=>by
  refine⟨t,g,by rw[hl];rfl,List.Perm.refl _,hlv,fun y J=>?_⟩;have⟨j,m⟩:=Bw.1 J;refine hlow (j+1) y oO ?_ (by rw[hl];simpa using m);have:=(Aa.1 m).1;rw[hl] at hf;simp at hf;omega
 |f+1,l,i,g,a,t,hl,hf,hi,hk,hlv,hlow=>by
  unfold Fy
  cases d:l[i]? with
  |none=>
   refine⟨t,g,by rw[hl],List.Perm.refl _,hlv,fun y J=>?_⟩;have⟨j,m⟩:=Bw.1 J;refine hlow (j+1) y oO ?_ (by rw[hl];simpa using m);have:=(Aa.1 m).1;have r:=List.getElem?_eq_none_iff.1 d;rw[hl] at r;simp at r;omega
  |some x=>
   simp only;have⟨n,P⟩:=hk x (AQ d);have L:Rk s x=n:=by unfold Rk;rw[P];rfl
   rw[P];simp only;have q:=(Aa.1 d).1;by_cases G:g<n
   .rw[if_pos G];obtain⟨y,t0,rfl⟩:∃y t0,t=y::t0:=by
     cases t with
     |nil=>rw[hl] at q;simp at q;omega
     |cons y t0=>exact⟨y,t0,rfl⟩
    have h:l[1]?=some y:=by rw[hl];rfl
    rw[h];obtain⟨t1,A,C⟩:∃t1,(l.set 1 x).set i y=a::x::t1/\(x::t1).Perm (y::t0):=by
     rcases Do i 2 with r|r
     .obtain rfl:i=1:=oO;rw[h] at d;injection d with d;subst d;exact⟨t0,by rw[hl];rfl,List.Perm.refl _⟩
     .have⟨u,w,U,B,O⟩:=N4 hl r d;refine⟨_,B,?_⟩;rw[hl] at O;exact(List.perm_cons a).1 O
    have D:∀z∈(l.set 1 x).set i y,z∈l:=by
     intro z b;rw[A] at b;rw[hl];rcases Az.1 b with rfl|b
     .simp
     .exact Dk _ (C.subset b)
    have⟨v,c,e,S,r,R⟩:=LP f ((l.set 1 x).set i y) (i+1) n a (x::t1) A oT oO (fun z b=>hk z (D z b)) (.inr ⟨x,oS,L⟩) (fun j z p M b=>by
     by_cases o:j=i
     .subst o;rw[AD (by simpa using q)] at b;injection b with b;subst b;rcases Do 1 j with Q|Q
      .have:=hlow 1 y oO Q h;omega
      .obtain rfl:j=1:=oO;rw[h] at d;injection d with d;subst d;omega
     .rw[AI (Ne.symm o)] at b;by_cases m:j=1
      .subst m;rw[AD oO] at b;injection b with b;subst b;omega
      .rw[AI (Ne.symm m)] at b;have:=hlow j z p oO b;omega)
    exact⟨v,c,e,S.trans C,r,R⟩
   .rw[if_neg G];exact LP f l (i+1) g a t hl oO oO hk hlv fun j z p M b=>by
     by_cases o:j=i
     .grind
     .exact hlow j z p oO b
def Clean (s:St):Prop:=∀v:Nat,s.U[v]?≠some true
structure nj (s t:St) (l:List Int) (lv:Nat):Prop where
 lr:Lr s t
 inv:DX t
 clean:Clean t
 low:lv<s.D.length
 ok:∃a r,l=a::r/\l.Nodup/\(∀y∈l,Lit s.n y)/\(∃p:Nat,s.L[p]?=some (-a)/\s.H[B7 a]?=some s.D.length)/\
  (∀y∈r,(∃q:Nat,s.L[q]?=some (-y))/\∃k,s.H[B7 y]?=some k/\k<=lv)/\(lv=0∨∃(q:Nat) (y:Int),s.L[q]?=some y/\s.H[B7 y]?=some lv)
theorem X6 (C:Dt s) (hH:DX s) (hL:IR s) (A:Clean s) {c:Nat} {x:Cl} (hx:s.K[c]?=some x) (r:∀y∈x.l,∃q:Nat,s.L[q]?=some (-y))
  (Z:∃y∈x.l,s.H[B7 y]?=some s.D.length) (a1:0<s.D.length):∃t l lv,N7 s c=some (t,l,lv)/\nj s t l lv:=by
 have a3:=C.few;have⟨yc,M,J⟩:=Z;have Q:∀y∈x.l,y≠0:=fun y a=>by
  have⟨q,i⟩:=r y a;have:=(C.lit q _ i).1.1;omega
 have⟨G,m1,o1,l,e,d,h2,h3,h4,h5,h6,p,hp,u⟩:=Vq (s.L.length+1) s c 0 s.L.length [] [] 0 C hH hL (fun v=>⟨fun hh=>absurd hh (A v),fun hh=>by simp at hh⟩) oS
  ⟨oS,fun y a=>by simp at a,fun y a=>by simp at a,fun y a=>by simp at a⟩ oS
  (by
   unfold cnt;rw[eq_comm,List.countP_eq_zero];intro z hz;unfold pc;have:=A (B7 z);simp[this]) (Ai _) oO a1
  ⟨x,hx,fun y a _=>by
   have⟨q,i⟩:=r y a;exact⟨q,(Aa.1 i).1,i⟩,.inr ⟨yc,M,Q yc M,J,A _⟩⟩
 unfold N7;rw[if_neg (by have:=C.whl;unfold lim;omega)];rw[e];simp only;have a0:=C.lr d;have⟨sub,e2,h⟩:=Nz a0 (f:=deepest) (by rw[d.n];unfold deepest;omega) o1 (fun _=>none) [-l] h5.fal;rw[e2];have⟨sl,e3,a2,O⟩:=Pm m1 G (fun v B=>(Aa.1 ((h3 v).2 B)).1);rw[e3];simp only[List.singleton_append,BU];have Y:Lit s.n (-l):=by
  have:=(a0.lit p l hp).1;rw[d.n] at this;exact this.neg
 have g:∀y∈sub,∃k,G.H[B7 y]?=some k/\k<G.D.length:=fun y a=>h5.lev y (h.subset a)
 have⟨t',a4,e4,g1,g2,g3⟩:=LP (s:={G with U:=sl}) (sub.length+1) (-l::sub) 1 0 (-l) sub rfl oS (Ai _) (fun y a=>by
  rcases Az.1 a with rfl|a
  .exact⟨_,by rw[CZ];exact u⟩
  .have⟨k,m,_⟩:=g y a;exact⟨k,m⟩) (.inl rfl) (fun j y a8 a7 _=>oO)
 rw[e4];have o:∀y∈t',y∈o1:=fun y a=>h.subset (g1.subset a)
 have S:∀y∈t',∃k,s.H[B7 y]?=some k/\k<s.D.length/\Rk {G with U:=sl} y=k:=fun y a=>by
  have⟨k,m,hk2⟩:=h5.lev y (o y a);refine⟨k,by rw[<-d.H];exact m,by rw[<-d.D];exact hk2,?_⟩;unfold Rk;simp only[m];rfl
 have b:∀y∈t',∃q:Nat,s.L[q]?=some (-y):=fun y a=>by
  have⟨q,i⟩:=h5.fal y (o y a);exact⟨q,by rw[<-d.L];exact i⟩
 refine⟨_,_,_,rfl,⟨d.trans ⟨rfl,rfl,rfl,rfl,rfl,rfl,rfl,rfl,rfl,rfl,rfl,a2,rfl,fun _=>rfl⟩,⟨h2.small,h2.X,h2.P,h2.ord,h2.plc⟩,fun v B=>?_,?_,-l,t',rfl,?_,?_,⟨p,by rw[Int.neg_neg,<-d.L];exact hp,by rw[CZ,<-d.H,<-d.D];exact u⟩,?_,?_⟩⟩
 .by_cases R:v∈m1
  .rw[(O v).1 R] at B;cases B
  .rw[(O v).2 R] at B;exact R ((h3 v).1 B)
 .grind
 .rw[Dc];refine⟨fun R=>?_,g1.nodup_iff.2 (h5.nd.sublist h)⟩;have⟨k,m,hk2,_⟩:=S _ R;rw[CZ,<-d.H,u,d.D] at m;injection m with m;omega
 .intro y a;rcases Az.1 a with rfl|a
  .exact Y
  .have⟨q,i⟩:=b y a;have:=(C.lit q _ i).1.neg
   rwa [Int.neg_neg] at this
 .grind
 .rcases g2 with rfl|⟨y,a,a5⟩
  .exact .inl rfl
  .have⟨k,m,hk2,a6⟩:=S y a;have⟨q,i⟩:=b y a;exact .inr ⟨q,-y,i,by rw[CZ,m];congr 1;omega⟩
theorem It.app {n:Nat} {cls:List Cl} {w:List (List Nat)} (h:It n cls w) (k:Cl):It n (cls++[k]) w:=
 ⟨h.len,fun j r b=>⟨(h.row j r b).1,fun d c=>by
  have⟨x,a,e⟩:=(h.row j r b).2 d c;exact⟨x,by rw[AW (Aa.1 a).1];exact a,e⟩⟩,by have:=h.tot;simp;omega⟩
theorem US (h:Dt s) (g:It s.n s.K s.W) (i:IR s):Hs s=true:=by
 unfold Hs;rw[AE,AE,Bi,Bi,Bi];refine⟨⟨fun r e=>?_,fun c b=>by simpa using i c b⟩,fun x d=>?_⟩
 .rw[Bi];intro c b;have⟨j,a⟩:=Bw.1 e;have⟨k,f,_⟩:=(g.row j r a).2 c b;simpa using(Aa.1 f).1
 .cases x with
  |none=>rfl
  |some c=>
   have⟨j,a⟩:=Bw.1 d;simpa using h.whn j c a
theorem Pp {cls:List Cl} {k:Cl} {x y:Int} {t:List Int} (h:It s.n cls s.W) (A:s.K=cls++[k]) (C:k.l=x::y::t) (m:k.l.Nodup) (R:B7 x<=s.n) (O:B7 y<=s.n) (Q:x≠0) (hl:2*cls.length+2<lim):
  ∃D,Gw s cls.length=some {s with W:=D}/\It s.n s.K D:=by
 have Y:s.K[cls.length]?=some k:=by rw[A];simp
 obtain⟨r,o⟩:∃r,s.W[EC (-x)]?=some r:=⟨_,Ab (by rw[h.len];exact Q2 (by rw[CZ];exact R))⟩;have P:x≠y:=by
  intro e;rw[C,e] at m;simp at m
 have Z:EC (-x)≠EC (-y):=by
  intro e;have:=Lc oO e;omega
 obtain⟨r2,B⟩:∃r,s.W[EC (-y)]?=some r:=⟨_,Ab (by rw[h.len];exact Q2 (by rw[CZ];exact O))⟩;have i:(s.W.set (EC (-x)) (r++[cls.length]))[EC (-y)]?=some r2:=by grind
 have l1:=Q4 _ _ _ o;have l2:=Q4 _ _ _ B;have G:=h.tot;have fresh:∀(j:Nat) (q:List Nat),s.W[j]?=some q->cls.length∉q:=by
  intro j q d U;have⟨z,M,_⟩:=(h.row j q d).2 _ U;have:=(Aa.1 M).1;omega
 refine⟨(s.W.set (EC (-x)) (r++[cls.length])).set (EC (-y)) (r2++[cls.length]),?_,?_⟩
 .unfold Gw;rw[Y];simp[C];have e1:Et s x cls.length=some {s with W:=s.W.set (EC (-x)) (r++[cls.length])}:=by
   unfold Et;rw[o];simp only;rw[if_pos oO]
  rw[e1];unfold Et;simp only[i];rw[if_pos oO]
 .have S:∀j,j=EC (-x)∨j=EC (-y)->Wd k.l j:=fun j v=>⟨m,x,y,t,C,by rcases v with rfl|rfl;exact .inl rfl;exact .inr rfl⟩
  have f:=(h.app k).row;rw[<-A] at f;have u:∀(j:Nat) (q:List Nat),s.W[j]?=some q->(j=EC (-x)∨j=EC (-y))->(q++[cls.length]).Nodup/\∀c∈q++[cls.length],∃z,s.K[c]?=some z/\Wd z.l j:=by
   intro j q d v;have⟨L,J⟩:=f j q d;refine⟨CB.2 ⟨L,oS,fun a ha b H=>by simp at H;subst H;exact fun e=>fresh j q d (e▸ha)⟩,fun c g=>?_⟩;rcases B0.1 g with g|g
   .exact J c g
   .grind
  refine⟨by simp[h.len],fun j q d=>?_,?_⟩
  .by_cases v:EC (-y)=j
   .grind
   .rw[AI v] at d;by_cases p:EC (-x)=j
    .subst p;rw[AD (Aa.1 o).1] at d;injection d with d;subst d;exact u _ _ o (.inl rfl)
    .rw[AI p] at d;exact f j q d
  .have L:=JV s.W _ (r++[cls.length]) r o;have J:=JV _ (EC (-y)) (r2++[cls.length]) r2 i;rw[A];simp[Cf,BU,F2] at*;omega
structure GInv (A:Nat) (s:St):Prop where
 r:RInv s
 h:DX s
 l:IR s
 ll:s.Q.length<=s.K.length
 clean:Clean s
 st1:s.D.length<=A+s.L.length
 st2:∀i a:Nat,s.D[i]?=some a->i<=A+a
theorem aS {A:Nat} (C:Dt s) (hC:IN s) (hW:It s.n s.K s.W) (hH:DX s) (hL:IR s) (b0:s.Q.length<=s.K.length) (a7:4*s.K.length+100<lim) (a2:Clean s)
  {l:List Int} {a:Int} {r:List Int} (g:l=a::r) (O:l.Nodup) (f:∀y∈l,Lit s.n y) (hv:s.V[B7 a]?=some none) (hr:∀y∈r,∃q:Nat,s.L[q]?=some (-y)) (Y:s.L.length∉s.D)
  (B:∀b∈s.D,b<=s.d) (a1:s.d<=s.L.length) (a6:s.D.length<=A+s.L.length) (a0:∀i a:Nat,s.D[i]?=some a->i<=A+a):
  ∃t,RB s l=some t/\GInv A t/\t.n=s.n/\t.D=s.D/\t.L.length=s.L.length+1/\t.K.length=s.K.length+1/\t.Z=s.Z:=by
 have a9:=C.few;have a8:l.length<=s.n+1:=by
  have:=JF (s.n+1) (r.map B7) (by
   refine Cc.2 fun i j o S U e=>?_
   simp[CJ] at o S;simp[List.getElem_map] at e;have⟨q1,m⟩:=hr r[i] (DU o);have⟨q2,p⟩:=hr r[j] (DU S);have:=C.one q1 q2 _ _ m p (by rw[CZ,CZ];exact e);subst this;rw[m] at p;injection p with p;have M:r[i]≠r[j]:=by
    have u:r.Nodup:=by grind
    intro e2;exact(Cc.1 u i j o S U) e2
   omega) (fun v hv=>by
    obtain⟨y,G,rfl⟩:=BB.1 hv;have:=(f y (by rw[g];simp[G])).2;omega)
  simp at this;rw[g];simp;have h4:r.length<=s.n:=by
   have:=JF s.n (r.map fun y=>B7 y- 1) (by
    refine Cc.2 fun i j o S U e=>?_
    simp[CJ] at o S;simp[List.getElem_map] at e;have⟨q1,m⟩:=hr r[i] (DU o);have⟨q2,p⟩:=hr r[j] (DU S);have b1:=(f r[i] (by rw[g];simp)).1;have b2:=(f r[j] (by rw[g];simp)).1;have:=C.one q1 q2 _ _ m p (by rw[CZ,CZ];unfold B7 at*;omega);subst this;rw[m] at p;injection p with p;have M:r[i]≠r[j]:=by
     have u:r.Nodup:=by rw[g,Dc] at O;exact O.2
     intro e2;exact(Cc.1 u i j o S U) e2
    omega) (fun v hv=>by
     obtain⟨y,G,rfl⟩:=BB.1 hv;have m:=(f y (by rw[g];simp[G]));have p:=m.1;have C.tlen:=m.2;unfold B7 at*;omega)
   simpa using this
  omega
 have R:N8 s l=true:=by
  unfold N8;rw[Bi];intro y G;have:=(f y G).2;have b3:=C.lev;obtain⟨k,x⟩:∃k,s.H[B7 y]?=some k:=⟨_,Ab oO⟩;rw[x];exact decide_eq_true (C.levb _ _ x)
 obtain⟨w',e1,a3⟩:∃w',(if 1<l.length then Gw {s with K:=s.K++[⟨l,true,s.J⟩],Q:=s.Q++[s.K.length]} s.K.length else some {s with K:=s.K++[⟨l,true,s.J⟩],Q:=s.Q++[s.K.length]})=some {s with K:=s.K++[⟨l,true,s.J⟩],Q:=s.Q++[s.K.length],W:=w'}/\It s.n (s.K++[⟨l,true,s.J⟩]) w':=by
  by_cases m:1<l.length
  .obtain⟨b,t,rfl⟩:∃b t,r=b::t:=by
    cases r with
    |nil=>rw[g] at m;simp at m
    |cons b t=>exact⟨b,t,rfl⟩
   rw[if_pos m];have ha:=f a (by rw[g];simp);have hb:=f b (by rw[g];simp);have⟨w',e,p⟩:=Pp (s:={s with K:=s.K++[⟨l,true,s.J⟩],Q:=s.Q++[s.K.length]}) (cls:=s.K) (k:=⟨l,true,s.J⟩) hW rfl g O ha.2 hb.2 ha.1 oO;exact⟨w',e,p⟩
  .rw[if_neg m];exact⟨s.W,rfl,hW.app _⟩
 have a5:Dt {s with K:=s.K++[⟨l,true,s.J⟩],Q:=s.Q++[s.K.length],W:=w'}:=C.congr rfl rfl rfl rfl rfl rfl rfl rfl fun c k x=>⟨k,by rw[AW (Aa.1 x).1];exact x,fun y G=>G⟩
 have⟨e2,a4⟩:=Q3 a5 (f a (by rw[g];simp)) hv (some s.K.length) (fun h=>by cases h) (fun c hc=>by
  injection hc with hc;subst hc;refine⟨Y,⟨l,true,s.J⟩,oS,fun z hz M=>?_⟩;rw[g] at hz;rcases Az.1 hz with rfl|hz
  .exact absurd rfl M
  .exact hr z hz)
 refine⟨_,?_,⟨⟨a4,fun c k x=>?_,a3,fun b hb=>?_,?_,B,?_⟩,⟨hH.small,hH.X,hH.P,hH.ord,hH.plc⟩,fun i o=>?_,?_,a2,?_,a0⟩,rfl,rfl,?_,?_,rfl⟩
 .unfold RB;rw[g];simp only;rw[<-g,if_neg (by rw[R,US C hW hL];simp only[Bool.true_eq_false,false_or];unfold lim at*;omega),e1];exact e2
 .simp only at x⊢;rw[Ee] at x;split at x
  .exact hC c k x
  .grind
 .have:=B b hb;simp;omega
 .simp;omega
 .simp;omega
 .simp only[B0,GQ,Cf,BU,F2] at o⊢;rcases o with o|rfl
  .have:=hL i o;omega
  .omega
 .simp;omega
 .simp;omega
 .simp
 .simp
theorem KS (h:Dt s) (n:s.D.length<lim):Dt {s with D:=s.D++[s.L.length]}:=by
 have e:∀(i a:Nat),(s.D++[s.L.length])[i]?=some a->s.D[i]?=some a∨(i=s.D.length/\a=s.L.length):=by
  intro i a l;rw[Ee] at l;split at l
  .exact .inl l
  .grind
 refine⟨h.few,h.val,h.lev,h.whl,h.pha,h.see,h.lit,h.one,h.has,?_,?_,?_,?_,h.rea,h.whn,oT,h.levb⟩
 .intro i j a b g c m;rcases e i a c with c|⟨rfl,rfl⟩<;>rcases e j b m with m|⟨rfl,rfl⟩
  .exact h.srt i j a b g c m
  .exact h.top i a c
  .grind
  .omega
 .intro i a c;simp at c⊢;rcases e i a c with c|⟨rfl,rfl⟩
  .exact h.top i a c
  .omega
 .intro p x d;have⟨k,o,hk2,f⟩:=h.lvl p x d;refine⟨k,o,oT,fun i a c=>?_⟩;rcases e i a c with c|⟨rfl,rfl⟩
  .exact f i a c
  .grind
 .intro p x d;simp at d⊢;rw[h.dec p x d];have:=(Aa.1 d).1;simp;omega
def word (L:Nat) (a:List Nat):Nat->Nat
 |0=>0
 |m+1=>2*word L a m+(if m<L/\m∉a then 1 else 0)
theorem word_lt (L:Nat) (a:List Nat):∀m,word L a m<2^m
 |0=>by simp[word]
 |m+1=>by
  have:=word_lt L a m;unfold word;split<;>omega
theorem Nd {L c:Nat} {b a:List Nat}:∀m,(∀p,p<m->p<L->p∉b->p<c/\p∉a)->word L b m<=word c a m
 |0,_=>by simp[word]
 |m+1,h=>by
  have e:=Nd m fun p f=>h p oO
  unfold word;by_cases d:m<L/\m∉b
  .grind
  .rw[if_neg d];omega
theorem Rr {L c:Nat} {b a:List Nat} {q:Nat} (h:∀p,p<q->p<L->p∉b->p<c/\p∉a) (f:¬(q<L/\q∉b)) (e:q<c/\q∉a):∀m,q<m->word L b m<word c a m
 |0,hm=>absurd hm oO
 |m+1,hm=>by
  rcases Do q m with d|d
  .have:=Rr h f e m d;unfold word;split<;>split<;>omega
  .obtain rfl:q=m:=oO;have:=Nd q h;unfold word;rw[if_neg f,if_pos e];omega
def TG (s:St):Nat:=word s.L.length s.D 10
theorem TI (s:St):TG s<=1023:=by
 have:=word_lt s.L.length s.D 10;unfold TG;omega
theorem aT {t:St} (h:Ext s t):TG s<=TG t:=by
 unfold TG;rw[h.D];refine Nd 10 fun p _ c a=>⟨?_,a⟩
 have⟨e,b⟩:=h.L;rw[b,Cf];omega
theorem Rs {A:Nat} (h:GInv A s) (b7:0<s.D.length) (b2:4*s.K.length+100<lim) {c:Nat} {S:Int} {p:Nat} (hp:s.L[p]?=some S) (b8:∀a∈s.D,a<=p) (hc:Zm s S c) (x:SS):
  ∃t,ED x s c=some (.go ⟨t,x.turn,x.left- 1,x.z+1⟩)/\GInv A t/\t.n=s.n/\t.K.length=s.K.length+1/\t.Z=s.Z/\TG s<TG t:=by
 have hT:=h.r.t;have⟨k,hk,hm,b4⟩:=hc;have⟨lp,c1,c7,b0⟩:=hT.lvl p S hp;have b5:s.H[B7 S]?=some s.D.length:=by
  rw[c1];congr 1;rcases Do lp s.D.length with a9|c8
  .have h1:=Ab a9;have:=b0 lp _ h1;have:=b8 _ (DU a9);omega
  .omega
 have⟨s2,l,lv,e,g⟩:=X6 hT h.h h.l h.clean hk b4 ⟨-S,hm,by rw[CZ];exact b5⟩ b7;have⟨a,r,hl,b9,b1,⟨pa,a5,a7⟩,hr,c0⟩:=g.ok;obtain⟨m,u⟩:∃f,s.D[lv]?=some f:=⟨_,Ab g.low⟩;obtain⟨R,e3,c3,c5,P⟩:=QA (hT.lr g.lr) g.inv (by rw[g.lr.D];exact u);have a1:=P.n.trans g.lr.n;have a3:R.L=s.L.take m:=by rw[P.L,g.lr.L]
 have J:R.D=s.D.take lv:=by rw[P.D,g.lr.D]
 have c9:=hT.top lv m u;have a0:R.L.length=m:=by rw[a3];simp;omega
 have C:=P.len.trans g.lr.len;have M:∀i:Nat,(R.K[i]?).map Cl.l=(s.K[i]?).map Cl.l:=fun i=>(P.lits i).trans (g.lr.lits i)
 have b6:∀(i:Nat) (z:Cl),R.K[i]?=some z->∃y,s.K[i]?=some y/\y.l=z.l:=fun i z hz=>by
  have:=M i;rw[hz] at this
  cases hc:s.K[i]? with
  |none=>rw[hc] at this;simp at this
  |some y=>rw[hc] at this;simp at this;exact⟨y,rfl,this.symm⟩
 have a6:∀(i:Nat) (z:Cl),s.K[i]?=some z->∃y,R.K[i]?=some y/\y.l=z.l:=fun i z hz=>by
  have:=M i;rw[hz] at this
  cases hc:R.K[i]? with
  |none=>rw[hc] at this;simp at this
  |some y=>rw[hc] at this;simp at this;exact⟨y,rfl,this⟩
 have c6:IN R:=fun c z hz=>by
  have⟨z2,Y,e2⟩:=b6 c z hz;rw[a1,<-e2];exact h.r.c c z2 Y
 have c2:It R.n R.K R.W:=by
  rw[a1,P.W,g.lr.W];refine⟨h.r.w.len,fun j q hq=>⟨(h.r.w.row j q hq).1,fun d hd=>?_⟩,by rw[C];exact h.r.w.tot⟩;have⟨z,hz,Y⟩:=(h.r.w.row j q hq).2 d hd;have⟨y,hy,ey⟩:=a6 d z hz;exact⟨y,hy,by rw[ey];exact Y⟩
 have c4:IR R:=fun i hi=>by
  rw[C];rw[P.Q,g.lr.Q] at hi;exact h.l i hi
 have a4:∀b∈s.D.take lv,b<m:=by
  intro b hb;have⟨i,hi⟩:=Bw.1 hb;rw[Ce] at hi;split at hi
  .rcases c0 with rfl|⟨q,y,hq,hy⟩
   .omega
   .have⟨ky,G,_,O⟩:=hT.lvl q y hq;rw[hy] at G;injection G with G;subst G;have h1:=O i b hi;have h2:=O lv m u;omega
  .cases hi
 have a8:m<=pa:=by
  have⟨ka,a2,_,b3⟩:=hT.lvl pa _ a5;rw[CZ,a7] at a2;injection a2 with a2;subst a2;have:=b3 lv m u;have:=g.low;omega
 have⟨s4,e4,o,g1,g2,g3,g4,g5⟩:=aS (A:=A) c3 c6 c2 c5 c4 (by rw[P.Q,g.lr.Q,C];exact h.ll) (by rw[C];exact b2) (fun v=>by rw[P.U];exact g.clean v) hl b9 (by rw[a1];exact b1)
  (by have:=P.gone pa (-a) a8 (by rw[g.lr.L];exact a5);rwa [CZ] at this)
  (fun y hy=>by
   have⟨⟨q,hq⟩,k,hk,hk2⟩:=hr y hy;have⟨ky,G,_,O⟩:=hT.lvl q _ hq;rw[CZ,hk] at G;injection G with G;subst G;have:=O lv m u;refine⟨q,?_⟩;rw[a3,Ce,if_pos oO];exact hq)
  (by grind)
  (by rw[J,P.d];intro b hb;have:=a4 b hb;omega)
  (by rw[P.d,a0];omega)
  (by rw[J,a0];have:=h.st2 lv m u;simp;omega)
  (by
   intro i b hb;rw[J,Ce] at hb;split at hb
   .exact h.st2 i b hb
   .cases hb)
 have⟨s5,e5,h5⟩:=Y2 o.h o.l;have B:=h5.same;refine⟨s5,?_,⟨⟨o.r.t.same B,o.r.c.same B,?_,by rw[B.D,B.L];exact o.r.full,by rw[B.d,B.L];exact o.r.d,by rw[B.D,B.d];exact o.r.low,by rw[B.len];exact o.r.lim⟩,h5.inv,h5.linv o.l,by rw[B.Q,B.len];exact o.ll,fun v=>by rw[B.U];exact o.clean v,
  by rw[B.D,B.L];exact o.st1,by rw[B.D];exact o.st2⟩,by rw[B.n,g1,a1],by rw[B.len,g4,C],by rw[B.Z,g5,P.Z,g.lr.Z],?_⟩
 .unfold ED;rw[e];simp[e3,e4,e5]
 .rw[B.n,B.W];refine⟨o.r.w.len,fun j q hq=>⟨(o.r.w.row j q hq).1,fun d hd=>?_⟩,by rw[B.len];exact o.r.w.tot⟩;have⟨z,hz,Y⟩:=(o.r.w.row j q hq).2 d hd;have⟨y,hy,ey⟩:=B.lr.cl hz;exact⟨y,hy,by rw[ey];exact Y⟩
 .unfold TG;rw[B.L,B.D,g3,g2,a0,J];refine Rr (fun p hp _ hs=>⟨oO,fun hh=>hs (Jo hh)⟩) (fun hh=>hh.2 (AQ u)) ⟨oO,fun hh=>by have:=a4 _ hh;omega⟩ 10 ?_;have:=hT.tlen;have:=hT.few;have:=(Aa.1 a5).1;omega
def pushed (s:St) (j:Nat):St:={s with D:=s.D++List.replicate j s.L.length}
theorem MF (s:St) (j:Nat):pushed {s with D:=s.D++[s.L.length]} j=pushed s (j+1):=by
 unfold pushed;simp[Hn,List.singleton_append,List.replicate_succ]
theorem Dt.pushed {s:St} (h:Dt s):∀j,s.D.length+j<=lim->Dt (pushed s j)
 |0,_=>by unfold Bud.pushed;simpa using h
 |j+1,hj=>by
  have:=(KS h oO).pushed j oT
  rwa [MF] at this
theorem P5 {l:List Int} (r:l.length<lim):∀(f:Nat) (s:St),Dt s->(∀x∈l,Lit s.n x)->0<f->l.length<f+s.D.length->
  ∃j b,GI l f s=some (pushed s j,b)/\(pushed s j).D.length<=max s.D.length l.length/\
   (b= .none_∨(∃x,b= .lit x/\x∈l/\s.V[B7 x]?=some none)∨∃x,b= .bad x/\x∈l/\∃q:Nat,s.L[q]?=some (-x))
 |0,s,_,_,h0,_=>absurd h0 oO
 |f+1,s,h,ha,_,hf=>by
  have c:pushed s 0=s:=by unfold pushed;simp
  unfold GI
  cases d:l[s.D.length]? with
  |none=>exact⟨0,.none_,by rw[c],by rw[c];omega,.inl rfl⟩
  |some p=>
   have a:=AQ d;have o:=(Aa.1 d).1;simp only;rcases GV h (ha p a) with⟨e,k⟩|⟨e,_⟩|⟨e,q,m⟩
   .rw[e];exact⟨0,.lit p,by rw[c],by rw[c];omega,.inr (.inl ⟨p,rfl,a,k⟩)⟩
   .rw[e];rw[if_pos oO];have⟨j,b,i,g,t⟩:=P5 r f {s with D:=s.D++[s.L.length]} (KS h oO) ha oO oT;rw[MF] at i g;exact⟨j+1,b,i,by simp at g;omega,t⟩
   .rw[e];exact⟨0,.bad p,by rw[c],by rw[c];omega,.inr (.inr ⟨p,rfl,a,q,m⟩)⟩
theorem Ve:∀(f:Nat) (s:St),Dt s->DX s->s.O.length<f->∃t c,Kv f s=some (t,c)/\Same s t/\DX t/\(c= .none_∨∃x,c= .lit x/\Lit s.n x/\s.V[B7 x]?=some none)
 |0,_,_,_,hf=>absurd hf oO
 |f+1,s,hT,hH,hf=>by
  unfold Kv;by_cases m:s.O.length=0
  .rw[if_pos m];exact⟨s,.none_,rfl,Same.refl s,hH,.inl rfl⟩
  .rw[if_neg m];have⟨v,t,e,o,r,k,a,y⟩:=Y1 hH oO;rw[e];simp only;obtain⟨b,i⟩:∃b,t.V[v]?=some b:=⟨_,Ab (by rw[a.V,hT.val];omega)⟩;obtain⟨d,g⟩:∃b,t.F[v]?=some b:=⟨_,Ab (by rw[a.F,hT.pha];omega)⟩;rw[i,g]
   cases b with
   |none=>
    simp only;rw[if_neg oO];refine⟨t,_,rfl,a,k,.inr ⟨_,rfl,?_,?_⟩⟩
    .cases d<;>simp[Lit,B7]<;>omega
    .rw[<-a.V];have:B7 (if d=true then(v:Int) else-(v:Int))=v:=by cases d<;>simp[B7]
     rw[this];exact i
   |some b=>
    have⟨u,c,q,h,p,j⟩:=Ve f t (hT.same a) k oO;refine⟨u,c,q,a.trans h,p,?_⟩;rw[a.n,a.V] at j;exact j
structure Km (n C:Nat) (s:St):Prop where
 n:s.n=n
 t:Dt s
 c:IN s
 h:DX s
 l:IR s
 ll:s.Q.length<=s.K.length
 len:s.K.length<=C
theorem bH (a:Dt s) (m:IN s) {x:Int} {q:Nat} (i:s.L[q]?=some (-x)):Kw s x=true:=by
 unfold Kw;have⟨k,f,hk2,j⟩:=a.lvl q _ i;rw[CZ] at f;rw[f]
 cases k with
 |zero=>rfl
 |succ k=>
  simp[AE,decide_eq_true_eq,Bi];refine⟨⟨by have:=a.lev;have:=a.few;unfold lim;omega,by have:=a.tlen;have:=a.few;unfold lim;omega,oO⟩,fun y g=>?_⟩;have⟨p,e⟩:=Bw.1 g;have⟨w,d⟩:=a.whyAt (a.lit p y e).1.2;rw[d]
  cases w with
  |none=>rfl
  |some c=>
   have⟨z,b,_⟩:=a.rea p y c e d;simp[b,Bi,decide_eq_true_eq];intro u h;rw[a.lev];have:=((m c z b).2 u h).2;omega
variable{l:List Int}
theorem WF (h:GInv l.length s) (o:s.d=s.L.length) (ha:∀x∈l,Lit s.n x) (hA:l.length+100<lim) (x:SS):
  ∃R,GJ l x s=some R/\((∃t,R= .go ⟨t,x.turn,x.left,x.z⟩/\GInv l.length t/\t.n=s.n/\t.K.length=s.K.length/\t.Z=s.Z/\TG s<=TG t/\t.L.length=s.L.length+1)∨
   ∃t k,R= .stop t k x.z/\k≠ .out/\Km s.n s.K.length t):=by
 have a6:=h.r.t.few;have a8:=h.r.t.tlen;have⟨j,nx,e,hj,a4⟩:=P5 oO (l.length+1) s h.r.t ha oO oO;have a9:(pushed s j).D.length<=l.length+s.L.length:=by have:=h.st1;omega
 have g:=h.r.t.pushed j (by have:(pushed s j).D.length=s.D.length+j:=by{unfold pushed;simp};omega);have a0:∀(t:St) (y:Int),Same (pushed s j) t->DX t->Lit s.n y->s.V[B7 y]?=some none->∃u,IG t y=some u/\GInv l.length u/\u.n=s.n/\u.K.length=s.K.length/\u.Z=s.Z/\TG s<=TG u/\u.L.length=s.L.length+1:=by
  intro t y b C B hv;have M:=g.same b;have m:t.L=s.L:=b.L;have a3:t.D=s.D++List.replicate j s.L.length:=b.D;have J:=b.n;have A:t.D.length<lim:=by rw[b.D];omega
  obtain⟨e1,a5⟩:=Q3 (KS M A) (by rw[J];exact B) (by show t.V[B7 y]?=_;rw[b.V];exact hv) none (fun _=>oS) (fun c hc=>by cases hc);refine⟨_,?_,⟨⟨a5,?_,?_,?_,?_,?_,?_⟩,⟨C.small,C.X,C.P,C.ord,C.plc⟩,?_,?_,?_,?_,?_⟩,J,b.len,b.Z,?_,?_⟩
  .unfold IG;rw[if_pos A];exact e1
  .exact h.r.c.same ⟨b.n,b.W,b.V,b.H,b.Y,b.L,rfl,b.d,b.F,b.Q,b.Z,b.U,b.len,b.lits⟩|>fun hc=>(show IN {t with D:=s.D} from hc)
  .show It t.n t.K t.W;rw[J,b.W];refine⟨h.r.w.len,fun i q hq=>⟨(h.r.w.row i q hq).1,fun d hd=>?_⟩,by rw[b.len];exact h.r.w.tot⟩;have⟨z,hz,a1⟩:=(h.r.w.row i q hq).2 d hd;have⟨y,B,ey⟩:=b.lr.cl (show(pushed s j).K[d]?=some z from hz);exact⟨y,B,by rw[ey];exact a1⟩
  .intro a hm;simp[Cf,BU,F2];have:=(KS M A).top;have⟨i,f⟩:=Bw.1 hm;have:=this i a f;simp only at this;omega
  .show t.d<=(t.L++[y]).length;rw[b.d];show s.d<=_;rw[m,o];simp
  .intro a hm;show a<=t.d;rw[b.d];show a<=s.d;rw[o];have⟨i,f⟩:=Bw.1 hm;have:=(KS M A).top i a f;simp only at this;rw[<-m];exact this
  .show 2*t.K.length<lim;rw[b.len];exact h.r.lim
  .intro i f;show i<t.K.length;rw[b.len];refine h.l i ?_;have f:i∈t.Q:=f;rw[b.Q] at f;exact f
  .show t.Q.length<=t.K.length;rw[b.Q,b.len];exact h.ll
  .intro v;show t.U[v]?≠_;rw[b.U];exact h.clean v
  .show(t.D++[t.L.length]).length<=l.length+(t.L++[y]).length;rw[m,b.D];simp only[Cf,BU,F2];omega
  .intro i a f;have f:(t.D++[t.L.length])[i]?=some a:=f;rw[m,b.D,Ee] at f;split at f
   .have f:(s.D++List.replicate j s.L.length)[i]?=some a:=f;rw[Ee] at f;split at f
    .exact h.st2 i a f
    .have h1:i<(pushed s j).D.length:=by assumption
     have:a=s.L.length:=by
      have:=AQ f;rw[List.mem_replicate] at this;exact this.2
     omega
   .grind
  .unfold TG;refine Nd 10 fun p _ hp hs=>⟨by rw[m];simp;omega,?_⟩
   rw[a3,m];simp only[Hn,B0,List.mem_replicate,GQ,not_or];exact⟨hs,oO,oO⟩
  .grind
 unfold GJ;rw[e];have S:Km s.n s.K.length (pushed s j):=⟨rfl,g,h.r.c,⟨h.h.small,h.h.X,h.h.P,h.h.ord,h.h.plc⟩,h.l,h.ll,Ai _⟩;rcases a4 with rfl|⟨y,rfl,B,G⟩|⟨y,rfl,B,q,hq⟩
 .simp only;have⟨t,nx,e2,b,C,h3⟩:=Ve ((pushed s j).O.length+1) (pushed s j) g S.h oO;rw[e2];rcases h3 with rfl|⟨y,rfl,B,G⟩
  .have a2:=(g.same b).val;have a7:=(g.same b).few;simp only;rw[if_pos ⟨a2,by unfold lim;omega⟩];refine⟨_,rfl,.inr ⟨t,.yes,rfl,oS,b.n,g.same b,S.c.same b,C,S.l.lr b.lr,?_,?_⟩⟩
   .rw[b.Q,b.len];exact h.ll
   .rw[b.len];exact Ai _
  .have⟨u,e3,h4⟩:=a0 t y b C B G;simp only[e3,Bf];exact⟨_,rfl,.inl ⟨u,rfl,h4⟩⟩
 .simp only;have⟨u,e3,h4⟩:=a0 _ y (Same.refl _) S.h (ha y B) G;rw[e3];exact⟨_,rfl,.inl ⟨u,rfl,h4⟩⟩
 .simp only;rw[if_pos (bH g S.c hq)];exact⟨_,rfl,.inr ⟨_,.no,rfl,oS,S⟩⟩
theorem GInv.ext {A:Nat} {t:St} (h:GInv A s) (a:Ext s t) (d:RInv t):GInv A t:=by
 refine⟨d,⟨by rw[a.n];exact h.h.small,by rw[a.X,a.n];exact h.h.X,by rw[a.P,a.n];exact h.h.P,by rw[a.O,a.P,a.n];exact h.h.ord,by rw[a.O,a.P];exact h.h.plc⟩,fun i b=>?_,?_,fun v=>?_,?_,?_⟩
 .rw[a.len];rw[a.Q] at b;exact h.l i b
 .rw[a.Q,a.len];exact h.ll
 .rw[a.U];exact h.clean v
 .have⟨e,c⟩:=a.L;have:=h.st1;rw[a.D,c,Cf];omega
 .rw[a.D];exact h.st2
theorem bI {A:Nat} (h:GInv A s):∃t,GD s 0=some t/\GInv A t/\t.n=s.n/\t.K.length=s.K.length/\t.Z=s.Z:=by
 by_cases P:s.D.length<=0
 .exact⟨s,by unfold GD;rw[if_pos P],h,rfl,rfl,rfl⟩
 .obtain⟨a,C⟩:∃a,s.D[0]?=some a:=⟨_,Ab oO⟩;have⟨t,e,M,O,f⟩:=QA h.r.t h.h C;have u:t.D=[]:=by rw[f.D];simp
  have x:∀(i:Nat) (z:Cl),t.K[i]?=some z->∃y,s.K[i]?=some y/\y.l=z.l:=fun i z j=>by
   have:=f.lits i;rw[j] at this
   cases o:s.K[i]? with
   |none=>rw[o] at this;simp at this
   |some y=>rw[o] at this;simp at this;exact⟨y,rfl,this.symm⟩
  have m:∀(i:Nat) (z:Cl),s.K[i]?=some z->∃y,t.K[i]?=some y/\y.l=z.l:=fun i z j=>by
   have:=f.lits i;rw[j] at this
   cases o:t.K[i]? with
   |none=>rw[o] at this;simp at this
   |some y=>rw[o] at this;simp at this;exact⟨y,rfl,this⟩
  refine⟨t,e,⟨⟨M,fun c z j=>?_,?_,fun b p=>?_,?_,fun b p=>?_,?_⟩,O,fun i k=>?_,?_,fun v=>?_,?_,fun i b k=>?_⟩,f.n,f.len,f.Z⟩
  .have⟨G,g,S⟩:=x c z j;rw[f.n,<-S];exact h.r.c c G g
  .rw[f.n,f.W];refine⟨h.r.w.len,fun i q B=>⟨(h.r.w.row i q B).1,fun d J=>?_⟩,by rw[f.len];exact h.r.w.tot⟩;have⟨z,j,g⟩:=(h.r.w.row i q B).2 d J;have⟨y,H,R⟩:=m d z j;exact⟨y,H,by rw[R];exact g⟩
  .rw[u] at p;simp at p
  .rw[f.d,f.L];have:=h.r.t.top 0 a C;simp;omega
  .rw[u] at p;simp at p
  .rw[f.len];exact h.r.lim
  .rw[f.len];rw[f.Q] at k;exact h.l i k
  .rw[f.Q,f.len];exact h.ll
  .rw[f.U];exact h.clean v
  .rw[u];simp
  .rw[u] at k;simp at k
set_option maxRecDepth 100000 in
theorem WG:FH 64 127=64:=oD
def far (x:SS):Nat:=(127-x.turn)*1024+(1023-TG x.s)
structure bJ (l:List Int) (n C:Nat) (x:SS):Prop where
 n:x.s.n=n
 g:GInv l.length x.s
 turn:x.turn<=127
 luby:32*(FH 64 x.turn:Int)<=x.left+(TG x.s:Int)
 len:x.s.K.length+far x<=C
 z:x.z+far x<=131071
 left:x.left<=(lim:Int)
theorem TV:∀i:Nat,i<=127->FH 64 i<=64:=by decide+kernel
def meas (x:SS):Nat:=far x*16+(11-x.s.L.length)
theorem step_ok {n C:Nat} {x:SS} (h:bJ l n C x) (ha:∀y∈l,Lit n y) (hA:l.length+100<lim) (hC:4*C+100<lim) (a:Int):
  ∃o,M5 l a x=some o/\((∃y,o= .go y/\bJ l n C y/\meas y<meas x)∨∃t k m,o= .stop t k m/\Km n C t/\m<=131071/\(k= .out->(m:Int)=a)):=by
 have J:=h.n;have b1:=h.z;have b2:=h.len;have⟨q,c,e1,v,hR,a2,P⟩:=Mn (KU x.s) x.s h.g.r (by unfold KU;omega);have u:=h.g.ext v hR;have a8:=aT v;have a1:q.K.length=x.s.K.length:=v.len;have a4:x.s.L.length<=q.L.length:=by
  have⟨e,he⟩:=v.L;rw[he];simp
 have b0:=u.r.t.tlen;have O:=u.r.t.few;have a7:=TI q;have a6:=TI x.s;have eE:Km n C q:=⟨by rw[v.n,J],u.r.t,u.r.c,u.h,u.l,u.ll,oO⟩;unfold M5;rw[e1];have a3:¬(c.all fun i=>decide (i<x.s.K.length))=false:=by
  cases c with
  |none=>simp
  |some c=>
   have⟨_,_,_,_,k,hk,_⟩:=P c rfl;have:=(Aa.1 hk).1;simp;omega
 simp only;rw[if_neg a3];by_cases A:c.isSome=true∨q.Z=true
 .rw[if_pos A];by_cases hb:q.Z=true∨q.D.length=0
  .rw[if_pos hb];exact⟨_,rfl,.inr ⟨q,.no,_,rfl,eE,oO,fun G=>by cases G⟩⟩
  .rw[if_neg hb];by_cases H:(x.z:Int)=a
   .rw[if_pos H];exact⟨_,rfl,.inr ⟨q,.out,_,rfl,eE,oO,fun _=>H⟩⟩
   .rw[if_neg H];have a0:¬q.Z=true:=fun G=>hb (.inl G)
    cases c with
    |none=>simp[a0] at A
    |some c=>
     have⟨a5,p,hp,Y,hc⟩:=P c rfl;have⟨t,R,d,f,M,Q,S⟩:=Rs u oO oO hp Y hc x;have B:far ⟨t,x.turn,x.left- 1,x.z+1⟩+1<=far x:=by
      unfold far;have:=TI t;simp;omega
     refine⟨_,(if_pos ⟨oO,by have:=h.luby;unfold lim;omega,h.left⟩).trans R,.inl ⟨_,rfl,⟨by simp[f,v.n,J],d,h.turn,?_,?_,?_,by have:=h.left;simp;omega⟩,?_⟩⟩
     .have:=h.luby
      simp;omega
     .show t.K.length+_<=C;omega
     .show x.z+1+_<=_;omega
     .unfold meas;omega
 .rw[if_neg A];have b3:c=none:=by
   cases c with
   |none=>rfl
   |some c=>simp at A
  by_cases j:x.left<=0
  .rw[if_pos j];have hl:=h.luby
   have U:x.turn<=126:=by
    rcases Do x.turn 127 with G|G
    .omega
    .have:x.turn=127:=by have:=h.turn;omega
     rw[this,WG] at hl;omega
   rw[if_pos ⟨O,oO⟩];have⟨t,R,d,f,M,Q⟩:=bI u;rw[R];have B:far ⟨t,x.turn+1,32*(FH 64 (x.turn+1):Int),x.z⟩+1<=far x:=by
    unfold far;simp;omega
   refine⟨_,rfl,.inl ⟨_,rfl,⟨by simp[f,v.n,J],d,by show x.turn+1<=127;omega,oT,?_,?_,by have:=TV (x.turn+1) oO;simp;unfold lim;omega⟩,?_⟩⟩
   .show t.K.length+_<=C;omega
   .show x.z+_<=_;omega
   .unfold meas;omega
  .rw[if_neg j];have⟨o,R,h2⟩:=WF u a2 (by rw[v.n,J];exact ha) hA x;refine⟨o,R,?_⟩;rcases h2 with⟨t,rfl,d,f,M,Q,S,a9⟩|⟨t,k,rfl,hk,b⟩
   .have B:far ⟨t,x.turn,x.left,x.z⟩<=far x:=by
     unfold far;simp;omega
    refine .inl ⟨_,rfl,⟨by simp[f,v.n,J],d,h.turn,?_,?_,?_,h.left⟩,?_⟩
    .have:=h.luby
     simp;omega
    .show t.K.length+_<=C;omega
    .show x.z+_<=_;omega
    .have:=d.r.t.tlen;unfold meas;simp;omega
   .refine .inr ⟨t,k,_,rfl,⟨by rw[b.n,v.n,J],b.t,b.c,b.h,b.l,b.ll,by have:=b.len;omega⟩,oO,fun G=>absurd G hk⟩
theorem P6 {n C:Nat} (b:∀y∈l,Lit n y) (d:l.length+100<lim) (c:4*C+100<lim) (a:Int):∀(f:Nat) (x:SS),bJ l n C x->meas x<f->
  ∃t k m,D5 l a f x=some (t,k,m)/\Km n C t/\m<=131071/\(k= .out->(m:Int)=a):=by
 intro f
 induction f with
 |zero=>grind
 |succ f o=>
  intro x h r;have⟨j,e,i⟩:=step_ok h b d c a;unfold D5;rw[e];rcases i with⟨y,rfl,p,q⟩|⟨t,k,m,rfl,g⟩
  .grind
  .exact⟨t,k,m,rfl,g⟩
theorem IP {l:List Int} {b g:Int}:∀(f:Nat) (x:SS) {t G:St} {k C:Kd} {m H:Nat},D5 l b f x=some (t,k,m)->D5 l g f x=some (G,C,H)->C≠ .out->k=C∨(k= .out/\(m:Int)=b)
 |0,_,_,_,_,_,_,_,h,_,_=>by cases h
 |f+1,x,t,G,k,C,m,H,h,h',hk=>by
  unfold D5 at h h';unfold M5 at h h'
  cases J:QQ (KU x.s) x.s with
  |none=>rw[J] at h;cases h
  |some r=>
   have⟨e,c⟩:=r;rw[J] at h h';simp only at h h';by_cases B:(c.all fun i=>decide (i<x.s.K.length))=false
   .rw[if_pos B] at h;cases h
   rw[if_neg B] at h h';by_cases A:c.isSome=true∨e.Z=true
   .rw[if_pos A] at h h';by_cases M:e.Z=true∨e.D.length=0
    .rw[if_pos M] at h h';simp only[A0,Prod.mk.injEq] at h h';exact .inl (h.2.1.symm.trans h'.2.1)
    .rw[if_neg M] at h h';by_cases j:(x.z:Int)=b
     .rw[if_pos j] at h;simp only[A0,Prod.mk.injEq] at h;exact .inr ⟨h.2.1.symm,by rw[<-h.2.2];exact j⟩
     .rw[if_neg j] at h;by_cases v:(x.z:Int)=g
      .rw[if_pos v] at h';simp only[A0,Prod.mk.injEq] at h';exact absurd h'.2.1.symm hk
      .rw[if_neg v] at h'
       cases c with
       |none=>cases h
       |some c=>
        simp only at h h';by_cases o:x.z<=1000000/\-(lim:Int)<=x.left/\x.left<=(lim:Int)
        case neg=>rw[if_neg o] at h;cases h
        rw[if_pos o] at h h'
        cases d:ED x e c with
        |none=>rw[d] at h;cases h
        |some a=>
         rw[d] at h h'
         cases a with
         |go y=>exact IP f y h h' hk
         |stop u q n=>
          simp only[A0,Prod.mk.injEq] at h h';exact .inl (h.2.1.symm.trans h'.2.1)
   .rw[if_neg A] at h h';by_cases L:x.left<=0
    .rw[if_pos L] at h h';by_cases p:e.n<=10/\x.turn<1000000
     .rw[if_pos p] at h h'
      cases d:GD e 0 with
      |none=>rw[d] at h;cases h
      |some y=>
       rw[d] at h h';exact IP f _ h h' hk
     .rw[if_neg p] at h;cases h
    .rw[if_neg L] at h h'
     cases d:GJ l x e with
     |none=>rw[d] at h;cases h
     |some a=>
      rw[d] at h h'
      cases a with
      |go y=>exact IP f y h h' hk
      |stop u q n=>
       simp only[A0,Prod.mk.injEq] at h h';exact .inl (h.2.1.symm.trans h'.2.1)
theorem Kf (x y:Int):Hc x y=true↔B7 x<B7 y∨(B7 x=B7 y/\y<=x):=by
 unfold Hc;simp
theorem SG (x y:Int) (h:¬Hc x y=true):Hc y x=true:=by
 rw[Kf] at*;omega
variable{y:Int}
theorem SH {x z:Int} (h:Hc x y=true) (k:Hc y z=true):Hc x z=true:=by
 rw[Kf] at*;omega
theorem Up {x:Int} (h:Hc x y=true) (k:Hc y x=true):x=y:=by
 rw[Kf] at*;omega
theorem YY (l:List Int) (y:Int):y∈sortL l↔y∈l:=List.mem_mergeSort
theorem SI (l:List Int):(sortL l).Pairwise (fun a b=>Hc a b=true):=
 List.pairwise_mergeSort (le:=Hc) (fun _ _ _ h k=>SH h k) (fun a b=>by
  cases h:Hc a b with
  |true=>rfl
  |false=>rw[SG a b (by rw[h];simp)];rfl) l
theorem mem_compact:∀(l:List Int) (y:Int),y∈Cj l->y∈l
 |[],y,h=>by simp[Cj] at h
 |[x],y,h=>by simpa[Cj] using h
 |x::z::r,y,h=>by
  unfold Cj at h;split at h
  .rename_i e;have:=mem_compact (z::r) y h;exact Dk _ this
  .rcases Az.1 h with rfl|h
   .simp
   .exact Dk _ (mem_compact (z::r) y h)
theorem Ib:∀(l:List Int),l.Pairwise (fun a b=>Hc a b=true)->(Cj l).Nodup
 |[],_=>by simp[Cj]
 |[x],_=>by simp[Cj]
 |x::z::r,h=>by
  rw[CY] at h;unfold Cj;split
  .exact Ib (z::r) h.2
  .rename_i c;rw[Dc];refine⟨fun d=>?_,Ib (z::r) h.2⟩;have d:=mem_compact _ _ d;rcases Az.1 d with e|d
   .exact c e
   .have g:=h.1 z oS;have f:=(CY.1 h.2).1 x d;exact c (Up g f)
theorem Uq (l:List Int):(Dd l).Nodup:=Ib _ (SI l)
theorem SK {l:List Int} (h:y∈Dd l):y∈l:=(YY l y).1 (mem_compact _ _ h)
structure Lv (s:St):Prop where
 t:Dt s
 c:IN s
 w:It s.n s.K s.W
 h:DX s
 l:IR s
 clean:Clean s
 D:s.D=[]
 d:s.d=0
theorem MN:∀l:List Int,(Cj l).length<=l.length
 |[]=>by simp[Cj]
 |[x]=>by simp[Cj]
 |x::z::r=>by
  unfold Cj;have:=MN (z::r);split
  .grind
  .grind
theorem YZ (l:List Int):(Dd l).length<=l.length:=Bj (MN _) (Nat.le_of_eq (List.length_mergeSort l))
theorem Vy {s:St} (h:Lv s) {l:List Int} (H:l.length<=lim) (S:∀y∈l,Lit s.n y) (O:4*s.K.length+100<lim) (b:Bool) (a:Int):∃t,M7 s l b a=some t/\Lv t/\t.n=s.n/\t.K.length=s.K.length+1/\t.Q=s.Q:=by
 have r:∀y∈Dd l,Lit s.n y:=fun y j=>S y (SK j)
 have A:=Uq l;have p:∀(c:Nat) (k:Cl),(s.K++[⟨Dd l,b,a⟩])[c]?=some k->k.l.length<=lim/\∀y∈k.l,Lit s.n y:=by
  intro c k f;rw[Ee] at f;split at f
  .exact h.c c k f
  .have⟨G,e⟩:=Aa.1 f;simp at G;obtain rfl:c=s.K.length:=oO;simp at e;subst e;exact⟨Bj (YZ l) H,r⟩
 have g:Dt {s with K:=s.K++[⟨Dd l,b,a⟩]}:=h.t.congr rfl rfl rfl rfl rfl rfl rfl rfl fun c k f=>⟨k,by rw[AW (Aa.1 f).1];exact f,fun y j=>j⟩
 have o:∀i∈s.Q,i<(s.K++[(⟨Dd l,b,a⟩:Cl)]).length:=fun i U=>by have:=h.l i U;simp;omega
 have h1:Lv {s with K:=s.K++[⟨Dd l,b,a⟩]}:=⟨g,p,h.w.app _,⟨h.h.small,h.h.X,h.h.P,h.h.ord,h.h.plc⟩,o,h.clean,h.D,h.d⟩;have h2:Lv {s with K:=s.K++[⟨Dd l,b,a⟩],Z:=true}:=⟨g.congr rfl rfl rfl rfl rfl rfl rfl rfl fun c k f=>⟨k,f,fun y j=>j⟩,p,h.w.app _,⟨h.h.small,h.h.X,h.h.P,h.h.ord,h.h.plc⟩,o,h.clean,h.D,h.d⟩;unfold M7;rw[if_neg (by rw[US h.t h.w h.l];simp only[Bool.true_eq_false,false_or];unfold lim at*;omega)];unfold M6;simp only;split
 .exact⟨_,rfl,h1,rfl,oS,rfl⟩
 .split
  .exact⟨_,rfl,h2,rfl,oS,rfl⟩
  .rename_i y j;have q:Lit s.n y:=r y (by rw[j];simp);rcases GV g q with⟨e,R⟩|⟨e,_⟩|⟨e,_⟩
   .rw[e];have⟨e2,L⟩:=Q3 g q R (some s.K.length) (fun Y=>by cases Y) (fun c J=>by
     injection J with J;subst J;refine⟨by show _∉s.D;rw[h.D];simp,⟨Dd l,b,a⟩,oS,fun z u x=>?_⟩;rw[j] at u;simp at u;exact absurd u x)
    exact⟨_,e2,⟨L,p,h.w.app _,⟨h.h.small,h.h.X,h.h.P,h.h.ord,h.h.plc⟩,o,h.clean,h.D,h.d⟩,rfl,oS,rfl⟩
   .grind
   .grind
  .rename_i C B;obtain⟨y,z,t,m⟩:∃y z t,Dd l=y::z::t:=by
    match M:Dd l with
    |[]=>exact absurd M C
    |[y]=>exact absurd M (B y)
    |y::z::t=>exact⟨y,z,t,rfl⟩
   have⟨w',e,hW⟩:=Pp (s:={s with K:=s.K++[⟨Dd l,b,a⟩]}) (cls:=s.K) (k:=⟨Dd l,b,a⟩) h.w rfl m A (r y (by rw[m];simp)).2 (r z (by rw[m];simp)).2 (r y (by rw[m];simp)).1 oO;exact⟨_,e,⟨g.congr rfl rfl rfl rfl rfl rfl rfl rfl fun c k f=>⟨k,f,fun y j=>j⟩,p,hW,⟨h.h.small,h.h.X,h.h.P,h.h.ord,h.h.plc⟩,o,h.clean,h.D,h.d⟩,rfl,oS,rfl⟩
theorem SL:∀(L:List (List Int)) (s:St),Lv s->(∀l∈L,l.length<=lim)->(∀l∈L,∀y∈l,Lit s.n y)->4*(s.K.length+L.length)+100<lim->∃t,J6 L s=some t/\Lv t/\t.n=s.n/\t.K.length=s.K.length+L.length/\t.Q=s.Q
 |[],s,h,_,_,_=>⟨s,rfl,h,rfl,rfl,rfl⟩
 |l::r,s,h,hz,hl,hlim=>by
  simp only[BU] at hlim;have⟨t,e,d,b,k,c⟩:=Vy h (hz l oS) (hl l oS) oO false 0;have⟨u,j,i,g,m,f⟩:=SL r t d (fun x a=>hz x (by simp[a])) (fun x a=>by rw[b];exact hl x (by simp[a])) oO;refine⟨u,?_,i,g.trans b,by simp only[BU];omega,f.trans c⟩;unfold J6;rw[e];exact j
theorem PQ:∀(L:List (List Int×Int×Int)) (s:St),Lv s->s.Q.length<=s.K.length->(∀l∈L,l.1.length<=lim)->(∀l∈L,∀y∈l.1,Lit s.n y)->4*(s.K.length+L.length)+100<lim->
  ∃t,IH L s=some t/\Lv t/\IR t/\t.Q.length<=t.K.length/\t.n=s.n/\t.K.length=s.K.length+L.length
 |[],s,h,hll,_,_,_=>⟨s,rfl,h,h.l,hll,rfl,rfl⟩
 |(l,v,a)::r,s,h,hll,hz,hl,hlim=>by
  have⟨t,e,b,j,H,q⟩:=Vy h (hz (l,v,a) oS) (hl (l,v,a) oS) oO true a;have⟨u,G,C,B,A,z,m⟩:=PQ r {t with Q:=t.Q++[s.K.length]} ⟨b.t.congr rfl rfl rfl rfl rfl rfl rfl rfl fun c k p=>⟨k,p,fun y o=>o⟩,b.c,b.w,⟨b.h.small,b.h.X,b.h.P,b.h.ord,b.h.plc⟩,(fun i f=>by
   show i<t.K.length;have f:i∈t.Q++[s.K.length]:=f;rw[q] at f;rcases B0.1 f with f|f
   .have:=h.l i f;omega
   .simp at f;omega),b.clean,b.D,b.d⟩ (by grind) (fun x g=>hz x (by simp[g])) (fun x g=>by show∀y∈x.1,Lit t.n y;rw[j];exact hl x (by simp[g])) (by grind)
  refine⟨u,?_,C,B,A,z.trans j,by have m:u.K.length=t.K.length+r.length:=m;simp only[BU];omega⟩;unfold IH;rw[if_neg (by unfold lim at*;omega),e];exact G
theorem PR:∀(l:List Nat) (i:Nat) (p:List Int),l.Nodup->(∀v∈l,v<p.length)->(FI l i p).length=p.length/\∀v:Nat,(∀j:Nat,l[j]?=some v->(FI l i p)[v]?=some ((i+j:Nat):Int))/\(v∉l->(FI l i p)[v]?=p[v]?)
 |[],_,p,_,_=>⟨rfl,fun v=>⟨fun j b=>by simp at b,fun _=>rfl⟩⟩
 |w::r,i,p,hn,hl=>by
  rw[Dc] at hn;have⟨c,d⟩:=PR r (i+1) (p.set w (i:Int)) hn.2 (fun v a=>by have:=hl v (by simp[a]);simpa using this);unfold FI;refine⟨by rw[c];simp,fun v=>⟨fun j b=>?_,fun a=>?_⟩⟩
  .grind
  .grind
structure Jw (v:Sv):Prop where
 few:v.n<=10
 G:∀l∈v.G,∀y∈l,Lit v.n y
 Q:∀l∈v.Q,∀y∈l.1,Lit v.n y
 gl:∀l∈v.G,l.length<=lim
 ll:∀l∈v.Q,l.1.length<=lim
 X:v.X.length=v.n+1
 olen:v.O.length=v.n
 ond:v.O.Nodup
 orng:∀w∈v.O,0<w/\w<=v.n
 F:v.F.length=v.n+1
theorem Ur {n:Nat} {l:List Nat} (k:l.Nodup) (g:∀w∈l,0<w/\w<=n) (r:l.length=n):∀v,0<v->v<=n->v∈l:=by
 intro v p q;refine Classical.byContradiction fun m=>?_
 have:=JF n ((v::l).map (·- 1)) (by
  have o:(v::l).Nodup:=Dc.2 ⟨m,k⟩;refine Cc.2 fun i j f c d e=>?_
  simp only[CJ] at f c;simp only[List.getElem_map] at e;have h:∀w∈v::l,0<w:=fun w a=>by
   rcases Az.1 a with rfl|a
   .exact p
   .exact(g w a).1
  have t:=h _ (DU f);have s:=h _ (DU c);exact(Cc.1 o i j f c d) oO) (fun w a=>by
  obtain⟨u,b,rfl⟩:=BB.1 a;rcases Az.1 b with rfl|b
  .omega
  .have:=g u b;omega)
 simp at this;omega
variable{v:Sv}
theorem Za (h:Jw v):Lv (Cp v):=by
 have l:=h.few;have⟨z,u⟩:=PR v.O 0 (List.replicate (v.n+1) 0) h.ond (fun w f=>by have:=(h.orng w f).2;simp;omega);refine⟨⟨l,by simp[Cp],by simp[Cp],by simp[Cp],h.F,by simp[Cp],fun p x e=>by simp[Cp] at e,fun p q x y e=>by simp[Cp] at e,fun w b s=>?_,fun i j a b _ t=>by simp[Cp] at t,fun i a t=>by simp[Cp] at t,
  fun p x e=>by simp[Cp] at e,fun p x e=>by simp[Cp] at e,fun p x c e=>by simp[Cp] at e,fun v c A=>by simp[Cp,D9] at A,by simp[Cp],fun v k o=>by simp[Cp,D9] at o;omega⟩,fun c k o=>by simp[Cp] at o,⟨by simp[Cp],fun j r g=>?_,by simp[Cp]⟩,⟨by show v.n<lim;unfold lim;omega,h.X,?_,fun i w d=>?_,fun w i f d=>?_⟩,fun i d=>by simp[Cp] at d,fun w f=>?_,rfl,rfl⟩
 .simp only[Cp,D9] at s;split at s<;>simp at s
 .simp only[Cp,D9] at g;split at g
  .grind
  .cases g
 .show(LS v.n v.O).length=_;unfold LS;rw[z];simp[Cp]
 .have d:v.O[i]?=some w:=d;have:=h.orng w (AQ d);refine⟨this.1,this.2,?_⟩;have:=(u w).1 i d;rw[CC] at this;exact this
 .show v.O[i]?=some w;have d:(LS v.n v.O)[w]?=some (i:Int):=d;have m:w<=v.n:=by
   have:=(Aa.1 d).1;unfold LS at this;rw[z] at this;simp at this;omega
  have⟨j,g⟩:=Bw.1 (Ur h.ond h.orng h.olen w f m);have:=(u w).1 j g;unfold LS at d;rw[d] at this;injection this with this;have:i=j:=oO;rw[this];exact g
 .simp only[Cp,D9] at f;split at f<;>simp at f
theorem Zb (h:Jw v) {A:Nat} (o:4*(v.G.length+v.Q.length)+100<lim):∃s,Hd v=some s/\GInv A s/\s.n=v.n/\s.K.length=v.G.length+v.Q.length:=by
 have u:=Za h;have⟨s,e,r,g,q,m⟩:=SL v.G (Cp v) u h.gl (fun l k y j=>h.G l k y j) (by show 4*(0+v.G.length)+100<lim;omega);have q:s.K.length=0+v.G.length:=q;have m:s.Q=[]:=m;have g:s.n=v.n:=g;have⟨t,C,b,B,z,x,H⟩:=PQ v.Q s r (by rw[m];simp) h.ll (fun l k y j=>by rw[g];exact h.Q l k y j) oO;refine⟨t,?_,⟨⟨b.t,b.c,b.w,fun a f=>by rw[b.D] at f;simp at f,by rw[b.d];omega,fun a f=>by rw[b.D] at f;simp at f,oO⟩,b.h,B,z,b.clean,by rw[b.D];simp,fun i a p=>by rw[b.D] at p;simp at p⟩,x.trans g,oO⟩;unfold Hd;rw[e];exact C
theorem SM (h:Jw v) {b:List Int} (o:∀y∈b,Lit v.n y) (q:b.length+100<lim) {C:Nat} (P:v.G.length+v.Q.length+131071<=C) (c:4*C+100<lim):∃s,Hd v=some s/\
  ∀a:Int,∃f t k m,D5 b a f ⟨s,1,32,0⟩=some (t,k,m)/\Km v.n C t/\m<=131071/\(k= .out->(m:Int)=a)/\∀g:Int,131071<g->∃i d j,D5 b g f ⟨s,1,32,0⟩=some (i,d,j)/\d≠ .out/\(k=d∨(k= .out/\(m:Int)=a)):=by
 obtain⟨s,e,A,x,L⟩:=Zb h oO;refine⟨s,e,fun a=>?_⟩;have p:bJ b v.n C ⟨s,1,32,0⟩:=by
  have O:far ⟨s,1,32,0⟩<=131071- 1024:=by unfold far;simp only;omega
  refine⟨x,A,oS,?_,?_,by simp only;omega,by simp only;unfold lim;omega⟩
  .have:FH 64 1=1:=oD;simp only[this];omega
  .simp only;omega
 have⟨t,k,m,u,H,D,B⟩:=P6 o q c a (meas ⟨s,1,32,0⟩+1) _ p (DV _);refine⟨_,t,k,m,u,H,D,B,fun g M=>?_⟩;have⟨i,d,j,r,S,R,J⟩:=P6 o q c g (meas ⟨s,1,32,0⟩+1) _ p (DV _);have l:d≠ .out:=fun z=>by have:=J z;omega
 exact⟨i,d,j,r,l,IP _ _ u r l⟩
theorem zeroE {n C:Nat} {s:St} (h:Km n C s):∃t,GD s 0=some t/\Km n C t:=by
 by_cases o:s.D.length<=0
 .exact⟨s,by unfold GD;rw[if_pos o],h⟩
 .obtain⟨a,j⟩:∃a,s.D[0]?=some a:=⟨_,Ab oO⟩;have⟨t,e,k,m,b⟩:=QA h.t h.h j;refine⟨t,e,b.n.trans h.n,k,fun c z g=>?_,m,fun i f=>?_,by rw[b.Q,b.len];exact h.ll,by rw[b.len];exact h.len⟩
  .have:=b.lits c;rw[g] at this
   cases d:s.K[c]? with
   |none=>rw[d] at this;simp at this
   |some y=>
    rw[d] at this;simp at this;rw[b.n,this];exact h.c c y d
  .rw[b.len];rw[b.Q] at f;exact h.l i f
def Sc (x:Sv) (t:St) (b:Nat->Int) (a:List Nat):Sv:=
 ⟨x.n,x.G,t.Q.map fun i=>(((t.K[i]?).map Cl.l).getD [],b i,min (((t.K[i]?).map Cl.X).getD 0) 1099511627776),t.X,a,t.J,t.F⟩
theorem ex {x:Sv} {t:St} {C:Nat} {f:Nat->Int} {a:List Nat} (d:Jw x) (h:Km x.n C t) (e:a.Perm (List.range' 1 x.n)):Jw (Sc x t f a):=by
 have g:∀l∈(Sc x t f a).Q,l.1.length<=lim/\∀y∈l.1,Lit x.n y:=fun l b=>by
  obtain⟨i,k,rfl⟩:=BB.1 b;have:=h.l i k;rw[Ab this];have:=h.c i _ (Ab this);rw[h.n] at this;exact this
 refine⟨d.few,d.G,fun l b=>(g l b).2,d.gl,fun l b=>(g l b).1,?_,?_,?_,fun w j=>?_,?_⟩
 .have:=h.h.X;rw[h.n] at this;exact this
 .show a.length=x.n;have:=e.length_eq;simpa using this
 .exact e.nodup_iff.2 List.nodup_range'
 .have:=(e.mem_iff).1 j;rw[List.mem_range'_1] at this;exact⟨oO,by show w<=x.n;omega⟩
 .have:=h.t.pha;rw[h.n] at this;exact this
theorem Ka (x:Sv) (t:St) (b:Nat->Int) (a:List Nat):(Sc x t b a).Q.length=t.Q.length:=CJ _
variable{x:SS} {a:Ans}
theorem Rg {d:St} {c:Nat} (h:ED x d c=some a):∃y,a= .go y/\y.z=x.z+1:=by
 unfold ED at h
 repeat' (split at h)
 all_goals first|(cases h;done)|(simp only[A0] at h;exact⟨_,h.symm,rfl⟩)
variable{b:List Int}
theorem VY {c:St} (h:GJ b x c=some a):(∃y,a= .go y/\y.z=x.z)∨∃t k,a= .stop t k x.z:=by
 unfold GJ at h
 repeat' (split at h)
 all_goals first
  |(cases h;done)
  |(simp only[A0] at h;exact .inr ⟨_,_,h.symm⟩)
  |(have⟨d,_,h⟩:=Af.1 h;exact .inl ⟨_,h.symm,rfl⟩)
theorem UJ {c:Int} (h:M5 b c x=some a) (d:(x.z:Int)<=c):(∃y,a= .go y/\(y.z:Int)<=c)∨∃t k,a= .stop t k x.z:=by
 unfold M5 at h;split at h
 .cases h
 .split at h
  .cases h
  .split at h
   .split at h
    .simp only[A0] at h;exact .inr ⟨_,_,h.symm⟩
    .split at h
     .simp only[A0] at h;exact .inr ⟨_,_,h.symm⟩
     .split at h
      .split at h
       .obtain⟨y,rfl,e⟩:=Rg h;exact .inl ⟨y,rfl,by rw[e];omega⟩
       .cases h
      .cases h
   .split at h
    .split at h
     .have⟨g,_,h⟩:=Af.1 h;exact .inl ⟨_,h.symm,d⟩
     .cases h
    .rcases VY h with⟨y,e,f⟩|h
     .exact .inl ⟨y,e,by rw[f];exact d⟩
     .exact .inr h
theorem Pj {b:List Int} {d:Int}:∀(f:Nat) (x:SS) {t:St} {k:Kd} {m:Nat},D5 b d f x=some (t,k,m)->(x.z:Int)<=d->(m:Int)<=d
 |0,x,t,k,m,h,_=>by cases h
 |f+1,x,t,k,m,h,hx=>by
  unfold D5 at h;split at h
  .cases h
  .rename_i y c;rcases UJ c hx with⟨z,e,j⟩|⟨g,i,e⟩
   .cases e;exact Pj f _ h j
   .cases e
  .rename_i g i l c;rcases UJ c hx with⟨z,e,j⟩|⟨g,i,e⟩
   .cases e
   .grind
end Bud
namespace Go.Proofs.YtboflajfckfphaaGreatDoor
open Go Go.RowKit Go.Proofs.Tryz
abbrev ad (g k:Nat):Addr:=⟨g,k,none⟩
abbrev vP (g o:Nat):Value:= .pointer (some (ad g o))
abbrev vS (g n c:Nat):Value:= .slice (some (ad g 0)) n c
abbrev sq {a:Type} (A:Option Addr) (l:List a) (k:Nat):Value:= .slice A l.length k
abbrev vQ {a:Type} (g:Nat) (l:List a) (c:Nat):Value:=vS g l.length c
abbrev bT:Value:= .bool true
abbrev bF:Value:= .bool false
abbrev Cg:=Calls prog
abbrev Bl (w:World):=Below w.heap.size w
abbrev qv (k b:Nat):Nat×Value:=(k,vP b 0)
end Go.Proofs.YtboflajfckfphaaGreatDoor
