/- A part of the proof of TopBudgetHonest. -/
import Derived.Test.YtboflajfckfphaaGreatDoorK
set_option linter.all false
namespace Go.Refl
open Go.RowKit
noncomputable def Xe (x y:AV):Bool:=
 match x,y with
 | .bool a,.bool b=>cond a b (not b)
 | .int k m,.int k' n=>both (eqK k k') (Qv m n)
 | .str a,.str b=>eqS a b
 | .pnil,.pnil=>true
 | .snil,.snil=>true
 | .mnil,.mnil=>true
 | .fnil,.fnil=>true
 | .inil,.inil=>true
 | .ptr b o,.ptr b' o'=>both (Nat.beq b b') (Nat.beq o o')
 | .sl b o l c k,.sl b' o' l' c' k'=>both (both (Nat.beq b b') (Nat.beq o o')) (both (both (Nat.beq l l') (Nat.beq c c')) (cond k k' (not k')))
 | .map b,.map b'=>Nat.beq b b'
 | .yield b,.yield b'=>Nat.beq b b'
 |_,_=>false
noncomputable def U4 (e:AV->AV->Bool) (a:List AV):List AV->Bool:=
 Ds (fun b=>match b with|[]=>true|_=>false)
  (fun x _ c b=>match b with|[]=>false|y::b=>cond (e x y) (c b) false) a
noncomputable def OZ (x y:AV):Bool:=
 match x,y with
 | .fn f a c,.fn e a' c'=>both (Nat.beq f e) (both (U4 Xe a a') (U4 Xe c c'))
 | .iface t v,.iface t' v'=>both (Nat.beq t t') (Xe v v')
 |x,y=>Xe x y
noncomputable def VF (x y:AV):Bool:=
 match x,y with
 | .agg a,.agg b=>U4 OZ a b
 | .tup a,.tup b=>U4 OZ a b
 |x,y=>OZ x y
theorem L5 {a b:Bool} (h:cond a b (not b)=true):a=b:=by cases a<;>cases b<;>simp_all
variable{x y:AV}
theorem Np (h:Xe x y=true):x=y:=by
 unfold Xe at h;split at h
 .rw[L5 h]
 .simp[BC] at h;rw[K7 h.1];have:=h.2;rw[Gc] at this;rw[beq_iff_eq.1 this]
 .rw[LG] at h;rw[beq_iff_eq.1 h]
 .rfl
 .rfl
 .rfl
 .rfl
 .rfl
 .simp only[BC] at h;rw[beq_eq h.1,beq_eq h.2]
 .simp only[BC] at h;rw[beq_eq h.1.1,beq_eq h.1.2,beq_eq h.2.1.1,beq_eq h.2.1.2,L5 h.2.2]
 .rw[beq_eq h]
 .rw[beq_eq h]
 .cases h
theorem Kh {e:AV->AV->Bool} (c:∀x y,e x y=true->x=y):∀{a b:List AV},U4 e a b=true->a=b
 |[],[],_=>rfl
 |[],_::_,h=>absurd (show false=true from h) oD
 |_::_,[],h=>absurd (show false=true from h) oD
 |x::a,y::b,h=>by
  have⟨g,d⟩:=Bs (show cond (e x y) (U4 e a b) false=true from h);rw[c _ _ g,Kh c d]
theorem HG (h:OZ x y=true):x=y:=by
 unfold OZ at h;split at h
 .simp only[BC] at h;rw[beq_eq h.1,Kh (fun _ _=>Np) h.2.1,Kh (fun _ _=>Np) h.2.2]
 .simp only[BC] at h;rw[beq_eq h.1,Np h.2]
 .exact Np h
theorem O7 (h:VF x y=true):x=y:=by
 unfold VF at h;split at h
 .rw[Kh (fun _ _=>HG) h]
 .rw[Kh (fun _ _=>HG) h]
 .exact HG h
def JO (a:Op):Bool:=
 match a with
 | .move _| .assign _| .pick _ _ _| .nilCheck _| .binOp _ _ _ _ _| .unOp _ _ _| .fieldAddr _ _ _| .field _ _ _| .indexAddr _ _ _| .index _ _ _| .extract _ _| .build _ _=>true
 | .makeFunc (.func _) _ _=>true
 |_=>false
def isRead (a:Op):Bool:=
 match a with
 | .load _ _| .lookup _ _ _ _=>true
 | .convert _ _ _=>true
 | .slice _ _ _ _ _=>true
 | .call {callee:= .builtin .len,..}=>true
 | .call {callee:= .builtin .cap,..}=>true
 |_=>false
section
variable{E:Env} {j:Tr AV}
theorem U5 {b:Op} (d:JO b=true) (h:AH) (g:AV->AH->Bool):DC E b j h g=DC E b j h (fun v _=>g v h):=by
 cases b with
 |makeFunc f a c=>cases f<;>first|rfl|cases d
 |move x=>rfl
 |assign x=>rfl
 |pick c x y=>rfl
 |nilCheck x=>rfl
 |binOp b t x y n=>rfl
 |unOp b t x=>rfl
 |fieldAddr t x f=>rfl
 |field t x f=>rfl
 |indexAddr t x y=>rfl
 |index t x y=>rfl
 |extract x i=>rfl
 |build t ps=>rfl
 |_=>cases d
theorem L6 {v:AV} {f:Nat->Bool} (h:MY v f=true):∃n,f n=true/\∀e:Nat->Bool,e n=true->MY v e=true:=by
 unfold MY at h;split at h
 .rename_i k n;exact⟨n,h,fun e a=>a⟩
 .cases h
theorem O8 {o:Option AV} {d:Nat} {f:Nat->Bool} (h:NF o d f=true):∃n,f n=true/\∀e:Nat->Bool,e n=true->NF o d e=true:=by
 cases o with
 |none=>exact⟨d,h,fun e a=>a⟩
 |some v=>exact L6 h
variable{h:AH}
open Classical in
theorem U6 {t:TypeId} {lo D C:Option AV} {g:AV->Bool} (c:Ma E t x lo D C h (fun v r=>cond (Nat.beq r.nx h.nx) (g v) false)=true):
  Ma E t x lo D C h (fun v r=>g v&&decide (r=h))=true:=by
 have i:∀v,cond (Nat.beq h.nx h.nx) (g v) false=(g v&&decide (h=h)):=fun v=>oS
 have z:∀(o:AO) (f:Nat->AV),IL h o (fun b r=>cond (Nat.beq r.nx h.nx) (g (f b)) false)=true->False:=fun o f L=>by
  have⟨m,M,_⟩:=CO L;simp at M
 unfold Ma at c⊢;split at c
 .exact c
 .rename_i a S;split at c
  .simpa[i] using c
  .simpa[i] using c
  .split at c
   .exact c
   .rename_i U R;split at c
    .have⟨J,hk2,B⟩:=O8 c;have⟨H,p,A⟩:=O8 hk2;refine B _ (A _ ?_);have⟨O,n⟩:=Bs p;rw[O];rcases Ex n with⟨u,k⟩|⟨u,k⟩
     .rw[u];rcases Ex k with⟨s,l⟩|⟨s,l⟩
      .rw[s];rcases Ex l with⟨G,d⟩|⟨G,d⟩
       .rw[G];simpa using d
       .exfalso;split at d
        .have⟨_,q⟩:=Bs d;rw[Dx] at q;exact z _ _ q
        .cases d
      .rw[s];simpa using l
     .rw[u];simp[Dx] at k⊢;simpa using k
    .split at c
     .exact c
     .have⟨J,hk2,B⟩:=L6 c;have⟨H,p,A⟩:=L6 hk2;have⟨Q,n,P⟩:=O8 p;refine B _ (A _ (P _ ?_));simpa[i] using n
  .simpa[i] using c
  .exact c
theorem Nq:∀(l:List UInt8) (g:List Nat->Bool),aj l g=g (l.map UInt8.toNat)
 |[],g=>rfl
 |c::l,g=>by
  show aj l (fun s=>IK c.toNat fun n=>g (n::s))=_;rw[Nq l,Dx];rfl
variable{f e:AV->Bool}
theorem Qe {v:Value} (a:∀v,f v=true->e v=true) (h:LZ v f=true):LZ v e=true:=by
 unfold LZ at h⊢;split at h
 .exact a _ h
 .rw[Iq] at h⊢;exact a _ h
 .rw[Nq] at h⊢;exact a _ h
 .exact a _ h
 .rename_i l c
  cases l with
  |succ l=>cases h
  |zero=>
   cases c with
   |succ c=>cases h
   |zero=>exact a _ h
 .exact a _ h
 .exact a _ h
 .exact a _ h
 .grind
 .grind
 .cases h
theorem Qf:∀{l:List Value} {f e:List AV->Bool},(∀v,f v=true->e v=true)->OO l f=true->OO l e=true
 |[],f,e,hf,h=>hf _ h
 |v::l,f,e,hf,h=>Qe (fun x b=>Qf (fun y a=>hf _ a) b) (show LZ v (fun v=>OO l fun l=>f (v::l))=true from h)
theorem Z8 {v:Value} (a:∀v,f v=true->e v=true) (h:cst v f=true):cst v e=true:=by
 unfold cst at h⊢;split at h
 .exact Qf (fun x b=>a _ b) h
 .exact Qe a h
theorem L7 {o:Operand} (a:∀v,f v=true->e v=true) (h:ev E o j f=true):ev E o j e=true:=by
 cases o with
 |tmp t=>rw[LX] at h⊢;exact a _ h
 |const v=>exact Z8 a h
 |global n=>
  have⟨c,b⟩:=Bs (show cond (Nat.ble (Nat.succ n) E.ng) (f (.ptr n 0)) false=true from h);show cond (Nat.ble (Nat.succ n) E.ng) (e (.ptr n 0)) false=true;rw[c];exact a _ b
 |func d=>exact a _ h
theorem Mw {o:Option Operand} {f e:Option AV->Bool} (a:∀v,f v=true->e v=true) (h:OX o (fun o f=>ev E o j f) f=true):OX o (fun o f=>ev E o j f) e=true:=by
 cases o with
 |none=>exact a _ h
 |some o=>exact L7 (fun v b=>a _ b) h
theorem nC {k:IntKind} {n:Int} (h:wr k n f=true):∃v,f v=true/\∀e:AV->Bool,e v=true->wr k n e=true:=by
 unfold wr at h⊢;rw[Iq] at h;rcases Ex h with⟨c,a⟩|⟨c,a⟩
 .exact⟨_,a,fun e b=>by rw[Iq,c];exact b⟩
 .rw[Iq] at a;exact⟨_,a,fun e b=>by rw[Iq,c,cond_false,Iq];exact b⟩
theorem Z9:∀(s:List Nat) (f:List AV->Bool),gz s f=f (s.map fun n=> .int .u8 (.ofNat n))
 |[],f=>rfl
 |n::s,f=>by
  show gz s (fun l=>f (.int .u8 (.ofNat n)::l))=_;rw[Z9 s];rfl
theorem Qg {a:Type}:∀(n:Nat) (l:List a) (f:List a->Bool),Pz n l f=true->f (l.drop n)=true/\∀e:List a->Bool,e (l.drop n)=true->Pz n l e=true
 |0,l,f,h=>⟨h,fun e b=>b⟩
 |n+1,[],f,h=>⟨h,fun e b=>b⟩
 |n+1,x::l,f,h=>Qg n l f h
theorem Qh:∀(n:Nat) (l:List AV) (f:List AV->Bool),MA n l f=true->∃r,f r=true/\∀e:List AV->Bool,e r=true->MA n l e=true
 |0,l,f,h=>⟨[],h,fun e a=>a⟩
 |n+1,[],f,h=>absurd (show false=true from h) oD
 |n+1,v::l,f,h=>by
  have⟨d,c⟩:=Eh (show cond (isBad v) false (MA n l fun r=>f (v::r))=true from h);have⟨r,b,r3⟩:=Qh n l _ c;exact⟨v::r,b,fun e a=>by
   show cond (isBad v) false (MA n l fun r=>e (v::r))=true;rw[d];exact r3 _ a⟩
theorem lK {b o n:Nat} {f:List AV->Bool} (a:Ya h b o n f=true):∃r,f r=true/\∀e:List AV->Bool,e r=true->Ya h b o n e=true:=by
 unfold Ya at a⊢;split at a
 .have⟨d,r1⟩:=Qg _ _ _ a;have⟨r,c,r2⟩:=Qh _ _ _ d;exact⟨r,c,fun e g=>r1 _ (r2 _ g)⟩
 .cases a
theorem Xf:∀{l:List AV} {f:List Nat->Bool} (_:Jq l f=true),∃s,f s=true/\∀e:List Nat->Bool,e s=true->Jq l e=true
 |[],f,h=>⟨[],h,fun e a=>a⟩
 |v::l,f,h=>by
  obtain⟨n,rfl,a⟩:∃n,v= .int .u8 (.ofNat n)/\cond (Nat.ble n 255) (Jq l fun s=>f (n::s)) false=true:=by
   cases v with
   |int k z=>
    cases k<;>cases z<;>first|exact⟨_,rfl,h⟩|exact absurd (show false=true from h) oD
   |_=>exact absurd (show false=true from h) oD
  .have⟨g,d⟩:=Bs a;have⟨s,c,r3⟩:=Xf d;exact⟨n::s,c,fun e b=>by
    show cond (Nat.ble n 255) (Jq l fun s=>e (n::s)) false=true;rw[g];exact r3 _ b⟩
open Classical in
theorem Xg {C:Op} (D:isRead C=true) {g:AV->Bool} (a:DC E C j h (fun v B=>cond (Nat.beq B.nx h.nx) (g v) false)=true):
  DC E C j h (fun v B=>g v&&decide (B=h))=true:=by
 have z:∀v,cond (Nat.beq h.nx h.nx) (g v) false=(g v&&decide (h=h)):=fun v=>oS
 cases C with
 |load t x=>
  have e:∀f:AV->AH->Bool,DC E (.load t x) j h f=DC E (.load t x) j h (fun v _=>f v h):=fun f=>rfl
  rw[e] at a⊢;simpa[z] using a
 |lookup t x y H=>
  have e:∀f:AV->AH->Bool,DC E (.lookup t x y H) j h f=DC E (.lookup t x y H) j h (fun v _=>f v h):=fun f=>rfl
  rw[e] at a⊢;simpa[z] using a
 |convert s d x=>
  have G:∀(o:AO) (f:Nat->AV),IL h o (fun b B=>cond (Nat.beq B.nx h.nx) (g (f b)) false)=true->False:=fun o f O=>by
   have⟨m,P,_⟩:=CO O;simp at P
  simp only[DC] at a⊢;refine L7 (fun v a=>?_) a;split at a
  .split at a
   .grind
   .exfalso;split at a
    .rw[Z9] at a;rw[Dx] at a;exact G _ (fun b=> .sl b 0 _ _ true) a
    .cases a
   .grind
   .grind
   .grind
   .cases a
  .cases a
 |slice t x lo M J=>
  simp only[DC] at a⊢;refine L7 (fun v a=>Mw (fun lo a=>Mw (fun M a=>Mw (fun J a=>U6 a) a) a) a) a
 |call c=>
  have⟨k,p,u⟩:=c
  cases k with
  |value f=>cases D
  |invoke r n=>cases D
  |builtin b=>
   cases b with
   |len=>
    cases i:p.toList with
    |nil=>simp[DC,i] at a
    |cons x l=>cases l with
     |cons y L=>simp[DC,i] at a
     |nil=>cases q:u.toList with
      |nil=>simp[DC,i,q] at a
      |cons t l=>cases l with
       |cons _ _=>simp[DC,i,q] at a
       |nil=>
        simp[DC,i,q] at a⊢;refine L7 (fun v A=>?_) a;split at A
        .grind
        .cases A
   |cap=>
    cases i:p.toList with
    |nil=>simp[DC,i] at a
    |cons x l=>cases l with
     |cons y L=>simp[DC,i] at a
     |nil=>cases q:u.toList with
      |nil=>simp[DC,i,q] at a
      |cons t l=>cases l with
       |cons _ _=>simp[DC,i,q] at a
       |nil=>
        simp[DC,i,q] at a⊢;refine L7 (fun v A=>?_) a;split at A
        .grind
        .cases A
   |_=>cases D
 |_=>cases D
end
section
section
variable{E:Env} {d:Tr AV}
variable{f:AV->Bool}
theorem RV {v:Value} (h:LZ v f=true):∃a,f a=true/\∀e:AV->Bool,e a=true->LZ v e=true:=by
 unfold LZ at h⊢;split at h
 .exact⟨_,h,fun e b=>b⟩
 .rw[Iq] at h;exact⟨_,h,fun e b=>by simp only[Iq];exact b⟩
 .rw[Nq] at h;exact⟨_,h,fun e b=>by simp only[Nq];exact b⟩
 .exact⟨_,h,fun e b=>b⟩
 .rename_i l c
  cases l with
  |succ l=>cases h
  |zero=>
   cases c with
   |succ c=>cases h
   |zero=>exact⟨_,h,fun e b=>b⟩
 .exact⟨_,h,fun e b=>b⟩
 .exact⟨_,h,fun e b=>b⟩
 .exact⟨_,h,fun e b=>b⟩
 .grind
 .grind
 .cases h
theorem RW:∀{l:List Value} {f:List AV->Bool},OO l f=true->∃a,f a=true/\∀c:List AV->Bool,c a=true->OO l c=true
 |[],f,h=>⟨_,h,fun c e=>e⟩
 |v::l,f,h=>by
  have⟨a,i,r1⟩:=RV (show LZ v (fun v=>OO l fun l=>f (v::l))=true from h);have⟨b,g,r2⟩:=RW i;exact⟨a::b,g,fun c e=>r1 (fun v=>OO l fun l=>c (v::l)) (r2 (fun l=>c (a::l)) e)⟩
theorem bM {v:Value} (h:cst v f=true):∃a,f a=true/\∀b:AV->Bool,b a=true->cst v b=true:=by
 unfold cst at h⊢;split at h
 .have⟨a,c,r1⟩:=RW h;exact⟨_,c,fun b e=>r1 (fun l=>b (.agg l)) e⟩
 .exact RV h
theorem Gh {o:Operand} (h:ev E o d f=true):∃a,f a=true/\∀b:AV->Bool,b a=true->ev E o d b=true:=by
 cases o with
 |tmp t=>rw[LX] at h;exact⟨_,h,fun b c=>by rw[LX];exact c⟩
 |const v=>exact bM h
 |global n=>
  have⟨g,e⟩:=Bs (show cond (Nat.ble (Nat.succ n) E.ng) (f (.ptr n 0)) false=true from h);exact⟨_,e,fun b c=>by show cond (Nat.ble (Nat.succ n) E.ng) (b (.ptr n 0)) false=true;rw[g];exact c⟩
 |func i=>exact⟨_,h,fun b c=>c⟩
def Mg (a:Op):Bool:=
 match a with
 | .move _| .assign _| .pick _ _ _| .nilCheck _| .fieldAddr _ _ _| .indexAddr _ _ _| .extract _ _=>true
 |_=>false
theorem Yp {u:Op} (D:Mg u=true) {h:AH} {g:AV->Bool} (q:DC E u d h (fun v _=>g v)=true):
  ∃v,g v=true/\∀m (p:AV->AH->Bool),p v m=true->DC E u d m p=true:=by
 cases u with
 |move x=>
  have⟨a,j,r1⟩:=Gh q;exact⟨a,j,fun m p l=>r1 (fun v=>p v m) l⟩
 |assign x=>
  have⟨a,j,r1⟩:=Gh q;exact⟨a,j,fun m p l=>r1 (fun v=>p v m) l⟩
 |pick c x y=>
  simp only[DC] at q⊢;have⟨a,j,r1⟩:=Gh q;split at j
  .rename_i b
   cases b with
   |true=>
    have⟨v,m,r2⟩:=Gh (show ev E x d (fun v=>g v)=true from j);exact⟨v,m,fun k p l=>r1 _ (r2 (fun v=>p v k) l)⟩
   |false=>
    have⟨v,m,r2⟩:=Gh (show ev E y d (fun v=>g v)=true from j);exact⟨v,m,fun k p l=>r1 _ (r2 (fun v=>p v k) l)⟩
  .cases j
 |nilCheck x=>
  simp only[DC] at q⊢;have⟨a,j,r1⟩:=Gh q;split at j
  .exact⟨_,j,fun k p l=>r1 _ l⟩
  .cases j
 |fieldAddr t x f=>
  simp only[DC] at q⊢;have⟨a,j,r1⟩:=Gh q;split at j
  .rename_i L _ _ _ b o r;split at j
   .rename_i M G;split at j
    .rename_i O A;have⟨m,k⟩:=Bs j;rw[Dx] at k;refine⟨_,k,fun z p l=>r1 _ ?_⟩;simp only[r,G,A,m,Dx];exact l
    .cases j
   .cases j
  .cases j
 |indexAddr t x i=>
  simp only[DC] at q⊢;have⟨a,j,r1⟩:=Gh q;have⟨b,m,r2⟩:=Gh j;have⟨n,k,r3⟩:=L6 m;split at k
  .rename_i len e _ _ _ r;split at k
   .rename_i b o J B;have⟨z,s⟩:=Bs k;rw[Dx] at s;refine⟨_,s,fun H p l=>r1 _ (r2 _ (r3 _ ?_))⟩;simp only[r,B,z,Dx];exact l
   .cases k
  .rename_i e _ _ _ r;split at k
   .rename_i b o len _ _ J B;have⟨z,s⟩:=Bs k;rw[Dx] at s;refine⟨_,s,fun H p l=>r1 _ (r2 _ (r3 _ ?_))⟩;simp only[r,B,z,Dx];exact l
   .cases k
  .cases k
 |extract x i=>
  simp only[DC] at q⊢;have⟨a,j,r1⟩:=Gh q;split at j
  .grind
  .cases j
 |_=>cases D
end
section
variable{P:Program} {E:Env} {C:Ctx} (hE:Em P E C) {d:Tr AV}
include hE
end
end
section
theorem PJ:∀{a l:List AV} {g:List AV->Bool},MB a l g=true->∃r,g r=true/\∀b:List AV->Bool,b r=true->MB a l b=true
 |[],l,g,h=>⟨l,h,fun b c=>c⟩
 |v::a,[],g,h=>absurd (show false=true from h) oD
 |v::a,u::l,g,h=>by
  have⟨i,f⟩:=Bs (show cond (Jv v) (MB a l fun r=>g (v::r)) false=true from h);have⟨r,e,r3⟩:=PJ f;refine⟨v::r,e,fun b c=>?_⟩;show cond (Jv v) (MB a l fun r=>b (v::r)) false=true;rw[i];exact r3 _ c
theorem ML:∀{o:Nat} {a l:List AV} {g:List AV->Bool},DL o a l g=true->∃r,g r=true/\∀b:List AV->Bool,b r=true->DL o a l b=true
 |0,a,l,g,h=>PJ (show MB a l g=true from h)
 |o+1,a,[],g,h=>absurd (show false=true from h) oD
 |o+1,a,u::l,g,h=>by
  have⟨r,c,r3⟩:=ML (show DL o a l (fun r=>g (u::r))=true from h);exact⟨u::r,c,fun b e=>r3 (fun r=>b (u::r)) e⟩
theorem PK {E:Env} {a:Nat->(Nat->Nat->Bool)->Bool} {j:Tr AV} (e:∀i f,a i f=true->∃b size,f b size=true/\∀m:Nat->Nat->Bool,m b size=true->a i m=true):
  ∀{ps:List (Nat×Operand)} {c:List AV} {g:List AV->Bool},Ir E a j ps c g=true->∃r,g r=true/\∀k:List AV->Bool,k r=true->Ir E a j ps c k=true
 |[],c,g,h=>⟨c,h,fun k l=>l⟩
 |p::ps,c,g,h=>by
  have l:ev E p.2 j (fun v=>a p.1 fun b size=>cond (Nat.beq (cellsOf v).length size) (DL b (cellsOf v) c fun c=>Ir E a j ps c g) false)=true:=h;have⟨v,A,r1⟩:=Gh l;have⟨b,size,z,r2⟩:=e _ _ A;have⟨y,x⟩:=Bs z;have⟨B,u,q⟩:=ML x;have⟨r,t,n⟩:=PK e u;refine⟨r,t,fun k s=>?_⟩;show ev E p.2 j (fun v=>a p.1 fun b size=>cond (Nat.beq (cellsOf v).length size) (DL b (cellsOf v) c fun c=>Ir E a j ps c k) false)=true;refine r1 _ (r2 _ ?_);rw[y];exact q _ (n _ s)
section
variable{P:Program} {E:Env} {C:Ctx} (p:Em P E C)
variable{o:Oper} {j:Tr AV}
theorem PL {f:List Oper} {g:Bool->Bool} (c:Ga f o j g=true):∃b,g b=true/\∀e:Bool->Bool,e b=true->Ga f o j e=true:=by
 unfold Ga at c⊢;split at c
 .exact⟨true,c,fun e a=>a⟩
 .split at c
  .rename_i d _ _ _ _ _ k
   cases i:j.get d with
   |none=>rw[i] at c;exact⟨false,c,fun e a=>a⟩
   |some v=>
    rw[i] at c;have hk2:Oz _ v g=true:=c
    cases v with
    |bool b=>exact⟨_,Gx hk2,fun e a=>by
      show Hu _ e=true;generalize(cond b _ _:Bool)=u at a⊢;cases u<;>exact a⟩
    |bad=>cases hk2
    |_=>exact⟨false,hk2,fun e a=>a⟩
  .exact⟨false,c,fun e a=>a⟩
include p
variable{d:Array Oper}
theorem Ke {b:Bool} (c:Ga d.toList o j (fun u=>u==b)=true) {a:BJ} {act:Act}
  (f:∀t∈o.looksAt d,VR a (Dg j t) (act.tmps.getD t undef)):Region.wanted o (yielded d act.tmps)=b:=by
 have⟨e,m,l⟩:=narrow (o.looksAt d) j act.tmps.size;rw[RF m] at c;have⟨n,k,i⟩:=ND p c;have:n=b:=by simpa using k
 subst this;exact i a _ _ (l a act.tmps rfl f)
theorem FQ {a:Tr AV} (h:∀t∈o.looksAt d,Dg j t=Dg a t):Agree o.op.operands.toList j a:=fun t b=>
 h t (List.mem_append_left _ (List.mem_filterMap.2 ⟨.tmp t,b,rfl⟩))
variable{h:AH} {g:AV->AH->Bool}
theorem dG (f:DC E o.op j h g=true) {b:BJ} {w:World} {act:Act} (k:BK C b h w)
  (m:∀t∈o.looksAt d,VR b (Dg j t) (act.tmps.getD t undef)):
  ∃v e,g v e=true/\∃a r z c,b.le a/\(execOp act.eval o).run P w= .ok r c/\BK C a e c/\(r= .value z∨r= .skip/\z=undef)/\VR a v z:=by
 have⟨i,x,u⟩:=narrow (o.looksAt d) j act.tmps.size;rw[Py (FQ p x)] at f;have⟨v,e,s,q⟩:=Li p f;have l:=u b act.tmps rfl m;have⟨a,n,z,c,q1,q2,q3,q4,q5⟩:=q b w act.eval o rfl k ⟨fun t=>l.2 t,fun _=>rfl,fun _=>rfl,fun _=>rfl⟩;exact⟨v,e,s,a,n,z,c,q1,q2,q3,q4,q5⟩
theorem fU {t:TypeId} {len:Nat} {ps:Array (Nat×Operand)} (M:o.op= .buildSlice t len ps) (s:DC E (.buildSlice t len ps) j h g=true):
  ∃v cs e z m,g v ⟨m,h.nx+1⟩=true/\h.m.Put h.nx (.cells cs e z false) m/\
   ∀(n:BJ) (L:AH) (w:World) (act:Act),BK C n L w->(∀t∈o.looksAt d,VR n (Dg j t) (act.tmps.getD t undef))->∃b zz,B2 n cs=some b/\
    (execOp act.eval o).run P w= .ok (.value zz) (w.alloc (.cells b.toArray e))/\∀l:BJ,l h.nx=some ⟨w.heap.size,0,0⟩->conc l v=some zz:=by
 simp only[DC] at s;split at s
 .rename_i e _ _ _ ht;split at s
  .rename_i a Q;have⟨h5,h6⟩:=Bs s;simp only[BC,CL] at h5;have⟨Z,a4,Y⟩:=h5;have Z:=ble_eq Z;have Y:=beq_eq Y;have⟨u,z1,z2,z3⟩:=Ja p Q a4 Y;have h7:=I1 p _ _ _ h6;have⟨r,h8,r8⟩:=PK (fun i f y=>⟨i*a.size,a.size,by rw[Dx] at y;exact y,fun f' O=>by rw[Dx];exact O⟩) h7;have⟨m,hg,L⟩:=CO h8;refine⟨_,r,e,a.size,m,hg,L,fun n J w act k ha=>?_⟩;have⟨D,n1,n2⟩:=narrow (o.looksAt d) j act.tmps.size;have A:=FQ p n1;rw[M] at A;have H:Agree (ps.toList.map (·.2)) j D:=A.sub (by simp[Op.operands]);have G:=n2 n act.tmps rfl ha
   classical
   have h9:=r8 (fun c=>decide (c=r)) oS;rw[Ht H] at h9;obtain⟨U,R,hs⟩:=Hl p (fun i f y=>⟨_,_,by rw[Dx] at y;exact y,rfl⟩) h9;have:U=r:=by simpa using R
   subst this;have⟨l',r1,r2⟩:=hs n J w act.eval _ k ⟨fun t=>G.2 t,fun _=>rfl,fun _=>rfl,fun _=>rfl⟩ (I0 (z3 n) len);refine⟨l',.slice (some ⟨w.heap.size,0,none⟩) len len,r2,?_,fun l h'=>by simp[conc,h']⟩;have B:¬(2^24<len*a.size):=by have:len*a.size<=65536:=Z;omega
   have r0:(Array.range (len*a.size)).map (fun i=>u.cells[i%u.cells.size]!)=(List.replicate len u.cells.toList).flatten.toArray:=by
    apply Ch;rw[<-z2,IZ]
   have q:Instr.fill (fun i=>some (i*a.size,a.size)) (List.replicate len u.cells.toList).flatten.toArray (ps.toList.map fun(i,x)=>(i,act.eval x))=some l'.toArray:=r1;by_cases S:len*a.size=0
   .have r3:(List.replicate len u.cells.toList).flatten.toArray=#[]:=by rw[<-r0,S];simp
    rw[r3] at q;simp[execOp,M,Instr.buildSlice,Cq p ht,Cs p Q,B,S,show Array.range 0=#[] from by simp,q,newRow]
   .simp[execOp,M,Instr.buildSlice,Cq p ht,Cs p Q,B,S,z1,r0,q,newRow]
  .cases s
 .cases s
theorem alloc_at {t:TypeId} (A:o.op= .alloc t) (c:DC E (.alloc t) j h g=true):
  ∃v u e z m,g v ⟨m,h.nx+1⟩=true/\h.m.Put h.nx (.cells u e z false) m/\
   ∀(i:BJ) (q:AH) (w:World) (act:Act),BK C i q w->(∀t∈o.looksAt d,VR i (Dg j t) (act.tmps.getD t undef))->∃b r,B2 i u=some b/\
    (execOp act.eval o).run P w= .ok (.value r) (w.alloc (.cells b.toArray e))/\∀f:BJ,f h.nx=some ⟨w.heap.size,0,0⟩->conc f v=some r:=by
 simp only[DC] at c;split at c
 .rename_i a s;have⟨x,c⟩:=Eh c;unfold Yb at c;rw[s] at c;have⟨m,B,q⟩:=CO c;refine⟨_,_,t,0,m,B,q,fun i y w act k G=>?_⟩;have⟨z,l,n⟩:=Ot p s w x;refine⟨z.cells.toList,.pointer (some ⟨w.heap.size,0,none⟩),F0 (n i),?_,fun f D=>by simp[conc,D]⟩;simp[execOp,A,Instr.alloc,l,newVar,newRow]
 .cases c
theorem ba {t:TypeId} {l c:Operand} (ho:o.op= .makeSlice t l c) (hk:DC E (.makeSlice t l c) j h g=true):
  ∃v cs e z m,g v ⟨m,h.nx+1⟩=true/\h.m.Put h.nx (.cells cs e z false) m/\
   ∀(b:BJ) (n:AH) (w:World) (act:Act),BK C b n w->(∀t∈o.looksAt d,VR b (Dg j t) (act.tmps.getD t undef))->∃r zz,B2 b cs=some r/\
    (execOp act.eval o).run P w= .ok (.value zz) (w.alloc (.cells r.toArray e))/\∀A:BJ,A h.nx=some ⟨w.heap.size,0,0⟩->conc A v=some zz:=by
 simp only[DC] at hk;have⟨Y,h1,r1⟩:=Gh hk;have⟨cv,h2,r2⟩:=Gh h1;have hl:∀(b:BJ) (n:AH) (w:World) (a:Tr AV) (q:Operand->Value),BK C b n w->Rc b a q->Agree [l] j a->VR b Y (q l):=fun b n w a q k hr Q=>by
  classical
  have:=r1 (fun u=>decide (u=Y)) oS;rw[BO Q] at this;have⟨v,G,D⟩:=BH p this;have:v=Y:=by simpa using G
  subst this;exact D b n w q k hr
 have hc:∀(b:BJ) (n:AH) (w:World) (a:Tr AV) (q:Operand->Value),BK C b n w->Rc b a q->Agree [c] j a->VR b cv (q c):=fun b n w a q k hr Q=>by
  classical
  have:=r2 (fun u=>decide (u=cv)) oS;rw[BO Q] at this;have⟨v,G,D⟩:=BH p this;have:v=cv:=by simpa using G
  subst this;exact D b n w q k hr
 obtain⟨kl,J,rfl,h3⟩:=Ff h2;obtain⟨kc,f,rfl,R⟩:=Ff h3;split at R
 .rename_i e _ _ _ ht;split at R
  .rename_i H U;have⟨h5,h6⟩:=Bs R;simp only[BC,CL] at h5;have⟨⟨a1,a2⟩,a3,a4,a5⟩:=h5;have a1:=ble_eq a1;have a2:=ble_eq a2;have a3:=ble_eq a3;have a5:=beq_eq a5;have⟨m,hg,n⟩:=CO (I1 p _ _ _ h6);refine⟨_,_,e,H.size,m,hg,n,fun b L w act k Q=>?_⟩;have⟨a,n1,n2⟩:=narrow (o.looksAt d) j act.tmps.size;have B:=FQ p n1;rw[ho] at B;have Z:=n2 b act.tmps rfl Q;have s:Rc b a act.eval:=⟨fun t=>Z.2 t,fun _=>rfl,fun _=>rfl,fun _=>rfl⟩;have G:=(hl b L w a act.eval k s (B.sub (by simp[Op.operands]))).conc oS;have D:=(hc b L w a act.eval k s (B.sub (by simp[Op.operands]))).conc oS;simp only[conc,A0] at G D;have⟨S,z1,z2,z3⟩:=Ja p U a4 a5;have⟨i,i1,i2⟩:=PU p U w;have w1:IntKind.i64.wrap (J:Int)=J:=wrap_in .i64 _ (FA (oO:_<=0x8000000000000000));have w2:IntKind.i64.wrap (f:Int)=f:=wrap_in .i64 _ (FA (oO:_<=0x8000000000000000));have hb:H.bytes*f<=4294967296:=Bj (Nat.mul_le_mul a3 a2) oD;refine⟨(List.replicate f S.cells.toList).flatten,.slice (some ⟨w.heap.size,0,none⟩) J f,I0 (z3 b) f,?_,fun A h'=>by simp[conc,h']⟩;have r0:(Array.range (f*H.size)).map (fun i=>S.cells[i%S.cells.size]!)=(List.replicate f S.cells.toList).flatten.toArray:=by
    apply Ch;rw[<-z2,IZ]
   have x:¬((f:Int)<0):=oO;have y:¬(281474976710656<(H.bytes:Int)*f):=by
    have:((H.bytes*f:Nat):Int)<=4294967296:=Int.ofNat_le.2 hb;rw[Int.natCast_mul] at this;omega
   have M:¬((f:Int)<J):=oO;have O:¬((J:Int)<0):=oO;rw[<-r0];by_cases h0:f*H.size=0
   .simp[execOp,ho,Instr.makeSlice,<-G,<-D,Cq p ht,asInt,asIntOf,i1,i2,w1,w2,x,y,M,O,Cs p U,h0,show Array.range 0=#[] from by simp,newRow]
   .simp[execOp,ho,Instr.makeSlice,<-G,<-D,Cq p ht,asInt,asIntOf,i1,i2,w1,w2,x,y,M,O,Cs p U,h0,z1,newRow]
  .cases R
 .cases R
def PM (a:Op):Bool:=
 match a with
 | .buildSlice _ _ _| .alloc _| .makeSlice _ _ _=>true
 |_=>false
theorem new_at (q:PM o.op=true) (f:DC E o.op j h g=true):
  ∃v r e z m,g v ⟨m,h.nx+1⟩=true/\h.m.Put h.nx (.cells r e z false) m/\
   ∀(k:BJ) (s:AH) (w:World) (act:Act),BK C k s w->(∀t∈o.looksAt d,VR k (Dg j t) (act.tmps.getD t undef))->∃a n,B2 k r=some a/\
    (execOp act.eval o).run P w= .ok (.value n) (w.alloc (.cells a.toArray e))/\∀i:BJ,i h.nx=some ⟨w.heap.size,0,0⟩->conc i v=some n:=by
 cases b:o.op with
 |buildSlice t len ps=>rw[b] at f;exact fU p b f
 |alloc t=>rw[b] at f;exact alloc_at p b f
 |makeSlice t l c=>rw[b] at f;exact ba p b f
 |_=>rw[b] at q;cases q
end
end
noncomputable section
def bit (m i:Nat):Bool:=Nat.beq (Nat.land 1 (Nat.shiftRight m i)) 1
def fR {R:Type} (x:Nat) (g:Nat->R):R:=Hv (g 0) (fun n _=>g (Nat.succ n)) x
def within (a b:Nat):Bool:=Nat.beq (Nat.land a b) a
def Fc (i:Nat):Nat:=Nat.shiftLeft 1 i
end
theorem Ll {R:Type} (x:Nat) (g:Nat->R):fR x g=g x:=by cases x<;>rfl
theorem IX (m i:Nat):bit m i=m.testBit i:=by
 unfold bit Nat.testBit;have h:(Nat.land 1 (Nat.shiftRight m i))=1&&&(m>>>i):=rfl;rw[h,Nat.one_and_eq_mod_two];have:=Nat.mod_two_eq_zero_or_one (m>>>i);rcases this with e|e<;>rw[e]<;>rfl
theorem G6 (a b i:Nat):bit (Nat.lor a b) i=(bit a i||bit b i):=by
 rw[IX,IX,IX];exact Nat.testBit_or a b i
theorem FO (i j:Nat):bit (Fc i) j=decide (i=j):=by
 rw[IX];show(1<<<i).testBit j=_;rw[Nat.one_shiftLeft,Nat.testBit_two_pow]
theorem JG (i:Nat):bit 0 i=false:=by rw[IX];exact Nat.zero_testBit i
theorem Gj {a b i:Nat} (h:within a b=true) (k:bit a i=true):bit b i=true:=by
 have h:=Bh h;rw[IX] at k⊢;have d:(a&&&b).testBit i=a.testBit i:=by rw[show a&&&b=a from h]
 rw[Nat.testBit_and,k] at d;simpa using d
def IY (e:Edge):Bool:=
 match e.ground with
 | .textOnly _=>false
 | .gcOnly _=>false
 |_=>true
theorem PF (e:Edge):Region.binds .any e=IY e:=by
 cases e.ground<;>rfl
structure Fm where
 Ps:List Nat
 pi:List Nat
 two:Option (Nat×Nat)
def Fm.tail (p:Fm):List Nat:=match p.two with|some (x,y)=>[x,y]|none=>[]
def Fm.full (p:Fm):List Nat:=p.pi++p.tail
noncomputable section
def maskAt (Ps:List Nat) (i:Nat):Nat:=(nth Ps i).getD 0
def K5 (Ps:List Nat) (b:List Edge):Nat:=
 Ds 0 (fun e _ a=>cond (IY e) (Nat.lor (Nat.lor (maskAt Ps e.on) (Fc e.on)) a) a) b
def Vs {R:Type} (l:List Nat) (p:Nat):(List Nat->R)->R:=Ds (fun g=>g [p]) (fun x _ a g=>a fun l=>g (x::l)) l
def Vt {R:Type} (a:List Oper):List Nat->(List Nat->R)->R:=
 Ds (fun Ps g=>g Ps) (fun o _ b Ps g=>fR (K5 Ps o.after.toList) fun p=>Vs Ps p fun Ps=>b Ps g) a
def isSlice (a:Op):Bool:=match a with| .slice _ _ _ _ _=>true|_=>false
def cls (f:Bool) (a:Op):Nat:=cond (PM a) 2 (cond (Mg a) 0 (cond (JO a) 1 (cond (isRead a) (cond (both f (isSlice a)) 3 1) 3)))
def acts (f:Bool) (o:Oper):Bool:=Nat.beq (cls f o.op) 3
structure Xw where
 i:Nat
 P:Nat
 eff:Bool
def Sr {R:Type} (l:List Xw):Nat->List Nat->(List Xw->Nat->List Nat->R)->R:=
 Ds (fun done b g=>g [] done b)
  (fun x _ e done b g=>cond (both (not x.eff) (within x.P done)) (fR (Nat.lor done (Fc x.i)) fun d=>e d (x.i::b) g) (e done b fun r d a=>g (x::r) d a)) l
def bY {R:Type} (l:List Xw):Nat->(Option Nat->List Xw->R)->R:=
 Ds (fun _ g=>g none [])
  (fun x r a done g=>cond (both x.eff (within x.P done)) (g (some x.i) r) (a done fun o r=>g o (x::r))) l
def Ue {R:Type} (l:List Nat):List Nat->(List Nat->R)->R:=Ds (fun a g=>g a) (fun x _ b a g=>b (x::a) g) l
def Vu {R:Type} (n:Nat):List Xw->Nat->List Nat->(List Nat->R)->R:=
 Qz (fun _ _ a g=>Ue a [] g)
  (fun _ b l done a g=>Sr l done a fun l done a=>bY l done fun o l=>match o with
   |none=>Ue a [] g
   |some i=>fR (Nat.lor done (Fc i)) fun done=>b l done (i::a) g) n
def fN {R:Type} (f:Bool) (a:List Oper):List Nat->Nat->(List Xw->R)->R:=
 Ds (fun _ _ g=>g []) (fun o _ b Ps i g=>match Ps with
  |[]=>g []
  |P::Ps=>b Ps (Nat.succ i) fun l=>fR i fun i=>bBoolR (acts f o) fun e=>g (⟨i,P,e⟩::l)) a
where bBoolR {R:Type} (b:Bool) (g:Bool->R):R:=cond b (g true) (g false)
def opsL (e:Op) (g:List Operand->Bool):Bool:=
 match e with
 | .alloc _| .ready _| .waits _=>g []
 | .move x| .assign x| .box _ x| .load _ x| .nilCheck x| .unOp _ _ x| .convert _ _ x| .sliceToArrayPointer _ x| .makeInterface _ x
 | .makeChan _ x| .fieldAddr _ x _| .field _ x _| .range _ x| .next x _| .entry x| .typeAssert x _ _ _| .extract x _| .panic x| .recv _ x _=>g [x]
 | .pick c a b=>g [c,a,b]
 | .build _ ps| .buildSlice _ _ ps=>g (ps.toList.map (·.2))
 | .store _ a v| .binOp _ _ a v _| .makeSlice _ a v| .indexAddr _ a v| .index _ a v| .lookup _ a v _| .mapEntry _ a v| .send a v=>g [a,v]
 | .makeFunc _ first d=>g (first.toList++d.toList)
 | .makeMap _ r=>g r.toList
 | .slice _ x l h m=>g (x::(l.toList++(h.toList++m.toList)))
 | .mapUpdate _ m k v| .entryStore _ m k v| .insert _ m k v=>g [m,k,v]
 | .call c| .go c| .defer c=>match c.callee with| .value f=>g (f::c.args.toList)| .invoke r _=>g (r::c.args.toList)| .builtin _=>g c.args.toList
 | .select _ _=>false
theorem bZ {j:Op} {g:List Operand->Bool} (h:opsL j g=true):g j.operands.toList=true:=by
 cases j<;>try exact h
 case makeFunc f a c=>simpa[Op.operands,opsL] using h
 case makeMap t r=>cases r<;>simpa[Op.operands,opsL] using h
 case slice t x l h' m=>cases l<;>cases h'<;>cases m<;>simpa[Op.operands,opsL] using h
 case call c=>
  have⟨d,e,i⟩:=c;cases d<;>simpa[Op.operands,Call.operands,opsL] using h
 case go c=>
  have⟨d,e,i⟩:=c;cases d<;>simpa[Op.operands,Call.operands,opsL] using h
 case defer c=>
  have⟨d,e,i⟩:=c;cases d<;>simpa[Op.operands,Call.operands,opsL] using h
 case select cs b=>exact absurd (show false=true from h) oD
def MI (l:List Operand):Nat:=Ds 0 (fun x _ a=>match x with| .tmp t=>Nat.lor (Fc t) a|_=>a) l
def QF (a:List Oper) (o:Oper):Nat:=
 match o.guard with
 |some (g,_)=>match nth a g with|some o=>(match o.dst with|some d=>Fc d|none=>0)|none=>0
 |none=>0
def JH (Ps:List Nat) (P i L:Nat) (b:List (Nat×Nat)):Bool:=
 Ds true (fun w _ a=>cond (bit L w.1) (cond (Nat.beq w.2 i) a (cond (bit P w.2) a (cond (bit (maskAt Ps w.2) i) a false))) a) b
def QG (a:List Oper) (Ps:List Nat) (b:List (Nat×Nat)) (l:List Oper):Nat->Bool:=
 Ds (fun _=>true) (fun o _ e i=>cond (opsL o.op fun d=>fR (Nat.lor (MI d) (QF a o)) fun L=>JH Ps (maskAt Ps i) i L b) (e (Nat.succ i)) false) l
def Lm (l:List Oper):Nat->Nat->(List (Nat×Nat)->Bool)->Bool:=
 Ds (fun _ _ g=>g []) (fun o _ a i m g=>match o.dst with
  |none=>a (Nat.succ i) m g
  |some d=>cond (bit m d) false (fR (Nat.lor m (Fc d)) fun m=>a (Nat.succ i) m fun b=>g ((d,i)::b))) l
def YE (f:Bool) (b:List Oper) (Ps:List Nat) (l:List Nat):Nat->Nat->(Nat->Nat->Bool)->Bool:=
 Ds (fun done a g=>g done a) (fun i _ d done a g=>match nth b i with
  |none=>false
  |some o=>cond (both (not (bit done i)) (both (within (maskAt Ps i) done) (within a (maskAt Ps i))))
    (fR (Nat.lor done (Fc i)) fun done=>cond (acts f o) (fR (Nat.lor a (Fc i)) fun a=>d done a g) (d done a g)) false) l
def jQ (b:List Oper) (Ps:List Nat) (two:Option (Nat×Nat)) (done a:Nat) (g:Nat->Bool):Bool:=
 match two with
 |none=>g done
 |some (x,y)=>cond (both (both (Nat.ble (Nat.succ x) b.length) (Nat.ble (Nat.succ y) b.length)) (both (both (not (bit done x)) (both (within (maskAt Ps x) done) (within a (maskAt Ps x))))
   (both (both (not (bit done y)) (not (Nat.beq x y))) (both (within (maskAt Ps y) done) (within a (maskAt Ps y))))))
  (fR (Nat.lor done (Nat.lor (Fc x) (Fc y))) g) false
def JI (f:Bool) (a:List Oper) (Ps pi:List Nat) (two:Option (Nat×Nat)):Bool:=
 both (YE f a Ps pi 0 0 fun done b=>jQ a Ps two done b fun done=>Nat.beq (Nat.succ done) (Fc a.length))
  (Lm a 0 0 fun d=>QG a Ps d a 0)
def YF {R:Type} (l:List Nat) (g:List Nat->Option (Nat×Nat)->R):R:=
 Ue l [] fun r=>match r with
  |y::x::r=>Ue r [] fun l=>g l (some (x,y))
  |r=>Ue r [] fun l=>g l none
def planK (f:Bool) (a:List Oper):Option Fm:=
 Vt a [] fun Ps=>fN f a Ps 0 fun l=>Vu (Nat.succ a.length) l 0 [] fun pi=>cond (JI f a Ps pi none) (some ⟨Ps,pi,none⟩)
  (YF pi fun pi two=>cond (JI f a Ps pi two) (some ⟨Ps,pi,two⟩) none)
end
structure FP (c:Array Oper) (p:Fm):Prop where
 edge:∀i o,c[i]?=some o->∀j,bit (maskAt p.Ps i) j=true->∃e∈o.after,IY e=true/\(e.on=j∨bit (maskAt p.Ps e.on) j=true)
 on:∀i o,c[i]?=some o->∀e∈o.after,IY e=true->bit (maskAt p.Ps i) e.on=true
 nodup:p.full.Nodup
 lt:∀i∈p.full,i<c.size
 all:∀i,i<c.size->i∈p.full
 pred:∀pre i post,p.full=pre++i::post->∀j,bit (maskAt p.Ps i) j=true->j∈pre
 dst:∀(i j:Nat) oi oj d,c[i]?=some oi->c[j]?=some oj->oi.dst=some d->oj.dst=some d->i=j
 look:∀(i j:Nat) oi oj d,c[i]?=some oi->c[j]?=some oj->i≠j->oj.dst=some d->d∈oi.looksAt c->bit (maskAt p.Ps i) j=true∨bit (maskAt p.Ps j) i=true
structure MJ (f:Bool) (c:Array Oper) (p:Fm):Prop where
 eff:∀pre i post,p.pi=pre++i::post->∀o,c[i]?=some o->acts f o=true->∀j∈post++p.tail,bit (maskAt p.Ps j) i=true
 swap:∀x y,p.two=some (x,y)->FP c {p with two:=some (y,x)}
theorem Ss {R:Type}:∀(l:List Nat) (p:Nat) (g:List Nat->R),Vs l p g=g (l++[p])
 |[],p,g=>rfl
 |x::l,p,g=>by
  show Vs l p (fun l=>g (x::l))=_;rw[Ss l];rfl
theorem GX (Ps:List Nat) (i:Nat):maskAt Ps i=(Ps[i]?).getD 0:=by unfold maskAt;rw[FJ]
theorem Mi:∀(Ps:List Nat) (a:List Edge) (j:Nat),bit (K5 Ps a) j=true↔∃e∈a,IY e=true/\(e.on=j∨bit (maskAt Ps e.on) j=true)
 |Ps,[],j=>by
  have:K5 Ps []=0:=rfl;simp[this,JG]
 |Ps,e::a,j=>by
  have b:=Mi Ps a j;have h:K5 Ps (e::a)=cond (IY e) (Nat.lor (Nat.lor (maskAt Ps e.on) (Fc e.on)) (K5 Ps a)) (K5 Ps a):=rfl;rw[h]
  cases d:IY e with
  |false=>simp[b,d]
  |true=>
   simp only[cond_true,G6,FO,Cv,decide_eq_true_eq,b,Az,exists_eq_or_imp,d,true_and];constructor
   .grind
   .grind
def Uf (a:List Oper) (Ps:List Nat):Prop:=∀i o,i<Ps.length->a[i]?=some o->∃b,b.length=i/\(∃R,Ps=b++R)/\maskAt Ps i=K5 b o.after.toList
theorem Oa {R:Type} (b:List Oper):∀(l a:List Oper) (Ps:List Nat) (g:List Nat->R),b=a++l->Ps.length=a.length->Uf b Ps->∃d,Vt l Ps g=g d/\d.length=b.length/\Uf b d
 |[],a,Ps,g,h,hl,hm=>⟨Ps,rfl,by simp[h,hl],hm⟩
 |o::l,a,Ps,g,h,hl,hm=>by
  have e:Vt (o::l) Ps g=fR (K5 Ps o.after.toList) fun p=>Vs Ps p fun Ps=>Vt l Ps g:=rfl
  rw[e,Ll,Ss];refine Oa b l (a++[o]) _ g (by simp[h]) (by simp[hl]) fun i m n j=>?_
  by_cases e:i<Ps.length
  .have⟨q,q1,⟨R,q2⟩,q3⟩:=hm i m e j;exact⟨q,q1,⟨R++[K5 Ps o.after.toList],by rw[<-Hn,<-q2]⟩,by rw[<-q3,GX,GX,AW e]⟩
  .have k:i=Ps.length:=by simp at n;omega
   subst k;have:m=o:=by
    rw[h,hl,BR (Ai _)] at j;simpa using j.symm
   subst this;exact⟨Ps,rfl,⟨_,rfl⟩,by rw[GX];simp⟩
theorem Su {R:Type} {Pr:R->Prop} {f:Bool}:∀(a:List Oper) (Ps:List Nat) (i:Nat) (g:List Xw->R),(∀l,Pr (g l))->Pr (fN f a Ps i g)
 |[],Ps,i,g,h=>h []
 |o::a,[],i,g,h=>h []
 |o::a,P::Ps,i,g,h=>by
  refine Su a Ps _ _ fun l=>?_
  rw[Ll];cases acts f o<;>exact h _
theorem Mj {R:Type} {e:R->Prop}:∀(l:List Xw) (done:Nat) (b:List Nat) (g:List Xw->Nat->List Nat->R),(∀l d a,e (g l d a))->e (Sr l done b g)
 |[],d,a,g,h=>h _ _ _
 |x::l,d,a,g,h=>by
  show e (cond (both (not x.eff) (within x.P d)) (fR (Nat.lor d (Fc x.i)) fun d=>Sr l d (x.i::a) g) (Sr l d a fun r d a=>g (x::r) d a));cases both (not x.eff) (within x.P d)
  .exact Mj l _ _ _ fun _ _ _=>h _ _ _
  .rw[cond_true,Ll];exact Mj l _ _ _ h
theorem Sw {R:Type} {a:R->Prop}:∀(l:List Xw) (done:Nat) (g:Option Nat->List Xw->R),(∀o l,a (g o l))->a (bY l done g)
 |[],d,g,h=>h _ _
 |x::l,d,g,h=>by
  show a (cond (both x.eff (within x.P d)) (g (some x.i) l) (bY l d fun o r=>g o (x::r)));cases both x.eff (within x.P d)
  .exact Sw l _ _ fun _ _=>h _ _
  .exact h _ _
theorem JJ {R:Type} {d:R->Prop}:∀(l b:List Nat) (g:List Nat->R),(∀l,d (g l))->d (Ue l b g)
 |[],a,g,h=>h _
 |x::l,a,g,h=>JJ l (x::a) g h
theorem PG {R:Type} {Pr:R->Prop}:∀(n:Nat) (l:List Xw) (done:Nat) (b:List Nat) (g:List Nat->R),(∀l,Pr (g l))->Pr (Vu n l done b g)
 |0,l,d,a,g,h=>JJ a [] g h
 |n+1,l,d,a,g,h=>by
  show Pr (Sr l d a fun l done b=>bY l done fun o l=>match o with
   |none=>Ue b [] g
   |some i=>fR (Nat.lor done (Fc i)) fun done=>Vu n l done (i::b) g)
  refine Mj _ _ _ _ fun l d a=>Sw _ _ _ fun o l=>?_
  cases o with
  |none=>exact JJ a [] g h
  |some i=>simp[Ll];exact PG n _ _ _ g h
theorem PH {f:Bool} {c:Array Oper} {Ps:List Nat}:∀(l m:List Nat) (done d:Nat) (g:Nat->Nat->Bool),YE f c.toList Ps l done d g=true->
  (∀j,bit done j=true↔j∈m)->(∀j∈m,∀o,c[j]?=some o->acts f o=true->bit d j=true)->(∀j∈m,j<c.size)->m.Nodup->
  ∃r n,g r n=true/\(∀j,bit r j=true↔j∈m++l)/\(∀j∈m++l,∀o,c[j]?=some o->acts f o=true->bit n j=true)/\(∀j∈m++l,j<c.size)/\(m++l).Nodup/\
   (∀p i u,l=p++i::u->(∀j,bit (maskAt Ps i) j=true->j∈m++p)/\(∀j∈m++p,∀o,c[j]?=some o->acts f o=true->bit (maskAt Ps i) j=true))
 |[],m,done,d,g,h,hd,he,hlt,hn=>⟨done,d,h,by simpa using hd,by simpa using he,by simpa using hlt,by simpa using hn,fun p i u e=>by
   have:=congrArg List.length e;simp at this⟩
 |i::l,m,done,d,g,h,hd,he,hlt,hn=>by
  have C:(match nth c.toList i with
   |none=>false
   |some o=>cond (both (not (bit done i)) (both (within (maskAt Ps i) done) (within d (maskAt Ps i))))
    (fR (Nat.lor done (Fc i)) fun done=>cond (acts f o) (fR (Nat.lor d (Fc i)) fun d=>YE f c.toList Ps l done d g) (YE f c.toList Ps l done d g)) false)=true:=h
  rw[FJ,BP] at C
  cases D:c[i]? with
  |none=>rw[D] at C;cases C
  |some o=>
   rw[D] at C;have⟨O,B⟩:=Bs (show cond (both (not (bit done i)) (both (within (maskAt Ps i) done) (within d (maskAt Ps i)))) _ false=true from C);simp[BC,CL] at O;have⟨P,b2,b3⟩:=O;have G:i∉m:=fun Q=>by rw[(hd i).2 Q] at P;cases P
   have z:=(Ak.1 D).1;rw[Ll] at B;have H:∃n,YE f c.toList Ps l (Nat.lor done (Fc i)) n g=true/\∀j∈m++[i],∀o,c[j]?=some o->acts f o=true->bit n j=true:=by
    cases A:acts f o with
    |true=>
     rw[A,cond_true,Ll] at B;refine⟨_,B,fun j q y s t=>?_⟩;rw[G6,FO];rcases B0.1 q with q|q
     .rw[he j q y s t];rfl
     .simp at q;simp[q]
    |false=>
     rw[A,cond_false] at B;refine⟨_,B,fun j q y s t=>?_⟩;rcases B0.1 q with q|q
     .exact he j q y s t
     .simp at q;subst q;rw[D] at s;cases s;rw[A] at t;cases t
   have⟨n,R,J⟩:=H;have⟨r,v,g1,Z,L,Y,U,S⟩:=PH l (m++[i]) _ n g R (fun j=>by
    rw[G6,FO,Cv,hd j,B0];simp[eq_comm]) J (fun j q=>by
    rcases B0.1 q with q|q
    .exact hlt j q
    .simp at q;subst q;exact z) (by
    rw[CB];exact⟨hn,oS,fun a A b M=>by simp at M;subst M;intro e;subst e;exact G A⟩)
   refine⟨r,v,g1,fun j=>by rw[Z j];simp,fun j q=>L j (by simpa using q),fun j q=>Y j (by simpa using q),by simpa using U,fun p k u e=>?_⟩
   cases p with
   |nil=>
    obtain⟨rfl,rfl⟩:=e;simp[List.append_nil];exact⟨fun j q=>(hd j).1 (Gj b2 q),fun j q y s t=>Gj b3 (he j q y s t)⟩
   |cons x p=>
    obtain⟨rfl,rfl⟩:=e;have:=S p k u rfl;simpa using this
theorem Ia {b:List Oper}:∀(l a:List Oper) (m:Nat) (g:List (Nat×Nat)->Bool),b=a++l->Lm l a.length m g=true->
  ∃s,g s=true/\(∀i o d,a.length<=i->b[i]?=some o->o.dst=some d->(d,i)∈s)/\
   (∀i o d,a.length<=i->b[i]?=some o->o.dst=some d->bit m d=false)/\
   (∀i j n v d,a.length<=i->a.length<=j->b[i]?=some n->b[j]?=some v->n.dst=some d->v.dst=some d->i=j)
 |[],a,m,g,h,hk=>by
  have nil_:∀i:Nat,a.length<=i->b[i]?=none:=fun i k=>by rw[h];simp;exact k
  exact⟨[],hk,(fun i o d k p _=>by rw[nil_ i k] at p;cases p),(fun i o d k p _=>by rw[nil_ i k] at p;cases p),(fun i j n v d k D p _ _ _=>by rw[nil_ i k] at p;cases p)⟩
 |o::l,a,m,g,h,hk=>by
  have r:(match o.dst with
   |none=>Lm l (Nat.succ a.length) m g
   |some d=>cond (bit m d) false (fR (Nat.lor m (Fc d)) fun m=>Lm l (Nat.succ a.length) m fun s=>g ((d,a.length)::s)))=true:=hk
  have t:b=(a++[o])++l:=by simp[h]
  have u:(a++[o]).length=Nat.succ a.length:=oS
  cases G:o.dst with
  |none=>
   rw[G] at r;have⟨s,x,L,C,J⟩:=Ia l (a++[o]) m g t (by rw[u];exact r);refine⟨s,x,fun i n d k p q=>?_,fun i n d k p q=>?_,fun i j n v d k D z y B A=>?_⟩
   .grind
   .grind
   .grind
  |some d0=>
   rw[G] at r;have⟨M,H⟩:=Eh (show cond (bit m d0) false _=true from r);rw[Ll] at H;obtain⟨s,x,L,C,J⟩:=Ia l (a++[o]) _ _ t (by rw[u];exact H);have free:∀i n d,(a++[o]).length<=i->b[i]?=some n->n.dst=some d->d≠d0/\bit m d=false:=fun i n d k p q=>by
    have:=C i n d k p q;rw[G6,FO] at this;simp at this;exact⟨fun e=>this.2 e.symm,this.1⟩
   refine⟨(d0,a.length)::s,x,fun i n d k p q=>?_,fun i n d k p q=>?_,fun i j n v d k D z y B A=>?_⟩
   .grind
   .grind
   .grind
theorem PI:∀(l:List Operand) (t:Nat),bit (MI l) t=true↔Operand.tmp t∈l
 |[],t=>by
  have:MI []=0:=rfl;simp[this,JG]
 |x::l,t=>by
  have a:=PI l t;have e:MI (x::l)=(match x with| .tmp t=>Nat.lor (Fc t) (MI l)|_=>MI l):=rfl;rw[e]
  cases x with
  |tmp s=>
   simp only[G6,FO,Cv,decide_eq_true_eq,a,Az,Operand.tmp.injEq];constructor
   .grind
   .grind
  |_=>simp[a]
variable{c:Array Oper}
theorem Sx {o:Oper} {t:Nat} (h:t∈o.looksAt c):bit (Nat.lor (MI o.op.operands.toList) (QF c.toList o)) t=true:=by
 rw[G6,Cv,PI];rcases B0.1 h with h|h
 .grind
 .right;unfold QF;split at h
  .rename_i g b j;rw[j];simp only[FJ,BP]
   cases a:c[g]? with
   |none=>simp[a] at h
   |some i=>
    cases e:i.dst with
    |none=>simp[a,e] at h
    |some d=>
     simp[a,e] at h;subst h;show bit (match i.dst with|some d=>Fc d|none=>0) t=true;rw[e];show bit (Fc t) t=true;rw[FO];simp
  .simp at h
theorem MK {Ps:List Nat} {P i L:Nat}:∀{b:List (Nat×Nat)},JH Ps P i L b=true->∀d j,(d,j)∈b->bit L d=true->j=i∨bit P j=true∨bit (maskAt Ps j) i=true
 |[],_,d,j,h,_=>by simp at h
 |w::b,hk,d,j,h,hb=>by
  have a:cond (bit L w.1) (cond (Nat.beq w.2 i) (JH Ps P i L b) (cond (bit P w.2) (JH Ps P i L b) (cond (bit (maskAt Ps w.2) i) (JH Ps P i L b) false))) (JH Ps P i L b)=true:=hk;rcases Az.1 h with e|h
  .subst e;simp only[hb,cond_true] at a
   cases g:Nat.beq j i with
   |true=>exact .inl (Bh g)
   |false=>
    rw[g,cond_false] at a
    cases k:bit P j with
    |true=>exact .inr (.inl rfl)
    |false=>
     rw[k,cond_false] at a;exact .inr (.inr (Bs a).1)
  .have:JH Ps P i L b=true:=by
    revert a;cases bit L w.1<;>cases Nat.beq w.2 i<;>cases bit P w.2<;>cases bit (maskAt Ps w.2) i<;>simp
   exact MK this d j h hb
theorem Ln {c:Array Oper} {Ps:List Nat} {b:List (Nat×Nat)}:∀(l a:List Oper),c.toList=a++l->QG c.toList Ps b l a.length=true->
  ∀i o,a.length<=i->c[i]?=some o->∀d∈o.looksAt c,∀j,(d,j)∈b->j=i∨bit (maskAt Ps i) j=true∨bit (maskAt Ps j) i=true
 |[],a,h,hk,i,o,hi,ho=>by grind
 |o::l,a,h,hk,i,oi,hi,ho=>by
  have⟨q,p⟩:=Bs (show cond (opsL o.op fun k=>fR (Nat.lor (MI k) (QF c.toList o)) fun L=>JH Ps (maskAt Ps a.length) a.length L b) (QG c.toList Ps b l (Nat.succ a.length)) false=true from hk);by_cases e:i=a.length
  .subst e;have:oi=o:=by
    rw[<-BP,h] at ho;simpa using ho.symm
   subst this;intro d n j m;have g:=bZ q;rw[Ll] at g;exact MK g d j m (Sx n)
  .exact Ln l (a++[o]) (by simp[h]) (by simpa using p) i oi oT ho
theorem WN {R:Type} {Pr:R->Prop} (l:List Nat) (g:List Nat->Option (Nat×Nat)->R) (h:∀l t,Pr (g l t)):Pr (YF l g):=by
 refine JJ l [] _ fun r=>?_
 split<;>exact JJ _ [] _ fun l=>h l _
variable{Ps:List Nat}
theorem YG:∀{l:List Nat} (tail:List Nat),(∀p i b,l=p++i::b->∀j,bit (maskAt Ps i) j=true->j∈p)->
  (∀p i b,tail=p++i::b->∀j,bit (maskAt Ps i) j=true->j∈l++p)->∀p i b,l++tail=p++i::b->∀j,bit (maskAt Ps i) j=true->j∈p:=fun{l} tail k m p i b e j h=>by
 rcases List.append_eq_append_iff.1 e with⟨a,g,d⟩|⟨a,g,d⟩
 .grind
 .cases a with
  |nil=>grind
  |cons x a=>
   obtain⟨rfl,rfl⟩:=d;exact k p i a g j h
variable{f:Bool}
theorem Sy {pi:List Nat} {two:Option (Nat×Nat)} (a1:Ps.length=c.toList.length) (hm:Uf c.toList Ps) (G:JI f c.toList Ps pi two=true):FP c ⟨Ps,pi,two⟩/\MJ f c ⟨Ps,pi,two⟩:=by
 unfold JI at G;rw[BC] at G;have⟨O,M⟩:=G;have⟨done,B,d1,d2,Q,d3,d4,d5⟩:=PH pi [] 0 0 _ O (by simp[JG]) oS oS oS;have⟨ws,w1,w2,w3,w4⟩:=Ia c.toList [] 0 _ rfl M;have hl:=Ln c.toList [] rfl w1;have n:∀i o,c[i]?=some o->∃J,J.length=i/\(∃R,Ps=J++R)/\maskAt Ps i=K5 J o.after.toList:=fun i o r=>
  hm i o (by grind) (by grind)
 have edge:∀i o,c[i]?=some o->∀j,bit (maskAt Ps i) j=true->∃e∈o.after,IY e=true/\(e.on=j∨bit (maskAt Ps e.on) j=true):=fun i o r j k=>by
  have⟨J,q1,⟨R,q2⟩,q3⟩:=n i o r;rw[q3,Mi] at k;have⟨e,he,z,U⟩:=k;refine⟨e,by simpa using he,z,U.imp id fun q=>?_⟩;by_cases Z:e.on<J.length
  .rw[GX,q2,AW Z,<-GX];exact q
  .rw[GX,BX oO] at q;simp[JG] at q
 have on:∀i o,c[i]?=some o->∀e∈o.after,IY e=true->bit (maskAt Ps i) e.on=true:=fun i o r e he z=>by
  have⟨J,q1,_,q3⟩:=n i o r;rw[q3,Mi];exact⟨e,by simpa using he,z,.inl rfl⟩
 have dst:∀(i j:Nat) t s d,c[i]?=some t->c[j]?=some s->t.dst=some d->s.dst=some d->i=j:=
  fun i j t s d h1 h2=>w4 i j t s d oS oS (by grind) (by grind)
 have look:∀(i j:Nat) t s d,c[i]?=some t->c[j]?=some s->i≠j->s.dst=some d->d∈t.looksAt c->bit (maskAt Ps i) j=true∨bit (maskAt Ps j) i=true:=fun i j t s d h1 h2 Y hd a0=>by
  rcases hl i t oS h1 d a0 j (w2 j s d oS (by grind) hd) with e|e
  .exact absurd e.symm Y
  .exact e
 simp only[Jx] at d2 Q d3 d4 d5;have C:∀(tail:List Nat) (D:Nat),Nat.beq (Nat.succ D) (Fc c.toList.length)=true->(∀j,bit D j=true↔j∈pi++tail)->∀i,i<c.size->i∈pi++tail:=fun tail D e h i m=>by
  have e:=Bh e;have:D.testBit i=true:=by
   have e2:D=2^c.size- 1:=by
    have e3:Fc c.toList.length=2^c.size:=by
     show 1<<<_=_;rw[Nat.one_shiftLeft,Jz]
    rw[e3] at e;omega
   rw[e2,Nat.testBit_two_pow_sub_one];simpa using m
  rw[<-IX,h] at this;exact this
 have H:∀l i g,pi=l++i::g->∀o,c[i]?=some o->acts f o=true->∀j∈g,bit (maskAt Ps j) i=true:=fun l i g e o r A j k=>by
  obtain⟨q1,q2,rfl⟩:=List.append_of_mem k;exact(d5 (l++i::q1) j q2 (by rw[e];simp)).2 i oS o r A
 cases two with
 |none=>
  have d1:Nat.beq (Nat.succ done) (Fc c.toList.length)=true:=d1;refine⟨⟨edge,on,by simpa[Fm.full,Fm.tail] using d4,fun i m=>d3 i (by simpa[Fm.full,Fm.tail] using m),fun i m=>?_,fun l i g e j k=>?_,dst,look⟩,fun l i g e o r A j k=>?_,fun x y e=>by cases e⟩
  .have:=C [] done d1 (by simpa using d2) i m;simpa[Fm.full,Fm.tail] using this
  .exact(d5 l i g (by simpa[Fm.full,Fm.tail] using e)).1 j k
  .exact H l i g e o r A j (by simpa[Fm.tail] using k)
 |some xy=>
  have⟨x,y⟩:=xy;have d1:cond (both (both (Nat.ble (Nat.succ x) c.toList.length) (Nat.ble (Nat.succ y) c.toList.length)) (both (both (not (bit done x)) (both (within (maskAt Ps x) done) (within B (maskAt Ps x))))
   (both (both (not (bit done y)) (not (Nat.beq x y))) (both (within (maskAt Ps y) done) (within B (maskAt Ps y))))))
   (fR (Nat.lor done (Nat.lor (Fc x) (Fc y))) fun done=>Nat.beq (Nat.succ done) (Fc c.toList.length)) false=true:=d1
  have⟨c1,c2⟩:=Bs d1;simp only[BC,CL] at c1;have⟨⟨x0,y0⟩,⟨x1,x2,x3⟩,⟨y1,y2⟩,y3,y4⟩:=c1;have x0:x<c.size:=by have:=Gv x0;simpa using this
  have y0:y<c.size:=by have:=Gv y0;simpa using this
  have a3:x≠y:=fun e=>by subst e;simp at y2
  rw[Ll] at c2;have a4:x∉pi:=fun h=>by rw[(d2 x).2 h] at x1;cases x1
  have a2:y∉pi:=fun h=>by rw[(d2 y).2 h] at y1;cases y1
  have P:=C [x,y] _ c2 (fun j=>by
   rw[G6,G6,FO,FO];simp only[Cv,decide_eq_true_eq,d2 j,B0,Az,Dm,or_false];constructor
   .grind
   .rintro(h|h|h)
    .exact .inl h
    .exact .inr (.inl h.symm)
    .exact .inr (.inr h.symm))
  have px:∀j,bit (maskAt Ps x) j=true->j∈pi:=fun j k=>(d2 j).1 (Gj x2 k)
  have py:∀j,bit (maskAt Ps y) j=true->j∈pi:=fun j k=>(d2 j).1 (Gj y3 k)
  have mk:∀u v,(u=x/\v=y∨u=y/\v=x)->FP c ⟨Ps,pi,some (u,v)⟩:=fun u v S=>by
   have pu:∀j,bit (maskAt Ps u) j=true->j∈pi:=by grind
   have pv:∀j,bit (maskAt Ps v) j=true->j∈pi:=by grind
   have hu:u∉pi:=by grind
   have hv:v∉pi:=by grind
   have L:u≠v:=by grind
   refine⟨edge,on,?_,fun i m=>?_,fun i m=>?_,?_,dst,look⟩
   .show(pi++[u,v]).Nodup;rw[CB];refine⟨d4,by simp[L],fun a A b z=>?_⟩;simp at z;rcases z with rfl|rfl
    .exact fun e=>hu (e▸A)
    .exact fun e=>hv (e▸A)
   .have m:i∈pi++[u,v]:=m;simp at m;rcases m with m|rfl|rfl
    .exact d3 i m
    .grind
    .grind
   .show i∈pi++[u,v];have:=P i m;simp at this⊢;rcases S with⟨rfl,rfl⟩|⟨rfl,rfl⟩
    .exact this
    .grind
   .refine YG [u,v] (fun p i g e j k=>(d5 p i g e).1 j k) fun p i g e j k=>?_
    match p,e with
    |[],e=>
     simp at e;obtain⟨rfl,_⟩:=e;simpa using pu j k
    |[_],e=>
     simp at e;obtain⟨rfl,rfl,_⟩:=e;simp[pv j k]
    |_::_::_,e=>simp at e
  refine⟨mk x y (.inl ⟨rfl,rfl⟩),fun l i g e o r A j k=>?_,fun u v e=>?_⟩
  .rcases B0.1 k with k|k
   .grind
   .have m:i∈pi:=by
     have e:pi=l++i::g:=e;rw[e];simp
    have z:=Q i m o r A;have k:j∈[x,y]:=k;simp at k;rcases k with rfl|rfl
    .exact Gj x3 z
    .exact Gj y4 z
  .grind
theorem Ug {p:Fm} (h:planK f c.toList=some p):FP c p/\MJ f c p:=by
 unfold planK at h;have⟨Ps,m,d,j⟩:=Oa (R:=Option Fm) c.toList c.toList [] [] (fun Ps=>fN f c.toList Ps 0 fun l=>Vu (Nat.succ c.toList.length) l 0 [] fun pi=>cond (JI f c.toList Ps pi none) (some ⟨Ps,pi,none⟩)
  (YF pi fun pi two=>cond (JI f c.toList Ps pi two) (some ⟨Ps,pi,two⟩) none)) rfl rfl (fun i o k=>by simp at k)
 rw[m] at h;revert h;refine Su (Pr:=fun r=>r=some p->FP c p/\MJ f c p) _ _ _ _ fun l=>PG (Pr:=fun r=>r=some p->FP c p/\MJ f c p) _ _ _ _ _ fun pi=>?_
 have one:∀(pi:List Nat) (two:Option (Nat×Nat)) (r:Option Fm),(r=some p->FP c p/\MJ f c p)->cond (JI f c.toList Ps pi two) (some ⟨Ps,pi,two⟩) r=some p->FP c p/\MJ f c p:=fun pi two r g b=>by
  cases a:JI f c.toList Ps pi two with
  |false=>rw[a] at b;exact g b
  |true=>
   rw[a] at b;simp[cond_true,A0] at b;subst b;exact Sy d j a
 exact one pi none _ (WN (Pr:=fun r=>r=some p->FP c p/\MJ f c p) _ _ fun l t=>one l t none fun e=>by cases e)
section
section
variable{P:Program} {E:Env} {C:Ctx} (b:Em P E C)
include b
def YV (P:Program) (C:Ctx) (rd:Option Nat) (f:Array Oper) (o:Oper) (a:AF) (h:AH) (v:AV) (j:List ON) (i:AH):Prop:=
 ∀(e:BJ) (w:World) (act:Act) (K:Act->World->Prop) (Q:Exit->Act->World->Prop),BK C e h w->act.tmps.size=a.n->(∀t∈o.looksAt f,VR e (Dg a.tm t) (act.tmps.getD t undef))->
  TN e a.df act.defers->KW e rd->
  (∀(d:BJ) (c:Act) (z:Value) (g:World),e.le d->BK C d i g->c.tmps=act.tmps->TN d j c.defers->VR d v z->K (c.put o.dst z) g)->o.wpIn (Cd e rd) 0 P act w K Q
theorem SB (hH:Ep P E C) {rec:Rec} (b1:FZ P C rec) {rd:Option Nat} {a5:Array Oper} {o:Oper} {a:AF} {h:AH} {k:AF->AH->Bool} (Z:JN E rec rd o a h k=true):
  ∃v df h',put ⟨a.tm,a.n,df⟩ o.dst v (fun a=>k a h')=true/\YV P C rd a5 o a h v df h':=by
 have⟨y,n1,n2⟩:=narrow (o.looksAt a5) a.tm a.n;have S:=FQ b n1;have⟨Y,op,D,a2,s,guard⟩:=o;unfold JN at Z;split at Z
 ·
  rename_i f args a1 a6;subst a6;have R:Agree [f] a.tm y:=S.sub (by simp[Op.operands,Call.operands]);have O:Agree args.toList a.tm y:=S.sub (by intro x hx;simp[Op.operands,Call.operands];exact .inr (by simpa using hx));rw[BO R,Ip O] at Z;have⟨fv,h1,hf⟩:=BH b Z;have⟨vs,h2,hl,hv⟩:=Hi b h1;have⟨v,h',h3,b4⟩:=M4 b hH b1 h2;refine⟨v,a.df,h',h3,fun j w act K Q kr L M G b2 hK=>⟨Ge,?_⟩⟩;have J:=n2 j act.tmps L M;have m:Rc j y act.eval:=⟨fun t=>J.2 t,fun _=>rfl,fun _=>rfl,fun _=>rfl⟩;have ha:E8 j vs (args.toList.map act.eval):=⟨by simp[hl],fun i v x e1 U=>by
   rw[Bz] at U
   cases ho:args.toList[i]? with
   |none=>rw[ho] at U;cases U
   |some o=>rw[ho] at U;cases U;exact hv j h w act.eval kr m i v o e1 ho⟩
  have⟨d,hd,a7⟩:=b4 j rd w (act.eval f) (args.toList.map act.eval) kr (hf j h w act.eval kr m) ha;rw[Oper.semAt_eq _ _ _ (fun c e=>by cases e)];have B:(args.map act.eval)=(args.toList.map act.eval).toArray:=by apply Ch;simp
  have q:∀r w',(invoke d.target d.args).run P w= .ok r w'->(execOp act.eval ⟨Y,.call ⟨.value f,args,a1⟩,D,a2,s,guard⟩).run P w= .ok r w':=fun r w' hr=>by
   simp[execOp,resolve,B,Ay,hd,Am,hr]
  have next:∀e p,CP C j v h' e p->(match e with
    | .returned u=>K (act.put Y u) p
    | .panicked b0=>Q (.panic b0) act p
    | .outgrown=>LetsOut Q):=fun e p hc=>by
   obtain⟨x,a0,rfl,A,k',hx⟩:=hc;exact hK a0 act x p A k' rfl (G.mono A) hx
  rcases a7 with⟨g,xs,hi,a8⟩|⟨l,g,b7,b5,b8,hi,a3⟩
  .rw[q _ _ hi];exact⟨G0 j rd,a8.mono fun e p hc=>by have:=next e p hc;cases e<;>exact this⟩
  .rw[q _ _ hi];exact⟨G0 j rd,a3.mono fun e p hc=>by have:=next e p hc;cases e<;>exact this⟩
 ·
  rename_i f args a1 a6;subst a6
  cases rd with
  |some l=>exact absurd Z oS
  |none=>
   have R:Agree [f] a.tm y:=S.sub (by simp[Op.operands,Call.operands]);have O:Agree args.toList a.tm y:=S.sub (by intro x hx;simp[Op.operands,Call.operands];exact .inr (by simpa using hx));rw[BO R,Ip O] at Z;have⟨fv,h1,hf⟩:=BH b Z;have⟨vs,h2,hl,hv⟩:=Hi b h1;split at h2
   .rename_i f' first H
    refine⟨.tup [],_,h,h2,fun j w act K Q kr L M G b2 hK=>⟨Ge,?_⟩⟩;have J:=n2 j act.tmps L M;have m:Rc j y act.eval:=⟨fun t=>J.2 t,fun _=>rfl,fun _=>rfl,fun _=>rfl⟩;have ha:E8 j vs (args.toList.map act.eval):=⟨by simp[hl],fun i v x e1 U=>by
     rw[Bz] at U
     cases ho:args.toList[i]? with
     |none=>rw[ho] at U;cases U
     |some o=>rw[ho] at U;cases U;exact hv j h w act.eval kr m i v o e1 ho⟩
    have B:(args.map act.eval)=(args.toList.map act.eval).toArray:=by apply Ch;simp
    have:=(hf j h w act.eval kr m).conc oS;simp[conc] at this
    cases a4:B2 j first with
    |none=>rw[a4] at this;cases this
    |some fi=>
     cases a9:B2 j H with
     |none=>rw[a4,a9] at this;cases this
     |some ca=>
      rw[a4,a9] at this;simp[Dh,Bf,A0] at this;have q:(Oper.semAt (Cd j none).round act.eval ⟨Y,.defer ⟨.value f,args,a1⟩,D,a2,s,guard⟩).run P w=
        .ok (.defer {target:= .fn (.func f') ca.toArray,args:=(fi++args.toList.map act.eval).toArray}) w:=by
       show(execOp act.eval ⟨Y,.defer ⟨.value f,args,a1⟩,D,a2,s,guard⟩).run P w=_;simp only[execOp,resolve,B,<-this,Deferred.ofValue,Ay,AJ,Am];rw[Fb]
      rw[q];exact hK j {act with defers:={target:= .fn (.func f') ca.toArray,args:=(fi++args.toList.map act.eval).toArray}::act.defers} undef w (BJ.le.refl j) kr rfl
       ⟨.call ((E8.of_conc a4).append ha) a9,G⟩ (Gg j)
   .cases h2
 ·
  rename_i c0 b9;rw[Py S] at Z;have⟨v,h',h1,b6⟩:=Li b Z;refine⟨v,a.df,h',h1,fun j w act K Q kr L M G b2 hK=>⟨Ge,?_⟩⟩;have J:=n2 j act.tmps L M;have m:Rc j y act.eval:=⟨fun t=>J.2 t,fun _=>rfl,fun _=>rfl,fun _=>rfl⟩;have⟨a0,n,z,w',A,hr,k',hn,hz⟩:=b6 j w act.eval ⟨Y,op,D,a2,s,guard⟩ rfl kr m;have b3:∀c,op≠ .defer c:=fun c e=>by
   subst e;exact absurd (show false=true from Z) oD
  rw[Oper.semAt_eq _ _ _ b3,hr];rcases hn with rfl|⟨rfl,rfl⟩
  .exact hK a0 act z w' A k' rfl (G.mono A) hz
  .exact hK a0 act undef w' A k' rfl (G.mono A) hz
end
inductive EK where
 |skip
 |move
 |read
 |row (b:Nat) (cs:List AV) (e z:Nat)
structure En where
 i:Nat
 o:Oper
 tm:Tr AV
 v:AV
 kd:EK
noncomputable section
def JK (E:Env) (e:En) (h:AH):Bool:=
 match e.kd with
 | .skip=>true
 | .move=>true
 | .read=>DC E e.o.op e.tm h fun v a=>cond (Nat.beq a.nx h.nx) (VF v e.v) false
 | .row b c t z=>match h.m.get b with
  |some (.cells cs' t' z' false)=>both (U4 OZ cs' c) (both (Nat.beq t' t) (Nat.beq z' z))
  |_=>false
def EH (E:Env) (c:List En) (h:AH):Bool:=Ds true (fun e _ a=>cond (JK E e h) a false) c
def QJ (f:Bool) (E:Env) (d:List Oper) (i:Nat) (o:Oper) (a:AF) (h:AH) (g:En->AF->AH->Bool):Bool:=
 Ga d o a.tm fun w=>cond w
  (match cls f o.op with
   |0=>DC E o.op a.tm h fun v _=>put a o.dst v fun c=>g ⟨i,o,a.tm,v,.move⟩ c h
   |1=>DC E o.op a.tm h fun v _=>put a o.dst v fun c=>g ⟨i,o,a.tm,v,.read⟩ c h
   |2=>DC E o.op a.tm h fun v e=>match e.m.get h.nx with
    |some (.cells cs t z false)=>cond (Nat.beq e.nx (Nat.succ h.nx)) (put a o.dst v fun c=>g ⟨i,o,a.tm,v,.row h.nx cs t z⟩ c e) false
    |_=>false
   |_=>false)
  (put a o.dst (.tup []) fun c=>g ⟨i,o,a.tm,.tup [],.skip⟩ c h)
def Eg (P:Nat) (c:List En):List En:=Ds [] (fun e _ a=>cond (bit P e.i) a (e::a)) c
def bf (E:Env) (c:List Oper) (x y:Nat) (d:List En) (a:AF) (h:AH) (k:AF->AH->Bool):Bool:=
 match nth c x,nth c y with
 |some {dst:=none,op:= .store t1 (.tmp p1) (.tmp v1),guard:=none,..},some {dst:=none,op:= .store t2 (.tmp p2) (.tmp v2),guard:=none,..}=>
  match Dg a.tm p1,Dg a.tm p2 with
  | .ptr e f,.ptr b2 o2=>cond (Nat.beq e b2) false (cond (EH E d h)
    (FK E t1 e f (Dg a.tm v1) h fun j=>cond (EH E d j) (FK E t2 b2 o2 (Dg a.tm v2) j fun i=>cond (EH E d i)
     (FK E t2 b2 o2 (Dg a.tm v2) h fun g=>cond (EH E d g) (FK E t1 e f (Dg a.tm v1) g fun l=>cond (EH E d l) (k a i) false) false) false) false) false)
  |_,_=>false
 |_,_=>false
def Lu (g:Bool) (E:Env) (rec:Rec) (rd:Option Nat) (c:List Oper) (j:List Nat) (two:Option (Nat×Nat)) (l:List Nat):List En->AF->AH->(AF->AH->Bool)->Bool:=
 Ds (fun d a h k=>match two with
   |none=>cond (EH E d h) (k a h) false
   |some (x,y)=>bf E c x y d a h k)
  (fun i _ f d a h k=>match nth c i with
   |none=>false
   |some o=>cond (acts g o)
     (cond (EH E d h) (Ga c o a.tm fun w=>cond w (JN E rec rd o a h fun a h=>f (Eg (maskAt j i) d) a h k) (put a o.dst (.tup []) fun a=>f (Eg (maskAt j i) d) a h k)) false)
     (QJ g E c i o a h fun e a h=>f (e::d) a h k)) l
def drawn (E:Env):Vx:=fun rec rd c a h k=>cond
 (match planK false c with
 |some p=>Lu false E rec rd c p.Ps p.two p.pi [] a h k
 |none=>false) true
 (match planK true c with
 |some p=>Lu true E rec rd c p.Ps p.two p.pi [] a h k
 |none=>false)
end
end
section
variable{dst:Option Tmp}
theorem Kg {a:AF} {v:AV} {k:AF->Bool} (c:put a dst v k=true):∃b,k b=true/\b.n=a.n/\b.df=a.df/\
  (∀t,Dg b.tm t=if dst=some t then v else Dg a.tm t)/\∀d,dst=some d->d<a.n:=by
 unfold put at c;split at c
 .grind
 .rename_i d;have⟨f,j⟩:=Bs c;have f:=Gv f;have⟨tm,i,h⟩:=Tr.set_spec _ _ _ _ j;refine⟨_,i,rfl,rfl,fun t=>?_,fun l e=>by cases e;exact f⟩;unfold Dg;rw[h t];by_cases e:t=d
  .subst e;simp
  .grind
variable{act:Act} {z:Value}
theorem QR {t:Nat} (h:dst=some t) (a:t<act.tmps.size):(act.put dst z).tmps.getD t undef=z:=by
 subst h;show(act.tmps.setIfInBounds t z).getD t undef=z;simp[a]
theorem Jn {t:Nat} (h:dst≠some t):(act.put dst z).tmps.getD t undef=act.tmps.getD t undef:=by
 cases dst with
 |none=>rfl
 |some d=>
  have:d≠t:=fun e=>h (by rw[e])
  show(act.tmps.setIfInBounds d z).getD t undef=_;simp[Dy,this]
theorem TN.sub {k c:BJ} (h:k.sub c):∀{j:List ON} {f:List Deferred},TN k j f->TN c j f
 |[],[],_=>trivial
 |d::j,e::f,⟨h1,h2⟩=>⟨by
   cases h1 with
   |mark l=>exact .mark (h _ _ l)
   |call a b=>exact .call ⟨a.1,fun i v x n m=>(a.2 i v x n m).mono h⟩ (EU h _ _ b),TN.sub h h2⟩
 |[],_::_,h=>h.elim
 |_::_,[],h=>h.elim
theorem Tp:(act.put dst z).tmps.size=act.tmps.size:=by
 cases dst with
 |none=>rfl
 |some d=>show(act.tmps.setIfInBounds d z).size=_;simp
theorem Z6:(act.put dst z).defers=act.defers:=by cases dst<;>rfl
section
variable{P:Program} {E:Env} {C:Ctx}
def gP (C:Ctx) (P:Program) (E:Env) (a:Array Oper) (e:En):Prop:=
 match e.kd with
 | .skip=>Ga a.toList e.o e.tm (·==false)=true/\e.v= .tup []
 | .move=>Ga a.toList e.o e.tm (·==true)=true/\∀j (k:AV->AH->Bool),k e.v j=true->DC E e.o.op e.tm j k=true
 | .read=>Ga a.toList e.o e.tm (·==true)=true/\(JO e.o.op=true∨isRead e.o.op=true)
 | .row b m t _=>Ga a.toList e.o e.tm (·==true)=true/\
   ∀(h:BJ) (l:AH) (w:World) (act:Act),BK C h l w->(∀t∈e.o.looksAt a,VR h (Dg e.tm t) (act.tmps.getD t undef))->∃c i,B2 h m=some c/\
    (execOp act.eval e.o).run P w= .ok (.value i) (w.alloc (.cells c.toArray t))/\∀f:BJ,f b=some ⟨w.heap.size,0,0⟩->conc f e.v=some i
def En.rowOf (e:En):Option Nat:=match e.kd with| .row b _ _ _=>some b|_=>none
structure Hm (bs:Bool) (C:Ctx) (P:Program) (E:Env) (opsA:Array Oper) (Ps:List Nat) (pre:List Nat) (es:List En) (a:AF) (h:AH):Prop where
 at_:∀e∈es,opsA[e.i]?=some e.o/\e.i∈pre/\cls bs e.o.op≠3
 dst:∀e∈es,∀d,e.o.dst=some d->d<a.n/\Dg a.tm d=e.v
 ok:∀e∈es,gP C P E opsA e
 pair:∀k∈es,∀j∈es,bit (maskAt Ps k.i) j.i=true->∀t,j.o.dst=some t->t∈k.o.looksAt opsA->Dg k.tm t=j.v
 uniq:∀k∈es,∀j∈es,k.i=j.i->k=j
structure St (C:Ctx) (opsA:Array Oper) (Ps:List Nat) (pre:List Nat) (es:List En) (a:AF) (h:AH) (σ:BJ) (w:World) (act:Act) (D:List En) (g:Array Bool):Prop where
 hr:BK C σ h w
 size:act.tmps.size=a.n
 tm:∀t,(∀e∈D,e.o.dst≠some t)->VR σ (Dg a.tm t) (act.tmps.getD t undef)
 df:TN σ a.df act.defers
 looks:∀e∈D,∀t∈e.o.looksAt opsA,(∃j∈D,bit (maskAt Ps e.i) j.i=true/\j.o.dst=some t)∨VR σ (Dg e.tm t) (act.tmps.getD t undef)
 rows:∀e∈D,∀b,e.rowOf=some b->σ b=none/\b<σ.nx
 sub:∀e∈D,e∈es
 apart:∀k∈D,∀j∈D,∀b,k.rowOf=some b->j.rowOf=some b->k.i=j.i
 lsize:g.size=opsA.size
 told:∀i,i<opsA.size->(g.getD i false=true↔i∈pre/\∀e∈D,e.i≠i)
 closed:∀i,g.getD i false=true->∀j,bit (maskAt Ps i) j=true->g.getD j false=true
variable{g:Array Bool}
theorem MU {i:Nat} (a:i<g.size) (d:Bool):g.getD i d=g.getD i false:=by
 simp[a]
theorem Gp {a:Array Oper} {p:Fm} (m:FP a p) (r:∀i,g.getD i false=true->∀j,bit (maskAt p.Ps i) j=true->g.getD j false=true)
  {i:Nat} {o:Oper} (k:a[i]?=some o) (hr:i∈Region.ready .any a g):∀j,bit (maskAt p.Ps i) j=true->g.getD j false=true:=fun j n=>by
 have⟨_,t,b,f⟩:=mem_ready.1 hr;rw[k] at b;cases b;have⟨e,q,s,h⟩:=m.edge i o k j n;have l:=f e q (by rw[PF];exact s);rcases h with rfl|c
 .exact l
 .exact r _ l j c
theorem L4 (g:Array Bool) (i j:Nat) (a:i<g.size):(g.setIfInBounds i true).getD j false=(if i=j then true else g.getD j false):=by
 by_cases e:i=j
 .subst e;simp[a]
 .simp[DJ e,e]
open Classical in
theorem Z7 {b:Op} {tm:Tr AV} (a:JO b=true∨isRead b=true) {h:AH} {v:AV} (c:DC E b tm h (fun u e=>cond (Nat.beq e.nx h.nx) (VF u v) false)=true):
  DC E b tm h (fun u e=>VF u v&&decide (e=h))=true:=by
 rcases a with a|a
 .rw[U5 a] at c⊢;have i:(fun(u:AV) (_:AH)=>cond (Nat.beq h.nx h.nx) (VF u v) false)=fun u _=>VF u v:=by
   funext u _;simp
  have f:(fun(u:AV) (_:AH)=>VF u v&&decide (h=h))=fun u _=>VF u v:=by
   funext u _;simp
  rw[i] at c;rw[f];exact c
 .exact Xg a c
theorem KM:∀{b:List En} {h:AH},EH E b h=true->∀e∈b,JK E e h=true
 |[],h,_,e,a=>by simp at a
 |x::b,h,hk,e,a=>by
  have⟨f,c⟩:=Bs (show cond (JK E x h) (EH E b h) false=true from hk);rcases Az.1 a with rfl|a
  .exact f
  .exact KM c e a
variable(d:Em P E C)
include d
theorem perform {bs:Bool} {l:Array Oper} {p:Fm} {a0:List Nat} {es:List En} {a:AF} {h:AH} {y:BJ} {w:World} {D:List En}
  (a6:Hm bs C P E l p.Ps a0 es a h) (R:St C l p.Ps a0 es a h y w act D g) {e:En} (a7:e∈D) (n:JK E e h=true)
  (s:∀t∈e.o.looksAt l,VR y (Dg e.tm t) (act.tmps.getD t undef)) {rd:Option Nat} {K:Act->World->Prop} {Q:Exit->Act->World->Prop}
  {q:BJ} (k:q.le y) (Y:∀b,e.rowOf=some b->q.nx<=b)
  (hK:∀(j:BJ) (z:Value) (B:World),y.sub j->q.le j->BK C j h B->VR j e.v z->(∀b,y b=none->b<y.nx->e.rowOf≠some b->j b=none)->K (act.put e.o.dst z) B):
  wpOpIn (Cd q rd) 0 P l Q e.i K act w:=by
 classical
 have he:=R.sub e a7;have⟨b0,b4,a8⟩:=a6.at_ e he;have m:=a6.ok e he;have b3:∀c,e.o.op≠ .defer c:=fun c ec=>a8 (by rw[ec];cases bs<;>rfl)
 have go:∀(z:Value) (r:Next) (B:World) (j:BJ),Region.wanted e.o (yielded l act.tmps)=true->y.sub j->q.le j->(execOp act.eval e.o).run P w= .ok r B->BK C j h B->(r= .value z∨r= .skip/\z=undef)->VR j e.v z->
   (∀b,y b=none->b<y.nx->e.rowOf≠some b->j b=none)->wpOpIn (Cd q rd) 0 P l Q e.i K act w:=fun z r B j J A S hx kr hr hv U=>by
  unfold wpOpIn;rw[b0];simp[J,if_true];refine⟨Ge,?_⟩;rw[Oper.semAt_eq _ _ _ b3,hx];rcases hr with rfl|⟨rfl,rfl⟩
  .exact hK j z B A S kr hv U
  .exact hK j undef B A S kr hv U
 unfold gP at m;unfold JK at n
 cases H:e.kd with
 |skip=>
  rw[H] at m;have⟨h1,h2⟩:=m;have J:=Ke d h1 s;unfold wpOpIn;rw[b0];simp[J,Cm,if_false];exact⟨fun f _=>J8 q rd f,hK y undef w (BJ.sub.refl y) k R.hr (by rw[h2];exact Gg y) fun b U _ _=>U⟩
 |move=>
  rw[H] at m;have⟨h1,h2⟩:=m;have J:=Ke d h1 s;have⟨v,h',M,j,r,z,B,q1,q2,q3,q4,q5⟩:=dG d (h2 h (fun u h'=>decide (u=e.v/\h'=h)) oS) R.hr s;simp[decide_eq_true_eq] at M;obtain⟨rfl,rfl⟩:=M;exact go z r B j J q1.get (k.trans q1) q2 q3 q4 q5 fun b U L _=>q1.not b L U
 |read=>
  rw[H] at m n;have⟨h1,h2⟩:=m;have J:=Ke d h1 s;have⟨v,h',M,j,r,z,B,q1,q2,q3,q4,q5⟩:=dG d (Z7 h2 n) R.hr s;simp[AE,decide_eq_true_eq] at M;obtain⟨M,rfl⟩:=M;have:=O7 M;subst this;exact go z r B j J q1.get (k.trans q1) q2 q3 q4 q5 fun b U L _=>q1.not b L U
 |row b cs t zz=>
  rw[H] at m n;have⟨h1,M⟩:=m;have J:=Ke d h1 s;have G:e.rowOf=some b:=by unfold En.rowOf;rw[H]
  have⟨O,zz,q1,q2,q3⟩:=M y h w act R.hr s;have⟨a9,b6⟩:=R.rows e a7 b G;simp at n;split at n
  .rename_i b8 t' z' a5;simp only[BC] at n;have⟨a1,a2,a3⟩:=n;have a1:=Kh (fun _ _=>HG) a1;have a2:=beq_eq a2;subst a1 a2;have A:=BJ.sub_put ⟨w.heap.size,0,0⟩ a9;have b5:=R.hr.nx;have b1:=EU A _ _ q1;have k2:=R.hr.new_at a5 oO a9 0 0 (.cells O.toArray t') ⟨O.toArray,(0,0),F4 _ _,by simp[BT q1],fun i v hv=> .inr (by
    have⟨z,hz,Z⟩:=CG b1 i v hv;exact⟨z,by simpa using hz,Z⟩),fun _=> .inl rfl,fun _=>⟨rfl,by simp[BT q1]⟩⟩
   have b7:=Y b G;have a4:q.le (y.put b ⟨w.heap.size,0,0⟩):=⟨fun c x Z=>A c x (k.get c x Z),Bj k.nx (Nat.le_max_left _ _),fun c Z hn=>by
    rw[BJ.put_other _ oO];exact k.not c Z hn⟩
   refine go _ _ _ _ J A a4 q2 k2 (.inl rfl) (.inr (q3 _ (BJ.put_same _ _ _))) fun c Z L b2=>?_
   rw[BJ.put_other _ (fun e=>b2 (by rw[G,e]))];exact Z
  .cases n
end
end
section
theorem Qc {o:Type} {Pr:o->Prop} [DecidablePred Pr]:∀(l:List o),(∃i∈l,¬Pr i)->∃b i d,l=b++i::d/\(∀j∈b,Pr j)/\¬Pr i
 |[],⟨i,hi,_⟩=>by simp at hi
 |x::l,⟨i,hi,hn⟩=>by
  by_cases n:Pr x
  .have:i∈l:=by
    rcases Az.1 hi with rfl|h
    .exact absurd n hn
    .exact h
   have⟨b,j,d,e,s,r⟩:=Qc l ⟨i,this,hn⟩;exact⟨x::b,j,d,by rw[e];rfl,fun y k=>by
    rcases Az.1 k with rfl|k
    .exact n
    .exact s y k,r⟩
  .exact⟨[],x,l,rfl,oS,n⟩
theorem BJ.le_bump (m:BJ):m.le m.bump:=⟨fun _ _ h=>h,Nat.le_succ _,fun _ _ h=>h⟩
theorem Jk {P:Nat}:∀{es:List En} {e:En},e∈Eg P es↔e∈es/\bit P e.i=false
 |[],e=>by
  have:Eg P []=[]:=rfl;simp[this]
 |x::es,e=>by
  have b:=Jk (P:=P) (es:=es) (e:=e);have h:Eg P (x::es)=cond (bit P x.i) (Eg P es) (x::Eg P es):=rfl
  cases d:bit P x.i with
  |true=>grind
  |false=>
   constructor
   .grind
   .grind
section
variable{P:Program} {E:Env} {C:Ctx} {f:Array Oper} {p:Fm} (q:FP f p)
include q
variable{g rest:List Nat} {i:Nat}
theorem before (b:p.full=g++rest) (l:i∈g):∀j,bit (maskAt p.Ps i) j=true->j∈g:=fun j k=>by
 obtain⟨e,d,rfl⟩:=List.append_of_mem l;have:=q.pred e i (d++rest) (by rw[b];simp) j k;simp[this]
theorem Zu (k:i∈p.full):bit (maskAt p.Ps i) i=false:=by
 cases h:bit (maskAt p.Ps i) i with
 |false=>rfl
 |true=>
  have⟨j,d,e⟩:=List.append_of_mem k;have l:=q.pred j i d e i h;have b:=q.nodup;rw[e,CB] at b;exact absurd rfl (b.2.2 i l i oS)
variable{c:Array Bool}
theorem Zv (o:c.size=f.size) (h:∃i,i<f.size/\c.getD i false=false):Region.ready .any f c≠[]:=by
 have⟨i,s,r⟩:=h;have⟨n,j,l,e,u,y⟩:=Qc (Pr:=fun j=>c.getD j false=true) p.full ⟨i,q.all i s,by rw[r];simp⟩;have k:=q.lt j (by rw[e];simp);have b:j∈Region.ready .any f c:=by
  rw[mem_ready];refine⟨?_,f[j],by simp[k],fun x d t=>?_⟩
  .grind
  .exact u _ (q.pred n j l e _ (q.on j _ (by simp[k]) x d (by rw[<-PF];exact t)))
 intro v;rw[v] at b;simp at b
variable{es:List En} {a:AF} {h:AH} {m:BJ} {w:World} {act:Act}
theorem ready_nil (d:p.full=g) (j:St C f p.Ps g es a h m w act [] c):Region.ready .any f c=[]:=by
 cases k:Region.ready .any f c with
 |nil=>rfl
 |cons i l=>
  have r:i∈Region.ready .any f c:=by rw[k];simp
  have⟨e,o,n,_⟩:=mem_ready.1 r;have b:=(Ak.1 n).1;rw[MU (by rw[j.lsize];exact b)] at e;have:=(j.told i b).2 ⟨by rw[<-d];exact q.all i b,oS⟩;rw[this] at e;cases e
theorem EA {D:List En} (e:St C f p.Ps g es a h m w act D c) (k:i∈Region.ready .any f c):
  i<f.size/\c.getD i false=false:=by
 have⟨d,o,j,_⟩:=mem_ready.1 k;have b:=(Ak.1 j).1;rw[MU (by rw[e.lsize];exact b)] at d;exact⟨b,d⟩
variable(hE:Em P E C)
include hE
theorem stepD {bs:Bool} (b4:p.full=g++rest) {D:List En}
  (s:Hm bs C P E f p.Ps g es a h) (n:St C f p.Ps g es a h m w act D c) {e:En} (G:e∈D) (hr:e.i∈Region.ready .any f c) (b0:JK E e h=true)
  {rd:Option Nat} {K:Act->World->Prop} {Q:Exit->Act->World->Prop} {L:BJ} (a0:L.le m) (U:∀e∈D,∀b,e.rowOf=some b->L.nx<=b)
  (hK:∀(M:BJ) (w':World) (O:Act),L.le M->St C f p.Ps g es a h M w' O (D.filter fun x=>decide (x.i≠e.i)) (c.setIfInBounds e.i true)->K O w'):
  wpOpIn (Cd L rd) 0 P f Q e.i K act w:=by
 have he:=n.sub e G;have⟨a5,b1,b2⟩:=s.at_ e he;have⟨a1,b3⟩:=EA q n hr;have A:=Gp q n.closed a5 hr;have a6:∀j∈D,c.getD j.i false=false:=fun j B=>by
  have a8:=s.at_ j (n.sub j B);have a4:=(Ak.1 a8.1).1
  cases y:c.getD j.i false with
  |false=>rfl
  |true=>exact absurd rfl (((n.told j.i a4).1 y).2 j B)
 have a7:∀t∈e.o.looksAt f,VR m (Dg e.tm t) (act.tmps.getD t undef):=fun t R=>by
  rcases n.looks e G t R with⟨j,B,y,_⟩|h
  .grind
  .exact h
 have l:∀x,x∈D.filter (fun x=>decide (x.i≠e.i))↔x∈D/\x.i≠e.i:=fun x=>oS
 refine perform hE s n G b0 a7 a0 (fun b y=>U e G b y) fun M z w' Y a2 kr hv S=>?_
 have H:∀d,e.o.dst=some d->d<act.tmps.size/\Dg a.tm d=e.v:=fun d hd=>by
  rw[n.size];exact s.dst e he d hd
 refine hK M w' _ a2 ⟨kr,by rw[Tp];exact n.size,fun t R=>?_,by rw[Z6];exact n.df.sub Y,fun k hk t R=>?_,fun k hk b y=>?_,fun k hk=>n.sub k ((l k).1 hk).1,
  fun k hk j B=>n.apart k ((l k).1 hk).1 j ((l j).1 B).1,by simp[n.lsize],fun i hi=>?_,fun i hi j B=>?_⟩
 .by_cases r:e.o.dst=some t
  .rw[QR r (H t r).1,(H t r).2];exact hv
  .rw[Jn r];refine(n.tm t fun x hx=>?_).mono Y;by_cases J:x.i=e.i
   .rw[s.uniq x (n.sub x hx) e he J];exact r
   .exact R x ((l x).2 ⟨hx,J⟩)
 .have⟨u,Z⟩:=(l k).1 hk;have a3:=(s.at_ k (n.sub k u)).1;by_cases r:e.o.dst=some t
  .right;have y:bit (maskAt p.Ps k.i) e.i=true:=by
    rcases q.look k.i e.i k.o e.o t a3 a5 Z r R with y|y
    .exact y
    .have:=A k.i y;rw[a6 k u] at this;cases this
   rw[QR r (H t r).1,s.pair k (n.sub k u) e he y t r R];exact hv
  .rcases n.looks k u t R with⟨j,B,y,hd⟩|h
   .left;refine⟨j,(l j).2 ⟨B,fun J=>r ?_⟩,y,hd⟩;rw[<-s.uniq j (n.sub j B) e he J];exact hd
   .right;rw[Jn r];exact h.mono Y
 .have⟨u,Z⟩:=(l k).1 hk;have⟨h1,h2⟩:=n.rows k u b y;refine⟨S b h1 h2 fun a9=>Z (n.apart k u e G b y a9),?_⟩;have r:=kr.nx;have J:=n.hr.nx;omega
 .rw[L4 _ _ _ (by rw[n.lsize];exact a1)];by_cases r:e.i=i
  .grind
  .rw[if_neg r,n.told i hi];refine and_congr_right fun _=>⟨fun h x hx=>h x ((l x).1 hx).1,fun h x hx=>?_⟩
   by_cases J:x.i=e.i
   .rw[J];exact r
   .exact h x ((l x).2 ⟨hx,J⟩)
 .rw[L4 _ _ _ (by rw[n.lsize];exact a1)] at hi⊢;by_cases J:e.i=j
  .rw[if_pos J]
  .rw[if_neg J];by_cases r:e.i=i
   .subst r;exact A j B
   .rw[if_neg r] at hi;exact n.closed i hi j B
theorem inner {bs:Bool} {g rest:List Nat} (r:p.full=g++rest) {A:List En} {a:AF} {h:AH} (u:Hm bs C P E f p.Ps g A a h) (y:EH E A h=true) {rd:Option Nat} {Q:Exit->Act->World->Prop} {j:BJ}
  (M:∀(m:BJ) (w:World) (act:Act) (D:List En) (c:Array Bool) (d:Nat),j.le m->(∀e∈D,∀b,e.rowOf=some b->j.nx<=b)->St C f p.Ps g A a h m w act D c->rest.length+D.length<=d+1->
   ∀i∈Region.ready .any f c,i∉g->wpOpIn (Cd j rd) 0 P f Q i (wpAnyIn (Cd j rd) 0 P .any f Q d (c.setIfInBounds i true)) act w)
  (s:rest=[]->∀(m:BJ) (w:World) (act:Act) (c:Array Bool),j.le m->St C f p.Ps g A a h m w act [] c->Q .normal act w):
  ∀(n:Nat) (m:BJ) (w:World) (act:Act) (D:List En) (c:Array Bool) (d:Nat),D.length<=n->j.le m->(∀e∈D,∀b,e.rowOf=some b->j.nx<=b)->St C f p.Ps g A a h m w act D c->rest.length+D.length<=d->
   wpAnyIn (Cd j rd) 0 P .any f Q d c act w
 |n,m,w,act,D,c,d,hn,hbase,hrow0,st,hf=>by
  by_cases Y:rest=[]/\D=[]
  .obtain⟨rfl,rfl⟩:=Y;exact wpAnyIn_done (ready_nil q (by simpa using r) st) (s rfl m w act c hbase st) d
  .have O:∃i,i<f.size/\c.getD i false=false:=by
    cases hD:D with
    |cons e D'=>
     have o:e∈D:=by rw[hD];simp
     have l:=(Ak.1 (u.at_ e (st.sub e o)).1).1;refine⟨e.i,l,?_⟩
     cases U:c.getD e.i false with
     |false=>rfl
     |true=>exact absurd rfl (((st.told e.i l).1 U).2 e o)
    |nil=>
     cases k:rest with
     |nil=>exact absurd ⟨k,hD⟩ Y
     |cons x L=>
      have l:=q.lt x (by rw[r,k];simp);refine⟨x,l,?_⟩
      cases U:c.getD x false with
      |false=>rfl
      |true=>
       have z:=((st.told x l).1 U).1;have G:=q.nodup;rw[r,k,CB] at G;exact absurd rfl (G.2.2 x z x oS)
   have S:=Zv q st.lsize O
   cases d with
   |zero=>
    exfalso;have z:rest=[]:=List.length_eq_zero_iff.1 oO;have G:D=[]:=List.length_eq_zero_iff.1 oO;exact Y ⟨z,G⟩
   |succ d=>
    refine⟨fun z=>absurd z S,fun i hi=>?_⟩;by_cases t:i∈g
    .have⟨l,hl⟩:=EA q st hi;have:∃e∈D,e.i=i:=by
      apply Classical.byContradiction;intro R;have:=(st.told i l).2 ⟨t,fun e he e1=>R ⟨e,he,e1⟩⟩;rw[hl] at this;cases this
     obtain⟨e,o,rfl⟩:=this;have Z:(D.filter fun x=>decide (x.i≠e.i)).length<D.length:=by
      rw[List.length_filter_lt_length_iff_exists];exact⟨e,o,oS⟩
     refine stepD q hE r u st o hi (KM y e (st.sub e o)) hbase hrow0 fun H w' B v J=>?_
     cases n with
     |zero=>omega
     |succ n=>
      exact inner r u y M s n H w' B _ _ d oO v (fun x M=>hrow0 x (GF.1 M).1) J oO
    .grind
end
end
section
section
variable{P:Program} {E:Env} {C:Ctx} (r:Em P E C)
include r
variable{s:Bool} {o:Oper} {a:AF} {h:AH}
theorem TW {l:Array Oper} {i:Nat} {g:En->AF->AH->Bool} (G:QJ s E l.toList i o a h g=true):
  ∃e c B,g e c B=true/\e.i=i/\e.o=o/\e.tm=a.tm/\c.n=a.n/\c.df=a.df/\(∀t,Dg c.tm t=if o.dst=some t then e.v else Dg a.tm t)/\(∀d,o.dst=some d->d<a.n)/\
   gP C P E l e/\(e.rowOf=none/\B=h∨∃m M,e.rowOf=some h.nx/\h.m.Put h.nx M m/\B=⟨m,h.nx+1⟩):=by
 unfold QJ at G;have⟨b,q,A⟩:=PL G
 cases b with
 |false=>
  have⟨c,f,q1,q2,q3,q4⟩:=Kg (show put a o.dst (.tup []) (fun c=>g ⟨i,o,a.tm,.tup [],.skip⟩ c h)=true from q);exact⟨_,c,h,f,rfl,rfl,rfl,q1,q2,q3,q4,⟨A (·==false) rfl,rfl⟩,.inl ⟨rfl,rfl⟩⟩
 |true=>
  simp only[cond_true] at q;split at q
  .rename_i u;have J:Mg o.op=true:=by
    revert u;unfold cls;cases s<;>cases isSlice o.op<;>cases PM o.op<;>cases Mg o.op<;>cases JO o.op<;>cases isRead o.op<;>decide
   have L:=q;have⟨v,f,r2⟩:=Yp J L;have⟨c,y,q1,q2,q3,q4⟩:=Kg f;exact⟨_,c,h,y,rfl,rfl,rfl,q1,q2,q3,q4,⟨A (·==true) rfl,r2⟩,.inl ⟨rfl,rfl⟩⟩
  .rename_i u;have D:JO o.op=true∨isRead o.op=true:=by
    revert u;unfold cls;cases s<;>cases isSlice o.op<;>cases PM o.op<;>cases Mg o.op<;>cases JO o.op<;>cases isRead o.op<;>decide
   have⟨v,B,f,_⟩:=Li r q;have⟨c,y,q1,q2,q3,q4⟩:=Kg f;exact⟨_,c,h,y,rfl,rfl,rfl,q1,q2,q3,q4,⟨A (·==true) rfl,D⟩,.inl ⟨rfl,rfl⟩⟩
  .rename_i u;have H:PM o.op=true:=by
    revert u;unfold cls;cases s<;>cases isSlice o.op<;>cases PM o.op<;>cases Mg o.op<;>cases JO o.op<;>cases isRead o.op<;>decide
   obtain⟨v,O,e,z,m,f,j,k⟩:=new_at r H q;simp only at f;rw[j h.nx,if_pos rfl] at f;simp only[Nat.succ_eq_add_one,cond_true,show Nat.beq (h.nx+1) (h.nx+1)=true from by simp] at f;have⟨c,y,q1,q2,q3,q4⟩:=Kg f;exact⟨_,c,_,y,rfl,rfl,rfl,q1,q2,q3,q4,⟨A (·==true) rfl,k⟩,.inr ⟨m,_,rfl,j,rfl⟩⟩
  .cases q
variable{l:Array Oper} {p:Fm} (n:FP l p)
include n
variable{pre rest:List Nat} {x:Nat}
omit r in
theorem Hm.act (u:p.full=pre++x::rest) (J:l[x]?=some o) {q:List En} {D:AF} {Q:AH} (c:Hm s C P E l p.Ps pre q a h) {v:AV}
  (L:D.n=a.n) (H:∀t,Dg D.tm t=if o.dst=some t then v else Dg a.tm t):Hm s C P E l p.Ps (pre++[x]) (Eg (maskAt p.Ps x) q) D Q:=by
 have b:∀e∈Eg (maskAt p.Ps x) q,e∈q:=fun e f=>(Jk.1 f).1
 have g:x∉pre:=fun M=>by
  have m:=n.nodup;rw[u,CB] at m;exact absurd rfl (m.2.2 x M x oS)
 refine⟨fun e f=>?_,fun e f d G=>?_,fun e f=>c.ok e (b e f),fun k y j z=>c.pair k (b k y) j (b j z),fun k y j z=>c.uniq k (b k y) j (b j z)⟩
 .have⟨B,m,A⟩:=c.at_ e (b e f);exact⟨B,by simp[m],A⟩
 .have⟨B,m⟩:=c.dst e (b e f) d G;have⟨A,O,_⟩:=c.at_ e (b e f);refine⟨by rw[L];exact B,?_⟩;rw[H d,if_neg fun R=>g ?_]
  .exact m
  .rw[<-n.dst e.i x e.o o d A J G R];exact O
omit r in
theorem St.act {s:Bool} {q rest:List Nat} {x:Nat} {o:Oper} (R:p.full=q++x::rest) (ho:l[x]?=some o) {es:List En} {a a':AF} {h h1:AH} {σ u:BJ} {w w':World} {act B:Act} {D:List En} {f:Array Bool}
  (M:Hm s C P E l p.Ps q es a h) (c:St C l p.Ps q es a h σ w act D f) (hr:x∈Region.ready .any l f) {v:AV} {z:Value} (H:σ.le u) (kr:BK C u h1 w') (G:B.tmps=act.tmps) (a1:TN u a'.df B.defers)
  (hv:VR u v z) (hn:a'.n=a.n) (ht:∀t,Dg a'.tm t=if o.dst=some t then v else Dg a.tm t) (hd:∀d,o.dst=some d->d<a.n):
  St C l p.Ps (q++[x]) (Eg (maskAt p.Ps x) es) a' h1 u w' (B.put o.dst z) D (f.setIfInBounds x true):=by
 have⟨S,a3⟩:=EA n c hr;have g:=Gp n c.closed ho hr;have y:x∉q:=fun hm=>by
  have Q:=n.nodup;rw[R,CB] at Q;exact absurd rfl (Q.2.2 x hm x oS)
 have A:∀e∈D,e.i∈q:=fun e Z=>(M.at_ e (c.sub e Z)).2.1
 refine⟨kr,by rw[Tp,G,hn];exact c.size,fun t hD=>?_,by rw[Z6];exact a1,fun k L t U=>?_,fun k L b O=>?_,fun e Z=>?_,c.apart,by simp[c.lsize],fun i Y=>?_,fun i Y j hj=>?_⟩
 .by_cases m:o.dst=some t
  .rw[QR m (by rw[G,c.size];exact hd t m),ht t,if_pos m];exact hv
  .rw[Jn m,ht t,if_neg m,G];exact(c.tm t hD).mono H.get
 .have J:=(M.at_ k (c.sub k L)).1;rcases c.looks k L t U with h|h
  .exact .inl h
  .right;have m:o.dst≠some t:=fun m=>by
    have a0:k.i≠x:=fun e=>y (e▸A k L)
    rcases n.look k.i x k.o o t J ho a0 m U with O|O
    .exact y (before n R (A k L) x O)
    .have Q:=g k.i O;exact absurd rfl (((c.told k.i (Ak.1 J).1).1 Q).2 k L)
   rw[Jn m,G];exact h.mono H.get
 .have⟨q1,q2⟩:=c.rows k L b O;exact⟨H.not b q2 q1,Bx q2 H.nx⟩
 .refine Jk.2 ⟨c.sub e Z,?_⟩
  cases O:bit (maskAt p.Ps x) e.i with
  |false=>rfl
  |true=>
   have Q:=g e.i O;have a2:=(M.at_ e (c.sub e Z)).1;exact absurd rfl (((c.told e.i (Ak.1 a2).1).1 Q).2 e Z)
 .rw[L4 _ _ _ (by rw[c.lsize];exact S)];by_cases m:x=i
  .grind
  .rw[if_neg m,c.told i Y];simp[Ne.symm m]
 .rw[L4 _ _ _ (by rw[c.lsize];exact S)] at Y⊢;by_cases e2:x=j
  .rw[if_pos e2]
  .rw[if_neg e2];by_cases m:x=i
   .subst m;exact g j hj
   .rw[if_neg m] at Y;exact c.closed i Y j hj
variable{rec:Rec} {rd:Option Nat} {t:Nat}
omit n in
theorem Yt (y:Ep P E C) (c:FZ P C rec) {e d:Nat} {m:TypeId} {pos:String} {after:Array Edge} {f:AH} {b o:Nat} (u:Dg a.tm e= .ptr b o)
  (q:∀g:AH->Bool,g f=true->FK E t b o (Dg a.tm d) h g=true):∃v,YV P C rd l {dst:=none,op:= .store t (.tmp e) (.tmp d),type:=m,pos:=pos,after:=after,guard:=none} a h v a.df f:=by
 classical
 have j:JN E rec rd {dst:=none,op:= .store t (.tmp e) (.tmp d),type:=m,pos:=pos,after:=after,guard:=none} a h (fun k i=>decide (i=f/\k=a))=true:=by
  show DC E (.store t (.tmp e) (.tmp d)) a.tm h (fun v i=>put a none v fun k=>decide (i=f/\k=a))=true;simp only[DC,LX,u];exact q _ (by unfold put;simp)
 obtain⟨v,z,i,q1,q2⟩:=SB r y c j;unfold put at q1;simp only[decide_eq_true_eq] at q1;obtain⟨rfl,q1⟩:=q1;have:z=a.df:=by grind
 subst this;exact⟨v,q2⟩
omit r n in
theorem BK.ext {g:BJ} {f:AH} {w:World} (k:BK C g h w) (e:∀b,f.m.get b=h.m.get b) (i:f.nx=h.nx):BK C g f w:=
 ⟨k.below,k.base,k.glob,fun b q=>k.fresh b oO,by rw[i];exact k.nx,fun b o x d=>k.obj b o x (by rw[<-e];exact d),fun b o x d=>k.own b o x (by rw[<-e];exact d),
  fun b c o p x y d j=>k.apart b c o p x y (by rw[<-e];exact d) (by rw[<-e];exact j)⟩
omit r n in
theorem P8:∀{b:List En} {h:AH},(∀e∈b,JK E e h=true)->EH E b h=true
 |[],h,_=>rfl
 |x::b,h,hk=>by
  show cond (JK E x h) (EH E b h) false=true;rw[hk x oS];exact P8 fun e c=>hk e (by simp[c])
theorem JZ (hH:Ep P E C) (J:FZ P C rec) {U S:Nat} {Z:TypeId} {pos:String} {after:Array Edge}
  (B:p.full=pre++x::rest) (Y:l[x]?=some {dst:=none,op:= .store t (.tmp U) (.tmp S),type:=Z,pos:=pos,after:=after,guard:=none}) {es:List En} {a:AF} {h h1:AH} {b o:Nat} (G:Dg a.tm U= .ptr b o)
  (hk:∀g:AH->Bool,g h1=true->FK E t b o (Dg a.tm S) h g=true) (O:Hm s C P E l p.Ps pre es a h)
  {A H:BJ} {w:World} {act:Act} {D:List En} {c:Array Bool} {Q:Exit->Act->World->Prop} {K:Act->World->Prop} (j:A.le H) (L:KW A rd) (y:St C l p.Ps pre es a h H w act D c) (hi:x∈Region.ready .any l c)
  (hK:∀(m:BJ) (R:World) (k:Act),H.le m->St C l p.Ps (pre++[x]) (Eg (maskAt p.Ps x) es) a h1 m R k D (c.setIfInBounds x true)->K k R):wpOpIn (Cd A rd) 0 P l Q x K act w:=by
 have f:x∉pre:=fun hm=>by
  have h2:=n.nodup;rw[B,CB] at h2;exact absurd rfl (h2.2.2 x hm x oS)
 obtain⟨v,a2⟩:=Yt r hH J G hk;have a4:∀u∈({dst:=none,op:= .store t (.tmp U) (.tmp S),type:=Z,pos:=pos,after:=after,guard:=none}:Oper).looksAt l,VR H (Dg a.tm u) (act.tmps.getD u undef):=fun u hu=>y.tm u fun e he e1=>by
  have q:=(O.at_ e (y.sub e he));have a3:x≠e.i:=fun e2=>f (e2▸q.2.1)
  have G:bit (maskAt p.Ps x) e.i=true:=by
   rcases n.look x e.i _ e.o u Y q.1 a3 e1 hu with G|G
   .exact G
   .exact absurd (before n B q.2.1 x G) f
  have:=Gp n y.closed Y hi e.i G;exact absurd rfl (((y.told e.i (Ak.1 q.1).1).1 this).2 e he)
 unfold wpOpIn;rw[Y];have a0:Region.wanted ({dst:=none,op:= .store t (.tmp U) (.tmp S),type:=Z,pos:=pos,after:=after,guard:=none}:Oper) (yielded l act.tmps)=true:=rfl;simp only[a0,if_true];have a5:=ES j L;rw[<-a5];refine a2 H w act _ _ y.hr y.size a4 y.df (L.mono j) fun m k z R M kr a1 a6 hv=>hK m R _ M (St.act n B Y O y hi M kr a1 a6 hv rfl (fun u=>oS) (fun d e=>by cases e))
omit r n in
theorem KD:∀(o:Nat) (b l:List AV),(∀g,DL o b l g=false)∨∃r,∀g,DL o b l g=g r
 |0,[],l=> .inr ⟨l,fun g=>rfl⟩
 |0,v::b,[]=> .inl fun g=>rfl
 |0,v::b,u::l=>by
  have e:∀g,DL 0 (v::b) (u::l) g=cond (Jv v) (DL 0 b l fun r=>g (v::r)) false:=fun g=>rfl
  cases c:Jv v with
  |false=>left;intro g;rw[e,c];rfl
  |true=>
   rcases KD 0 b l with h|⟨r,h⟩
   .left;intro g;rw[e,c,cond_true,h]
   .right;exact⟨v::r,fun g=>by rw[e,c,cond_true,h]⟩
 |o+1,b,[]=> .inl fun g=>rfl
 |o+1,b,u::l=>by
  have e:∀g,DL (o+1) b (u::l) g=DL o b l fun r=>g (u::r):=fun g=>rfl
  rcases KD o b l with h|⟨r,h⟩
  .left;intro g;rw[e,h]
  .right;exact⟨u::r,fun g=>by rw[e,h]⟩
omit r n in
theorem Yu {c:Type}:∀(f k:Nat) (x:c),(∀g,Tr.one f k x g=false)∨∃m,∀g,Tr.one f k x g=g m
 |0,k,x=> .inl fun g=>rfl
 |f+1,0,x=> .inr ⟨_,fun g=>rfl⟩
 |f+1,k+1,x=>by
  have e:∀g,Tr.one (f+1) (k+1) x g=Tr.one f (k/4) x (fun t=>sw (k%4) (g (.node none t .leaf .leaf .leaf)) (g (.node none .leaf t .leaf .leaf)) (g (.node none .leaf .leaf t .leaf)) (g (.node none .leaf .leaf .leaf t))):=fun g=>rfl
  rcases Yu f (k/4) x with h|⟨m,h⟩
  .left;intro g;rw[e,h]
  .have b:k%4=0∨k%4=1∨k%4=2∨k%4=3:=oO;right;rcases b with b|b|b|b
   .exact⟨_,fun g=>by rw[e,h,b];rfl⟩
   .exact⟨_,fun g=>by rw[e,h,b];rfl⟩
   .exact⟨_,fun g=>by rw[e,h,b];rfl⟩
   .exact⟨_,fun g=>by rw[e,h,b];rfl⟩
omit r n in
theorem ek {y:Type}:∀(t:Tr y) (k:Nat) (x:y),(∀g,t.set k x g=false)∨∃m,∀g,t.set k x g=g m:=by
 intro t
 induction t with
 |leaf=>intro k x;exact Yu 20 k x
 |node v a b c d u q j i=>
  intro k x
  cases k with
  |zero=>exact .inr ⟨_,fun g=>rfl⟩
  |succ k=>
   have e:∀g,(Tr.node v a b c d).set (k+1) x g=sw (k%4) (a.set (k/4) x fun t=>g (.node v t b c d)) (b.set (k/4) x fun t=>g (.node v a t c d))
    (c.set (k/4) x fun t=>g (.node v a b t d)) (d.set (k/4) x fun t=>g (.node v a b c t)):=fun g=>rfl
   have f:k%4=0∨k%4=1∨k%4=2∨k%4=3:=oO;rcases f with f|f|f|f
   .rcases u (k/4) x with h|⟨m,h⟩
    .left;intro g;rw[e,f];exact h _
    .right;exact⟨_,fun g=>by rw[e,f];exact h _⟩
   .rcases q (k/4) x with h|⟨m,h⟩
    .left;intro g;rw[e,f];exact h _
    .right;exact⟨_,fun g=>by rw[e,f];exact h _⟩
   .rcases j (k/4) x with h|⟨m,h⟩
    .left;intro g;rw[e,f];exact h _
    .right;exact⟨_,fun g=>by rw[e,f];exact h _⟩
   .rcases i (k/4) x with h|⟨m,h⟩
    .left;intro g;rw[e,f];exact h _
    .right;exact⟨_,fun g=>by rw[e,f];exact h _⟩
omit r n in
theorem IQ {b o:Nat} {v:AV} {g:AH->Bool} (i:FK E t b o v h g=true):∃q e z c y,h.m.get b=some (.cells q e z false)/\h.m.Put b (.cells c e z false) y.m/\y.nx=h.nx/\g y=true/\
  (∀f:AH->Bool,f y=true->FK E t b o v h f=true)/\∀f:List AV->Bool,DL o (cellsOf v) q f=f c:=by
 have hk0:=i;unfold FK at i
 cases A:E.ty.get t with
 |none=>rw[A] at i;cases i
 |some D=>
  rw[A] at i;have⟨H,d⟩:=Bs (show cond (Nat.beq (cellsOf v).length D.size) (aG h b o (cellsOf v) g) false=true from i);unfold aG at d;split at d
  .rename_i q e z G;rcases KD o (cellsOf v) q with k|⟨c,k⟩
   .rw[k] at d;cases d
   .rw[k] at d;rcases ek h.m b (AO.cells c e z false) with j|⟨m,j⟩
    .rw[j] at d;cases d
    .have⟨u,q1,q2⟩:=Tr.set_spec h.m b (AO.cells c e z false) (fun u=>@decide (u=m) (Classical.propDecidable _)) (by rw[j];simp);have:u=m:=by simpa using q1
     subst this;rw[j] at d;refine⟨q,e,z,c,⟨u,h.nx⟩,G,q2,rfl,d,fun f B=>?_,k⟩;unfold FK;rw[A];show cond (Nat.beq (cellsOf v).length D.size) (aG h b o (cellsOf v) f) false=true;rw[H,cond_true];unfold aG;rw[G];simp only[k,j];exact B
  .cases d
theorem bO (hH:Ep P E C) (Z:FZ P C rec) {y:Nat} (H:p.full=pre++[x,y]) {p2:Fm} (J:FP l p2) (i7:p2.Ps=p.Ps) (g:p2.full=pre++[y,x])
  {es:List En} {a:AF} {h:AH} {k:AF->AH->Bool} (hk:bf E l.toList x y es a h k=true) (a0:Hm s C P E l p.Ps pre es a h):∃h',k a h'=true/\
   ∀(A O:BJ) (w:World) (act:Act) (D:List En) (d:Array Bool) (f:Nat),A.le O->KW A rd->(∀e∈D,∀b,e.rowOf=some b->A.nx<=b)->
   St C l p.Ps pre es a h O w act D d->2+D.length<=f->wpAnyIn (Cd A rd) 0 P .any l (AP C A .normal a h') f d act w:=by
 unfold bf at hk;simp only[FJ,BP] at hk;split at hk
 .rename_i t1 p1 v1 j5 j3 g6 t2 k0 v2 j4 j2 g5 b0 a9;split at hk
  .rename_i b1 o1 b2 o2 e6 e5;have⟨M,hk⟩:=Eh hk;have M:b1≠b2:=fun e=>by subst e;simp at M
   have⟨i6,hk⟩:=Bs hk;have⟨j1,e1,z1,a5,h1,i3,c6,j9,c0,i2,i1⟩:=IQ hk;have⟨g1,c0⟩:=Bs c0;have⟨j0,e2,z2,a4,h2,c5,i0,j8,b9,h9,h8⟩:=IQ c0;have⟨g0,b9⟩:=Bs b9;have⟨i9,e3,z3,g4,h3,h7,c4,j7,b8,h6,h5⟩:=IQ b9;have⟨e9,b8⟩:=Bs b8;have⟨i8,e4,z4,g3,h4,c3,h0,j6,g9,g8,g7⟩:=IQ b8;have⟨e8,c9⟩:=Bs g9;have ext:∀b,h2.m.get b=h4.m.get b:=fun b=>by
    rw[c6 b2,if_neg (Ne.symm M),h7] at c5;obtain⟨rfl,rfl,rfl⟩:i9=j0/\e3=e2/\z3=z2:=by simpa using c5
    rw[c4 b1,if_neg M,i3] at c3;obtain⟨rfl,rfl,rfl⟩:j1=i8/\e1=e4/\z1=z4:=by simpa using c3
    have d1:a4=g4:=by
     classical
     have:=(h8 fun c=>decide (c=a4)).symm.trans (h5 fun c=>decide (c=a4));simpa[eq_comm] using this
    have d2:a5=g3:=by
     classical
     have:=(i1 fun c=>decide (c=a5)).symm.trans (g7 fun c=>decide (c=a5));simpa[eq_comm] using this
    subst d1 d2;rw[i0 b,h0 b,c6 b,c4 b];by_cases q1:b=b1
    .subst q1;simp[M]
    .grind
   have hn:h2.nx=h4.nx:=oO;have G:∀{h:AH} {P:Nat} {es:List En},EH E es h=true->EH E (Eg P es) h=true:=fun hh=>P8 fun e he=>KM hh e (Jk.1 he).1
   refine⟨h2,c9,fun A O w act D d f Y a8 Q B hf=>?_⟩;have g2:∀(q:Fm) (hq:FP l q) (u v:Nat) (b3:List En) (hh:AH),q.full=(pre++[u])++[v]->Hm s C P E l q.Ps ((pre++[u])++[v]) b3 a hh->EH E b3 hh=true->(∀b,h2.m.get b=hh.m.get b)->h2.nx=hh.nx->
     ∀(O:BJ) (w:World) (act:Act) (D:List En) (d:Array Bool) (f:Nat),A.le O->(∀e∈D,∀b,e.rowOf=some b->A.nx<=b)->St C l q.Ps ((pre++[u])++[v]) b3 a hh O w act D d->D.length<=f->
     wpAnyIn (Cd A rd) 0 P .any l (AP C A .normal a h2) f d act w:=fun q hq u v b3 hh c7 L e7 e0 i5 O w act D d f Y Q B hf=>by
    refine inner hq r (by simpa using c7) L e7 (fun O w act D d f hb R B hf i hi c1=>?_) (fun _ O w act d hb B=>?_) D.length O w act D d f (Ai _) Y Q B (by simpa using hf)
    .exfalso;have U:=(EA hq B hi).1;have:=hq.all i U;rw[c7] at this;exact c1 this
    .exact⟨rfl,O,hb,B.hr.ext e0 i5,⟨⟨B.size,fun t=>B.tm t oS⟩,B.df⟩⟩
   refine inner n r H a0 i6 (fun O w act D d f hb R B hf i hi c1=>?_) (fun e=>by cases e) D.length O w act D d f (Ai _) Y Q B (by simpa using hf);have U:=(EA n B hi).1;have hm:=n.all i U;rw[H] at hm;have c8:i=x∨i=y:=by
    rcases B0.1 hm with hm|hm
    .exact absurd hm c1
    .simpa using hm
   have i4:∀u∈(pre++[x]),u∈pre++[x]:=fun u h=>h
   rcases c8 with rfl|rfl
   .refine JZ r n hH Z H b0 e6 i2 a0 hb a8 B hi fun b5 w1 a7 a2 b7=>?_
    have z:Hm s C P E l p.Ps (pre++[i]) (Eg (maskAt p.Ps i) es) a h1:=Hm.act n H b0 a0 (v:= .bad) rfl (fun t=>oS);refine inner n r (rest:=[y]) (by simp[H]) z (G g1) (fun O w act D d f a3 R B hf j hj S=>?_) (fun e=>by cases e) D.length b5 w1 a7 D _ f (Ai _) (hb.trans a2) R b7 (by simp at hf⊢;omega);have U:=(EA n B hj).1;have hm:=n.all j U;rw[H] at hm;have c2:j=y:=by
     simp at hm S;rcases hm with h|h|h
     .exact absurd h S.1
     .exact absurd h S.2
     .exact h
    subst c2;refine JZ r n hH Z (pre:=pre++[i]) (rest:=[]) (by simp[H]) a9 e5 h9 z a3 a8 B hj fun b4 w2 a6 a1 b6=>?_
    have L:Hm s C P E l p.Ps ((pre++[i])++[j]) (Eg (maskAt p.Ps j) (Eg (maskAt p.Ps i) es)) a h2:=Hm.act n (rest:=[]) (by simp[H]) a9 z (v:= .bad) rfl (fun t=>oS);exact g2 p n i j _ h2 (by simp[H]) L (G (G g0)) (fun _=>rfl) rfl b4 w2 a6 D _ f (a3.trans a1) R b6 (by simp at hf;omega)
   .rw[<-i7] at B a0;refine JZ r J hH Z g a9 e5 h6 a0 hb a8 B hi fun b5 w1 a7 a2 b7=>?_
    have z:Hm s C P E l p2.Ps (pre++[i]) (Eg (maskAt p2.Ps i) es) a h3:=Hm.act J (rest:=[x]) g a9 a0 (v:= .bad) rfl (fun t=>oS);refine inner J r (rest:=[x]) (by simp[g]) z (G e9) (fun O w act D d f a3 R B hf j hj S=>?_) (fun e=>by cases e) D.length b5 w1 a7 D _ f (Ai _) (hb.trans a2) R b7 (by simp at hf⊢;omega);have U:=(EA J B hj).1;have hm:=J.all j U;rw[g] at hm;have c2:j=x:=by
     simp at hm S;rcases hm with h|h|h
     .exact absurd h S.1
     .exact absurd h S.2
     .exact h
    subst c2;refine JZ r J hH Z (pre:=pre++[i]) (rest:=[]) (by simp[g]) b0 e6 g8 z a3 a8 B hj fun b4 w2 a6 a1 b6=>?_
    have L:Hm s C P E l p2.Ps ((pre++[i])++[j]) (Eg (maskAt p2.Ps j) (Eg (maskAt p2.Ps i) es)) a h4:=Hm.act J (rest:=[]) (by simp[g]) b0 z (v:= .bad) rfl (fun t=>oS);exact g2 p2 J i j _ h4 (by simp[g]) L (G (G e8)) ext hn b4 w2 a6 D _ f (a3.trans a1) R b6 (by simp at hf;omega)
  .cases hk
 .cases hk
theorem Lh {s:Bool} (a5:MJ s l p) (hH:Ep P E C) {rec:Rec} (a4:FZ P C rec) {rd:Option Nat}:∀(rest pre:List Nat),p.pi=pre++rest->∀(es:List En) (a:AF) (h:AH) (k:AF->AH->Bool),Lu s E rec rd l.toList p.Ps p.two rest es a h k=true->
  Hm s C P E l p.Ps pre es a h->∃a' h',k a' h'=true/\∀(M J:BJ) (w:World) (act:Act) (D:List En) (c:Array Bool) (q:Nat),M.le J->KW M rd->(∀e∈D,∀b,e.rowOf=some b->M.nx<=b)->
   St C l p.Ps pre es a h J w act D c->(rest++p.tail).length+D.length<=q->wpAnyIn (Cd M rd) 0 P .any l (AP C M .normal a' h') q c act w
 |[],pre,Q,es,a,h,k,g,hes=>by
  have Q:p.pi=pre:=by simpa using Q
  cases Z:p.two with
  |none=>
   have L:p.full=pre++[]:=by simp[Fm.full,Fm.tail,Z,Q]
   have⟨b7,hk2⟩:=Bs (show cond (EH E es h) (k a h) false=true from by rw[Z] at g;exact g);refine⟨a,h,hk2,fun M J w act D c q G R H u hf=>inner n r L hes b7 (fun J w act D c q A b5 u hf i hi a7=>?_) (fun _ J w act c A u=>?_) D.length J w act D c q (Ai _) G H u (by grind)⟩
   .exfalso;have b0:=(EA n u hi).1;have:=n.all i b0;rw[L] at this;exact a7 (by simpa using this)
   .exact⟨rfl,J,A,u.hr,⟨⟨u.size,fun t=>u.tm t oS⟩,u.df⟩⟩
  |some xy=>
   have⟨x,y⟩:=xy;have L:p.full=pre++[x,y]:=by simp[Fm.full,Fm.tail,Z,Q]
   have hk2:bf E l.toList x y es a h k=true:=by rw[Z] at g;exact g
   obtain⟨h',q1,q2⟩:=bO r n hH a4 L (a5.swap x y Z) rfl (by simp[Fm.full,Fm.tail,Q]) hk2 hes;exact⟨a,h',q1,fun M J w act D c q G R H u hf=>q2 M J w act D c q G R H u (by simp[Fm.tail,Z] at hf;omega)⟩
 |x::rest,pre,Q,es,a,h,k,g,hes=>by
  have L:p.full=pre++x::(rest++p.tail):=by simp[Fm.full,Q]
  have a3:(match nth l.toList x with
   |none=>false
   |some o=>cond (acts s o)
     (cond (EH E es h) (Ga l.toList o a.tm fun w=>cond w (JN E rec rd o a h fun a h=>Lu s E rec rd l.toList p.Ps p.two rest (Eg (maskAt p.Ps x) es) a h k) (put a o.dst (.tup []) fun a=>Lu s E rec rd l.toList p.Ps p.two rest (Eg (maskAt p.Ps x) es) a h k)) false)
     (QJ s E l.toList x o a h fun e a h=>Lu s E rec rd l.toList p.Ps p.two rest (e::es) a h k))=true:=g
  have b2:p.pi=(pre++[x])++rest:=by simp[Q]
  have B:x∉pre:=fun hm=>by
   have h2:=n.nodup;rw[L,CB] at h2;exact absurd rfl (h2.2.2 x hm x oS)
  rw[FJ,BP] at a3
  cases ho:l[x]? with
  |none=>rw[ho] at a3;cases a3
  |some o=>
   rw[ho] at a3;simp only at a3
   cases a2:acts s o with
   |true=>
    rw[a2] at a3;have⟨b7,hk2⟩:=Bs (show cond (EH E es h) _ false=true from a3);have⟨b,S,hw⟩:=PL hk2;have only:∀(J:BJ) (w:World) (act:Act) (D:List En) (c:Array Bool),St C l p.Ps pre es a h J w act D c->∀i∈Region.ready .any l c,i∉pre->i=x:=fun J w act D c u i hi a7=>by
     have⟨b0,hl⟩:=EA n u hi;have hm:=n.all i b0;rw[L] at hm;rcases B0.1 hm with hm|hm
     .exact absurd hm a7
     .rcases Az.1 hm with rfl|hm
      .rfl
      .exfalso;have⟨_,oi,e7,_⟩:=mem_ready.1 hi;have A:=a5.eff pre x rest Q o ho a2 i hm;have:=Gp n u.closed e7 hi x A;have c4:=(Ak.1 ho).1;exact B ((u.told x c4).1 this).1
    cases b with
    |true=>
     obtain⟨v,df,h1,e9,e4⟩:=SB r hH a4 (show JN E rec rd o a h (fun a h=>Lu s E rec rd l.toList p.Ps p.two rest (Eg (maskAt p.Ps x) es) a h k)=true from S);obtain⟨a1,c1,q1,q2,q3,q4⟩:=Kg e9;have⟨a',h',b3,a0⟩:=Lh a5 hH a4 rest (pre++[x]) b2 _ a1 h1 k c1 (Hm.act n L ho hes q1 q3);refine⟨a',h',b3,fun M J w act D c q G R H u hf=>inner n r L hes b7 (fun J w act D c q A b5 u hf i hi a7=>?_) (fun e=>by cases e) D.length J w act D c q (Ai _) G H u hf⟩;have:=only J w act D c u i hi a7;subst this;have Y:∀t∈o.looksAt l,VR J (Dg a.tm t) (act.tmps.getD t undef):=fun t ht=>u.tm t fun e he e1=>by
      have U:=(hes.at_ e (u.sub e he));have a8:i≠e.i:=fun e2=>B (e2▸U.2.1)
      have A:bit (maskAt p.Ps i) e.i=true:=by
       rcases n.look i e.i o e.o t ho U.1 a8 e1 ht with A|A
       .exact A
       .exact absurd (before n L U.2.1 i A) B
      have:=Gp n u.closed ho hi e.i A;exact absurd rfl (((u.told e.i (Ak.1 U.1).1).1 this).2 e he)
     have b9:=Ke r (hw (·==true) rfl) Y;unfold wpOpIn;rw[ho];simp only[b9,if_true];have c6:=ES A R;rw[<-c6];refine e4 J w act _ _ u.hr u.size Y u.df (R.mono A) fun c9 g2 z w' a9 kr e0 g1 hv=>?_
     rw[c6];exact a0 M c9 w' _ D _ q (A.trans a9) R b5 (St.act n L ho hes u hi a9 kr e0 (by rw[q2];exact g1) hv q1 q3 q4) (by simp only[BU,DA] at hf;omega)
    |false=>
     have⟨a1,c1,q1,q2,q3,q4⟩:=Kg (show put a o.dst (.tup []) (fun a=>Lu s E rec rd l.toList p.Ps p.two rest (Eg (maskAt p.Ps x) es) a h k)=true from S);have⟨a',h',b3,a0⟩:=Lh a5 hH a4 rest (pre++[x]) b2 _ a1 h k c1 (Hm.act n L ho hes q1 q3);refine⟨a',h',b3,fun M J w act D c q G R H u hf=>inner n r L hes b7 (fun J w act D c q A b5 u hf i hi a7=>?_) (fun e=>by cases e) D.length J w act D c q (Ai _) G H u hf⟩;have:=only J w act D c u i hi a7;subst this;have Y:∀t∈o.looksAt l,VR J (Dg a.tm t) (act.tmps.getD t undef):=fun t ht=>u.tm t fun e he e1=>by
      have U:=(hes.at_ e (u.sub e he));have a8:i≠e.i:=fun e2=>B (e2▸U.2.1)
      have A:bit (maskAt p.Ps i) e.i=true:=by
       rcases n.look i e.i o e.o t ho U.1 a8 e1 ht with A|A
       .exact A
       .exact absurd (before n L U.2.1 i A) B
      have:=Gp n u.closed ho hi e.i A;exact absurd rfl (((u.told e.i (Ak.1 U.1).1).1 this).2 e he)
     have b9:=Ke r (hw (·==false) rfl) Y;unfold wpOpIn;rw[ho];simp only[b9,Cm,if_false];exact⟨fun f _=>J8 M rd f,a0 M J w _ D _ q A R b5 (St.act n L ho hes u hi (BJ.le.refl J) u.hr rfl (by rw[q2];exact u.df) (Gg J) q1 q3 q4) (by simp only[BU,DA] at hf;omega)⟩
   |false=>
    rw[a2,cond_false] at a3;have⟨e,a1,h1,hk2,e1,e2,e3,q1,q2,q3,q4,e6,c5⟩:=TW r a3;have c8:cls s e.o.op≠3:=fun hc=>by
     rw[e2] at hc;unfold acts at a2;rw[hc] at a2;exact absurd a2 oD
    have c7:Hm s C P E l p.Ps (pre++[x]) (e::es) a1 h1:=by
     have b6:∀k∈es,k.i∈pre:=fun k g=>(hes.at_ k g).2.1
     refine⟨fun k g=>?_,fun k g d hd=>?_,fun k g=>?_,fun k g j O A t hd Y=>?_,fun k g j O he=>?_⟩
     .rcases Az.1 g with rfl|g
      .exact⟨by rw[e1,e2];exact ho,by rw[e1];simp,c8⟩
      .have⟨r1,r2,r3⟩:=hes.at_ k g;exact⟨r1,by simp[r2],r3⟩
     .rw[q1];rcases Az.1 g with rfl|g
      .rw[e2] at hd;exact⟨q4 d hd,by rw[q3 d,if_pos hd]⟩
      .have⟨r1,r2⟩:=hes.dst k g d hd;refine⟨r1,?_⟩;rw[q3 d,if_neg fun hx=>B ?_]
       .exact r2
       .rw[<-n.dst k.i x k.o o d (hes.at_ k g).1 ho hd hx];exact b6 k g
     .rcases Az.1 g with rfl|g
      .exact e6
      .exact hes.ok k g
     .rcases Az.1 g with rfl|S
      .rcases Az.1 O with rfl|O
       .rw[e1] at A;rw[Zu n (by rw[L];simp)] at A;cases A
       .rw[e3];exact(hes.dst j O t hd).2
      .rcases Az.1 O with rfl|O
       .rw[e1] at A;exact absurd (before n L (b6 k S) x A) B
       .exact hes.pair k S j O A t hd Y
     .rcases Az.1 g with rfl|S
      .rcases Az.1 O with rfl|O
       .rfl
       .exact absurd (by rw[<-e1,he];exact b6 j O) B
      .rcases Az.1 O with rfl|O
       .exact absurd (by rw[<-e1,<-he];exact b6 k S) B
       .exact hes.uniq k S j O he
    have⟨a',h',b3,a0⟩:=Lh a5 hH a4 rest (pre++[x]) b2 (e::es) a1 h1 k hk2 c7;refine⟨a',h',b3,fun M J w act D c q G R H u hf=>?_⟩;have b4:∀k∈D,k.i∈pre:=fun k g=>(hes.at_ k (u.sub k g)).2.1
    have mk:∀a6:BJ,J.le a6->(∀b,a6 b=J b)->J.nx<=a6.nx->BK C a6 h1 w->(∀b,e.rowOf=some b->b=h.nx/\b<a6.nx)->St C l p.Ps (pre++[x]) (e::es) a1 h1 a6 w act (e::D) c:=fun a6 a9 b1 e8 kr c0=>by
     refine⟨kr,by rw[q1];exact u.size,fun t ht=>?_,by rw[q2];exact u.df.mono a9,fun k g t Y=>?_,fun k g b A=>?_,fun k g=>?_,fun k g j O b c3 c2=>?_,u.lsize,fun i hi=>?_,u.closed⟩
     .have h0:o.dst≠some t:=by have:=ht e oS;rwa [e2] at this
      rw[q3 t,if_neg h0];exact(u.tm t fun k g=>ht k (by simp[g])).mono a9.get
     .rcases Az.1 g with rfl|g
      .rw[e2] at Y;by_cases O:∃j∈D,j.o.dst=some t
       .have⟨j,O,hd⟩:=O;have U:=(hes.at_ j (u.sub j O)).1;have a8:x≠j.i:=fun e5=>B (e5▸b4 j O)
        refine .inl ⟨j,by simp[O],?_,hd⟩;rw[e1];rcases n.look x j.i o j.o t ho U a8 hd Y with A|A
        .exact A
        .exact absurd (before n L (b4 j O) x A) B
       .right;rw[e3];exact(u.tm t fun j g0 hd=>O ⟨j,g0,hd⟩).mono a9.get
      .rcases u.looks k g t Y with⟨j,O,A,hd⟩|h5
       .exact .inl ⟨j,by simp[O],A,hd⟩
       .exact .inr (h5.mono a9.get)
     .rcases Az.1 g with rfl|g
      .have⟨r1,r2⟩:=c0 b A;refine⟨?_,r2⟩;rw[b1,r1];exact u.hr.fresh _ (Ai _)
      .have⟨r1,r2⟩:=u.rows k g b A;exact⟨by rw[b1];exact r1,oO⟩
     .rcases Az.1 g with rfl|g
      .simp
      .simp[u.sub k g]
     .have b0:∀k∈D,∀b,k.rowOf=some b->b<h.nx:=fun k g b A=>by
       have:=(u.rows k g b A).2;rw[u.hr.nx] at this;exact this
      rcases Az.1 g with rfl|S
      .rcases Az.1 O with rfl|O
       .rfl
       .have r1:=(c0 b c3).1;have r2:=b0 j O b c2;omega
      .rcases Az.1 O with rfl|O
       .have r1:=(c0 b c2).1;have r2:=b0 k S b c3;omega
       .exact u.apart k S j O b c3 c2
     .rw[u.told i hi];constructor
      .rintro⟨r1,r2⟩;refine⟨by simp[r1],fun k g=>?_⟩;rcases Az.1 g with rfl|g
       .rw[e1];exact fun e5=>B (e5▸r1)
       .exact r2 k g
      .rintro⟨r1,r2⟩;have a8:x≠i:=by have:=r2 e oS;rwa [e1] at this
       refine⟨?_,fun k g=>r2 k (by simp[g])⟩;simpa[Ne.symm a8] using r1
    have b8:(rest++p.tail).length+(e::D).length<=q:=by grind
    rcases c5 with⟨r1,r2⟩|⟨m,ao,r1,r2,r3⟩
    .refine a0 M J w act (e::D) c q G R (fun k g b A=>?_) (mk J (BJ.le.refl J) (fun _=>rfl) (Ai _) (by rw[r2];exact u.hr) fun b A=>by rw[r1] at A;cases A) b8;rcases Az.1 g with rfl|g
     .rw[r1] at A;cases A
     .exact H k g b A
    .have e8:=u.hr.nx;refine a0 M J.bump w act (e::D) c q (G.trans (BJ.le_bump J)) R (fun k g b A=>?_) (mk J.bump (BJ.le_bump J) (fun _=>rfl) (Nat.le_succ _) (by rw[r3];exact u.hr.more r2) fun b A=>?_) b8
     .rcases Az.1 g with rfl|g
      .rw[r1] at A;cases A;have:=G.nx;omega
      .exact H k g b A
     .rw[r1] at A;cases A;exact⟨rfl,by show h.nx<J.nx+1;omega⟩
end
theorem RX:∀{n:Nat} {l:List Nat},l.Nodup->(∀i∈l,i<n)->l.length<=n
 |0,[],_,_=>Ai _
 |0,x::l,_,h=>absurd (h x oS) oO
 |n+1,l,hn,h=>by
  have:=RX (n:=n) (hn.erase n) fun i b=>by
   have c:=(hn.mem_erase_iff).1 b;have:=h i c.2;omega
  rw[List.length_erase] at this;split at this<;>omega
variable{s:Bool} {rec:Rec} {rd:Option Nat} {a:AF} {h:AH}
theorem Vj {P:Program} {E:Env} {C:Ctx} (r:Em P E C) (B:Ep P E C) (A:P.follows .mixedOrders=true) (c:FZ P C rec) {id:Nat} {l:Array Oper} {k:AF->AH->Bool}
  (v:(match planK s l.toList with
 |some p=>Lu s E rec rd l.toList p.Ps p.two p.pi [] a h k
 |none=>false)=true):∃j g,k j g=true/\RE P C rd (.code (.region id l true)) a h .normal j g:=by
 split at v
 .rename_i p u;have⟨n,e⟩:=Ug u;have⟨j,g,D,z⟩:=Lh r n e B c p.pi [] rfl [] a h k v ⟨oS,oS,oS,oS,oS⟩;refine⟨j,g,D,fun m w act y b q=>wpIn_region_any A ?_⟩;have d:(p.pi++p.tail).length<=l.size:=RX n.nodup n.lt;refine z m m _ act [] _ l.size (BJ.le.refl m) q oS ⟨y.drew,b.tm.1,fun t _=>b.tm.2 t,b.df,oS,oS,oS,oS,oS,fun i f=>?_,fun i f=>?_⟩ (by simpa using d)
  .simp[f]
  .exfalso;by_cases h:i<l.size
   .simp[h] at f
   .simp[h] at f
 .cases v
theorem RY {P:Program} {E:Env} {C:Ctx} (r:Em P E C) (f:Ep P E C) (d:P.follows .mixedOrders=true):QK P C (drawn E):=fun rec b rd id l a h k e=>by
 unfold drawn at e;rcases Ex e with⟨c,_⟩|⟨_,c⟩
 .exact Vj r f d b c
 .exact Vj r f d b c
end
noncomputable section
def lmap {e c:Type} (f:e->c) (l:List e):List c:=Ds [] (fun x _ h=>f x::h) l
def Fp {c:Type} (p:c->Bool) (l:List c):Bool:=Ds true (fun x _ e=>cond (p x) e false) l
def RT (m:Nat) (v:AV):Bool:=
 match v with
 | .bad| .agg _| .tup _| .fn _ _ _| .iface _ _=>false
 | .ptr b _| .sl b _ _ _ _| .map b| .yield b=>bit m b
 |_=>true
def Ld (m:Nat) (v:AV):Bool:=
 match v with
 | .fn _ a c=>both (Fp (RT m) a) (Fp (RT m) c)
 | .iface _ v=>RT m v
 |v=>RT m v
def RU (m:Nat) (v:AV):Bool:=
 match v with
 | .agg c=>Fp (Ld m) c
 | .tup c=>Fp (Ld m) c
 |v=>Ld m v
def NJ (e:Nat->Nat) (v:AV):AV:=
 match v with
 | .ptr b o=> .ptr (e b) o
 | .sl b o l c k=> .sl (e b) o l c k
 | .map b=> .map (e b)
 | .yield b=> .yield (e b)
 |v=>v
def Md (e:Nat->Nat) (v:AV):AV:=
 match v with
 | .fn f a c=> .fn f (lmap (NJ e) a) (lmap (NJ e) c)
 | .iface t v=> .iface t (NJ e v)
 |v=>NJ e v
def NK (c:Nat->Nat) (v:AV):AV:=
 match v with
 | .agg e=> .agg (lmap (Md c) e)
 | .tup e=> .tup (lmap (Md c) e)
 |v=>Md c v
end
theorem JW {c e:Type} (f:c->e):∀l:List c,lmap f l=l.map f
 |[]=>rfl
 |x::l=>by
  show f x::lmap f l=_;rw[JW f l];rfl
theorem EW {c:Type} {p:c->Bool}:∀{l:List c},Fp p l=true->∀x∈l,p x=true
 |[],_,x,h=>by simp at h
 |y::l,hk,x,h=>by
  have⟨f,e⟩:=Bs (show cond (p y) (Fp p l) false=true from hk);rcases Az.1 h with rfl|h
  .exact f
  .exact EW e x h
theorem JX {g d:BJ} {m:Nat} {j:Nat->Nat} (p:∀b,bit m b=true->∀x,g b=some x->d (j b)=some x) {v:AV} (i:RT m v=true) {z:Value} (h:conc g v=some z):conc d (NJ j v)=some z:=by
 have go:∀b,bit m b=true->∀f:Loc->Value,(g b).map f=some z->(d (j b)).map f=some z:=fun b q f n=>by
  cases e:g b with
  |none=>rw[e] at n;cases n
  |some x=>grind
 cases v with
 |ptr b o=>simp only[conc,NJ] at h⊢;exact go b i _ h
 |sl b o l c k=>simp only[conc,NJ] at h⊢;exact go b i _ h
 |map b=>simp only[conc,NJ] at h⊢;exact go b i _ h
 |yield b=>simp only[conc,NJ] at h⊢;exact go b i _ h
 |bad=>cases i
 |agg _=>cases i
 |tup _=>cases i
 |fn _ _ _=>cases i
 |iface _ _=>cases i
 |_=>simp[conc,NJ] at h⊢;exact h
theorem Iu {g d:BJ} {r:AV->AV} {p:AV->Bool} (i:∀v,p v=true->∀z,conc g v=some z->conc d (r v)=some z):∀{l:List AV} {c:List Value},Fp p l=true->B2 g l=some c->B2 d (lmap r l)=some c
 |[],c,_,h=>h
 |v::l,c,hk,h=>by
  have⟨k,j⟩:=Bs (show cond (p v) (Fp p l) false=true from hk);simp[B2] at h
  cases e:conc g v with
  |none=>rw[e] at h;cases h
  |some z=>
   cases f:B2 g l with
   |none=>rw[e,f] at h;cases h
   |some n=>
    rw[e,f] at h;show B2 d (r v::lmap r l)=some c;simp only[B2,i v k z e,Iu i j f];exact h
theorem Iv {g d:BJ} {m:Nat} {ρ:Nat->Nat} (e:∀b,bit m b=true->∀x,g b=some x->d (ρ b)=some x) {v:AV} (l:Ld m v=true) {z:Value} (h:conc g v=some z):conc d (Md ρ v)=some z:=by
 cases v with
 |fn f a c=>
  have⟨p,o⟩:=(BC _ _).1 (show both (Fp (RT m) a) (Fp (RT m) c)=true from l);simp[conc] at h
  cases j:B2 g a with
  |none=>rw[j] at h;cases h
  |some r=>
   cases n:B2 g c with
   |none=>rw[j,n] at h;cases h
   |some q=>
    rw[j,n] at h;simp only[Md,conc,Iu (fun v i z k=>JX e i k) p j,Iu (fun v i z k=>JX e i k) o n];exact h
 |iface t v=>
  simp only[conc] at h
  cases i:conc g v with
  |none=>rw[i] at h;cases h
  |some u=>
   rw[i] at h;simp only[Md,conc,JX e (show RT m v=true from l) i];exact h
 |_=>exact @JX g d m ρ e _ (by exact l) z h
variable{g d:BJ} {m:Nat} {ρ:Nat->Nat} {v:AV} {z:Value}
theorem JY (c:∀b,bit m b=true->∀x,g b=some x->d (ρ b)=some x) (k:RU m v=true) (h:conc g v=some z):conc d (NK ρ v)=some z:=by
 cases v with
 |agg f=>
  simp only[conc] at h
  cases e:B2 g f with
  |none=>rw[e] at h;cases h
  |some l=>
   rw[e] at h;simp only[NK,conc,Iu (fun v j z i=>Iv c j i) (show Fp (Ld m) f=true from k) e];exact h
 |tup f=>
  simp only[conc] at h
  cases e:B2 g f with
  |none=>rw[e] at h;cases h
  |some l=>
   rw[e] at h;simp only[NK,conc,Iu (fun v j z i=>Iv c j i) (show Fp (Ld m) f=true from k) e];exact h
 |_=>exact @Iv g d m ρ c _ (by exact k) z h
theorem Vf (v:AV):NJ id v=v:=by cases v<;>rfl
theorem Q5 {r:AV->AV} (h:∀v,r v=v):∀l,lmap r l=l:=fun l=>by rw[JW];exact(Di fun x _=>h x).trans (List.map_id l)
theorem Lf (v:AV):Md id v=v:=by
 cases v with
 |fn f a c=>simp[Md,Q5 Vf]
 |iface t v=>simp[Md,Vf]
 |_=>rfl
theorem Vg (v:AV):NK id v=v:=by
 cases v with
 |agg e=>simp[NK,Q5 Lf]
 |tup e=>simp[NK,Q5 Lf]
 |fn f a c=>exact Lf (.fn f a c)
 |iface t v=>exact Lf (.iface t v)
 |_=>rfl
noncomputable section
def Gt (m:Nat) (e:AV×AV×Nat):Bool:=both (Ld m e.1) (RU m e.2.1)
def Lg (m:Nat) (e:AV×AV):Bool:=both (Ld m e.1) (RU m e.2)
def WH (m:Nat) (r:Bool) (o:AO):Bool:=
 match o with
 | .cells e _ _ ro=>both (cond ro r (not r)) (Fp (Ld m) e)
 | .map c _ ro=>both (cond ro r (not r)) (Fp (Gt m) c)
 | .lmap c=>cond r (Fp (Lg m) c) false
 |_=>false
def Q6 (f:Nat->Nat) (o:AO):AO:=
 match o with
 | .cells i e z ro=> .cells (lmap (Md f) i) e z ro
 | .map h c ro=> .map (lmap (fun e:AV×AV×Nat=>(Md f e.1,NK f e.2.1,e.2.2)) h) c ro
 |o=>o
def lF (a b:AV×AV×Nat):Bool:=both (OZ a.1 b.1) (both (VF a.2.1 b.2.1) (Nat.beq a.2.2 b.2.2))
def bK (a b:AV×AV):Bool:=both (OZ a.1 b.1) (VF a.2 b.2)
def leq {c:Type} (e:c->c->Bool) (a:List c):List c->Bool:=
 Ds (fun b=>match b with|[]=>true|_=>false)
  (fun x _ f b=>match b with|[]=>false|y::b=>cond (e x y) (f b) false) a
def nQ (a b:Bool):Bool:=cond a b (not b)
def mK (a b:AO):Bool:=
 match a,b with
 | .cells h e z r,.cells cs' e' z' r'=>both (both (Nat.beq e e') (Nat.beq z z')) (both (nQ r r') (leq OZ h cs'))
 | .map f c r,.map es' c' r'=>both (Nat.beq c c') (both (nQ r r') (leq lF f es'))
 | .lmap f,.lmap es'=>leq bK f es'
 |_,_=>false
def WI (a b:AO):Bool:=
 match a,b with
 | .cells h e z _,.cells cs' e' z' true=>both (both (Nat.beq e e') (Nat.beq z z')) (leq OZ h cs')
 | .map f c _,.map es' c' true=>both (Nat.beq c c') (leq lF f es')
 | .lmap f,.lmap es'=>leq bK f es'
 |_,_=>false
def EQ (l:List (Nat×AO)):Tr AO->(Tr AO->Bool)->Bool:=Ds (fun t g=>g t) (fun x _ c t g=>t.set x.1 x.2 fun t=>c t g) l
def dC (l:List (Nat×AO)) (h:AH):Bool:=Fp (fun x:Nat×AO=>match h.m.get x.1 with|some o=>both (WI o x.2) (Nat.ble (Nat.succ x.1) h.nx)|none=>false) l
def Iw (l:List (Nat×AO)):Nat:=Ds 0 (fun x _ c=>Nat.lor (Fc x.1) c) l
end
theorem JE {c:Type} {e:c->c->Bool} (f:∀x y,e x y=true->x=y):∀{a b:List c},leq e a b=true->a=b
 |[],[],_=>rfl
 |[],_::_,h=>absurd (show false=true from h) oD
 |_::_,[],h=>absurd (show false=true from h) oD
 |x::a,y::b,h=>by
  have⟨j,i⟩:=Bs (show cond (e x y) (leq e a b) false=true from h);rw[f _ _ j,JE f i]
theorem Yo (a b:AV×AV×Nat) (h:lF a b=true):a=b:=by
 have⟨k,j,i⟩:=a;have⟨f,e,c⟩:=b;simp only[lF,BC] at h;rw[HG h.1,O7 h.2.1,beq_eq h.2.2]
theorem Vh (a b:AV×AV) (h:bK a b=true):a=b:=by
 have⟨i,f⟩:=a;have⟨e,c⟩:=b;simp[bK,BC] at h;rw[HG h.1,O7 h.2]
variable{a b:AO}
theorem eZ (h:mK a b=true):a=b:=by
 unfold mK at h;split at h
 .simp only[BC] at h;rw[beq_eq h.1.1,beq_eq h.1.2,L5 h.2.1,JE (fun _ _=>HG) h.2.2]
 .simp only[BC] at h;rw[beq_eq h.1,L5 h.2.1,JE Yo h.2.2]
 .rw[JE Vh h]
 .cases h
theorem GW:∀{l:List (Nat×AO)} {b:Nat},bit (Iw l) b=true↔∃o,(b,o)∈l
 |[],b=>by
  have:Iw []=0:=rfl;simp[this,JG]
 |x::l,b=>by
  have e:Iw (x::l)=Nat.lor (Fc x.1) (Iw l):=rfl;rw[e,G6,FO,Cv,decide_eq_true_eq,GW];constructor
  .grind
  .grind
theorem Me:∀{l:List (Nat×AO)} {t:Tr AO} {g:Tr AO->Bool},EQ l t g=true->∃f,g f=true/\∀b o,f.get b=some o->(b,o)∈l∨(∀p,(b,p)∉l)/\t.get b=some o
 |[],t,g,h=>⟨t,h,fun b o c=> .inr ⟨oS,c⟩⟩
 |x::l,t,g,h=>by
  have⟨t1,r,j⟩:=Tr.set_spec t x.1 x.2 _ (show t.set x.1 x.2 (fun t=>EQ l t g)=true from h);have⟨t2,q,n⟩:=Me r;refine⟨t2,q,fun b o c=>?_⟩;rcases n b o c with i|⟨i,k⟩
  .exact .inl (by simp[i])
  .rw[j b] at k;by_cases e:b=x.1
   .grind
   .grind
theorem ee {x:Loc} {w:World} (o:WI a b=true) (M:WH m true b=true) (u:∀b,bit m b=true->∀x,g b=some x->d b=some x) (h:OR g x w a):OR d x w b:=by
 have P:∀{v:AV} {z:Value},Ld m v=true->conc g v=some z->conc d v=some z:=fun{v z} n y=>by
  have:=Iv (ρ:=id) u n y
  rwa [Lf] at this
 have R:∀{v:AV} {z:Value},RU m v=true->conc g v=some z->conc d v=some z:=fun{v z} n y=>by
  have:=JY (ρ:=id) u n y
  rwa [Vg] at this
 unfold WI at o;split at o
 .rename_i cs e z r a0 e' z';simp only[BC] at o;have C:=beq_eq o.1.1;have O:=beq_eq o.1.2;have B:=JE (fun _ _=>HG) o.2;subst C O B;have⟨_,f⟩:=(BC _ _).1 (show both (cond true true (not true)) (Fp (Ld m) cs)=true from M);have⟨arr,fz,q1,q2,q3,q4⟩:=h;refine⟨arr,fz,q1,q2,fun i v n=>?_,fun e=>(by cases e),q4.2⟩;rcases q3 i v n with Z|⟨S,y,Y⟩
  .exact .inl Z
  .exact .inr ⟨S,y,P (EW f v (AQ n)) Y⟩
 .rename_i j c r s c';simp only[BC] at o;have C:=beq_eq o.1;have B:=JE Yo o.2;subst C B;have⟨_,f⟩:=(BC _ _).1 (show both (cond true true (not true)) (Fp (Gt m) j)=true from M);have⟨s,q1,q2⟩:=h;refine⟨s,q1,?_⟩;have:∀{j:List (AV×AV×Nat)} {l:List MapEntry},Fp (Gt m) j=true->Ci g j=some l->Ci d j=some l:=by
   intro j
   induction j with
   |nil=>intro l _ h;exact h
   |cons e j L=>
    intro l G h;have⟨C,O⟩:=Bs (show cond (Gt m e) (Fp (Gt m) j) false=true from G);have⟨J,H,Q⟩:=e;have⟨r1,r2⟩:=(BC _ _).1 C;simp[Ci] at h⊢
    cases p:conc g J with
    |none=>rw[p] at h;cases h
    |some k=>
     cases n:conc g H with
     |none=>rw[p,n] at h;cases h
     |some v=>
      cases q:Ci g j with
      |none=>rw[p,n,q] at h;cases h
      |some U=>rw[p,n,q] at h;rw[P r1 p,R r2 n,L O q];exact h
  exact this f q2
 .rename_i j s;have B:=JE Vh o;subst B;have f:Fp (Lg m) j=true:=M;have⟨s,t,D,q1,q2,q3,q4,q5⟩:=h;refine⟨s,t,D,q1,q2,q3,q4,?_⟩;have A:∀e∈D,Lg m (e.1,e.2.1)=true:=fun e q=>EW f _ (q2.mem_iff.1 (BB.2 ⟨e,q,rfl⟩))
  have:∀{j:List (AV×AV×Nat)} {l:List MapEntry},(∀e∈j,Lg m (e.1,e.2.1)=true)->Ci g j=some l->Ci d j=some l:=by
   intro j
   induction j with
   |nil=>intro l _ h;exact h
   |cons e j L=>
    intro l G h;have⟨J,H,Q⟩:=e;have⟨r1,r2⟩:=(BC _ _).1 (G (J,H,Q) oS);simp[Ci] at h⊢
    cases p:conc g J with
    |none=>rw[p] at h;cases h
    |some k=>
     cases n:conc g H with
     |none=>rw[p,n] at h;cases h
     |some v=>
      cases q:Ci g j with
      |none=>rw[p,n,q] at h;cases h
      |some U=>rw[p,n,q] at h;rw[P r1 p,R r2 n,L (fun e q=>G e (by simp[q])) q];exact h
  exact this A q5
 .cases o
theorem ei {x:Loc} {w:World} (t:WH m false a=true) (o:∀b,bit m b=true->∀x,g b=some x->d (ρ b)=some x) (h:OR g x w a):OR d x w (Q6 ρ a):=by
 have C:∀{v:AV} {z:Value},Ld m v=true->conc g v=some z->conc d (Md ρ v)=some z:=fun{v z} j p=>Iv o j p
 have S:∀{v:AV} {z:Value},RU m v=true->conc g v=some z->conc d (NK ρ v)=some z:=fun{v z} j p=>JY o j p
 cases a with
 |cells B e z r=>
  have⟨_,f⟩:=(BC _ _).1 (show both (cond r false (not false)) (Fp (Ld m) B)=true from t);have⟨arr,P,q1,q2,q3,q4⟩:=h;simp[Q6,JW];refine⟨arr,P,q1,by simpa using q2,fun i v j=>?_,q4.1,fun e=>by simpa using q4.2 e⟩;rw[Bz] at j
  cases q:B[i]? with
  |none=>rw[q] at j;cases j
  |some u=>
   rw[q] at j;cases j;rcases q3 i u q with L|⟨D,p,J⟩
   .have:=EW f u (AQ q);rw[L] at this;cases this
   .exact .inr ⟨D,p,C (EW f u (AQ q)) J⟩
 |map n c r=>
  have⟨_,f⟩:=(BC _ _).1 (show both (cond r false (not false)) (Fp (Gt m) n)=true from t);have⟨A,q1,q2⟩:=h;simp[Q6,JW];refine⟨A,q1,?_⟩;have:∀{n:List (AV×AV×Nat)} {l:List MapEntry},Fp (Gt m) n=true->Ci g n=some l->Ci d (n.map fun e:AV×AV×Nat=>(Md ρ e.1,NK ρ e.2.1,e.2.2))=some l:=by
   intro n
   induction n with
   |nil=>intro l _ h;exact h
   |cons e n G=>
    intro l H h;have⟨O,M⟩:=Bs (show cond (Gt m e) (Fp (Gt m) n) false=true from H);have⟨R,Q,Y⟩:=e;have⟨r1,r2⟩:=(BC _ _).1 O;simp[Ci,BI] at h⊢
    cases s:conc g R with
    |none=>rw[s] at h;cases h
    |some k=>
     cases j:conc g Q with
     |none=>rw[s,j] at h;cases h
     |some v=>
      cases y:Ci g n with
      |none=>rw[s,j,y] at h;cases h
      |some U=>rw[s,j,y] at h;rw[C r1 s,S r2 j,G M y];exact h
  exact this f q2
 |_=>cases t
theorem Mf (c:Nat->Nat) (a:AO):(Q6 c a).owns=a.owns:=by cases a<;>rfl
theorem bL (c:Nat->Nat) (a:AO):(Q6 c a).ro=a.ro:=by cases a<;>rfl
theorem Vi {r:Bool} (h:WH m r a=true):a.ro=r/\a.owns=true:=by
 cases a with
 |cells j e z ro=>
  have⟨f,_⟩:=(BC _ _).1 (show both (cond ro r (not r)) (Fp (Ld m) j)=true from h);exact⟨(by cases ro<;>cases r<;>first|rfl|cases f),rfl⟩
 |map i c ro=>
  have⟨f,_⟩:=(BC _ _).1 (show both (cond ro r (not r)) (Fp (Gt m) i)=true from h);exact⟨(by cases ro<;>cases r<;>first|rfl|cases f),rfl⟩
 |lmap i=>
  cases r with
  |true=>exact⟨rfl,rfl⟩
  |false=>cases h
 |_=>cases h
theorem P7 (h:WI a b=true):a.owns=true:=by
 unfold WI at h;split at h<;>first|rfl|cases h
end Go.Refl
