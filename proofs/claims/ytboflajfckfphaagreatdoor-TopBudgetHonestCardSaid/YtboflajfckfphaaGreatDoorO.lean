/- A part of the proof of TopBudgetHonest. -/
import Derived.Lib.Builder
import Derived.Lib.MakeNoZero
import Derived.Lib.UnsafeStr
import Derived.RecoverIn
import Derived.Shelf.Vars
import Derived.TacticsInMore
import Derived.Test.YtboflajfckfphaaGreatDoorRows
import Derived.Test.YtboflajfckfphaaGreatDoorM
import Derived.Test.YtboflajfckfphaaGreatDoorN
set_option linter.all false
namespace Go.Proofs
open Go.RowKit Go.Proofs.Tryz
def Vw (v:Value):Int:=match v with| .int _ n=>n|_=>0
def FU (w a:World):Prop:=a.Alike w/\a.tape=w.tape
theorem Oe {P:Program} (w:World) (D:TypeId) (l f o:Nat) (seen:Array Nat) (n:Array MapEntry) (g:Nat) (O:w.heap[l]?=some (.map n g)) (m:∀x∈n.toList,x.born<f) (v:f<=o):
  ((leftOf n seen).size=0/\(Instr.next (.pointer (some ⟨w.heap.size,0,none⟩)) false D).run P (w.alloc (.mapIter (some l) f seen o))= .ok (.tuple #[.bool false]) (w.alloc (.mapIter (some l) f seen o)))∨
  ∃e∈(leftOf n seen).toList,∃i:World,FU w i/\(Instr.next (.pointer (some ⟨w.heap.size,0,none⟩)) false D).run P (w.alloc (.mapIter (some l) f seen o))= .ok (.tuple #[.bool true,e.key,e.val]) (i.alloc (.mapIter (some l) f (seen.push e.born) g)):=by
 have A:l<w.heap.size:=by
  rcases Do l w.heap.size with h|h
  .exact h
  .grind
 have C:(w.alloc (.mapIter (some l) f seen o)).heap[l]?=some (.map n g):=by rw[heap_alloc_old w _ A,O]
 simp only[Instr.next,getObj,Ay,Sem.run,heap_alloc_new,C,Result.andThen,next_test_false seen n f o m v,Cm,if_false];unfold leftOf;have k:∀x∈(Array.filter (fun e=>!seen.contains e.born) n).toList,x.born<f:=fun x p=>m x (by simp at p⊢;exact p.1)
 generalize Array.filter (fun e=>!seen.contains e.born) n=L at k⊢;have R:L.filter (fun x=>decide (x.born<f))=L:=Array.filter_eq_self.2 (fun x p=>by simpa using k x (by simpa using p));have Q:L.filter (fun x=>decide (x.born≥f))=#[]:=by
  rw[Array.filter_eq_empty_iff];intro x p;have:=k x (by simpa using p);simp;omega
 simp only[R,Q,Array.append_empty];by_cases H:L.size=0
 .left;have:L=#[]:=Array.eq_empty_of_size_eq_zero H;subst this;refine⟨rfl,?_⟩;simp[choose,Sem.run,Question.forced]
 .right;have z:L.isEmpty=false:=by simp[Array.isEmpty,H]
  simp only[z,Cm,if_false,Array.empty_append,Array.size_map];have B:∃(j:Nat) (i:World),j<L.size/\FU w i/\(choose (Question.mapNext L.size)).run P (w.alloc (.mapIter (some l) f seen o))= .ok j (i.alloc (.mapIter (some l) f seen o)):=by
   by_cases G:L.size<=1
   .exact⟨0,w,oO,⟨⟨rfl,rfl,rfl⟩,rfl⟩,by simp[choose,Sem.run,Question.forced,G]⟩
   .exact⟨_,w.drew,D7 _ oO,⟨⟨rfl,rfl,rfl⟩,rfl⟩,by
     simp only[choose,Sem.run,Question.forced,decide_eq_true_eq,G,if_false,Question.cut];rfl⟩
  have⟨j,i,M,s,r⟩:=B;refine⟨L[j],oS,i,s,?_⟩;have u:i.heap.size=w.heap.size:=by rw[s.1.1]
  have J:∀(h:Array Obj) (x y:Obj),(h.push x).setIfInBounds h.size y=h.push y:=by
   intro h x y;apply Array.toList_inj.1;simp
  have q:∀(a:Option Nat) (b:Nat) (c:Array Nat) (d:Nat) (t:Obj),(setObj w.heap.size t).run P (i.alloc (.mapIter a b c d))= .ok () (i.alloc t):=fun a b c d t=>by
   simp only[setObj,Sem.run];rw[<-u,heap_alloc_new];show Result.ok () ({i.alloc (.mapIter a b c d) with heap:=(i.heap.push (.mapIter a b c d)).setIfInBounds i.heap.size t}:World)=_;rw[J];rfl
  simp only[r,Array.getElem?_map,DK M,Bf,Ay,q,Result.andThen];rfl
theorem FU.below {w a:World} (h:FU w a):Below w.heap.size w a:=⟨h.1.2.1,h.2,h.1.2.2,by rw[h.1.1];exact Ai _,fun k _=>by rw[h.1.1]⟩
theorem FU.trans {a b c:World} (h:FU a b) (k:FU b c):FU a c:=⟨⟨k.1.1.trans h.1.1,k.1.2.1.trans h.1.2.1,k.1.2.2.trans h.1.2.2⟩,k.2.trans h.2⟩
theorem FU.refl (w:World):FU w w:=⟨⟨rfl,rfl,rfl⟩,rfl⟩
set_option maxRecDepth 1000000 in
theorem Xv (k:Nat) (c:Array MapEntry) (a:Nat) (b:Int) (w:World) (O:w.heap[k]?=some (.map c a)) (r:MapKept.Stamped c a) (R:∀x∈c.toList,∃s v,x.key= .string s/\x.val= .int .i64 v):
  Calls prog 239 #[.map (some k),.int .i64 b] w fun e t=>(∃s,e= .returned (.string s)/\((∃x∈c.toList,x.key= .string s/\Vw x.val=b)∨(s=⟨#[]⟩/\∀x∈c.toList,Vw x.val≠b)))/\Below w.heap.size w t:=by
 have S:=run_range_map w 263 9 3 k c a underlying263 O;go_enter func239,ntmps239;go_wp2;go_loopw [] (fun t=>∃(l:World) (seen:Array Nat),FU w l/\t=l.alloc (.mapIter (some k) a seen a)/\∀x∈c.toList,seen.contains x.born=true->¬Vw x.val=b) (fun t=>(leftOf c (t.iterSeen w.heap.size)).size)
 case atStart=>exact⟨w,#[],FU.refl w,rfl,fun x _ h=>by simp at h⟩
 case round=>
  obtain⟨l,seen,i,rfl,A⟩:=hrel;have z:l.heap.size=w.heap.size:=by rw[i.1.1]
  have C:l.heap[k]?=some (.map c a):=by rw[i.1.1];exact O
  have u:=Oe (P:=prog) l 0 k a a seen c a C r.1 (Ai _);rw[z] at u;have p:∀(j:World) (o:Obj),FU w j->Below w.heap.size w (j.alloc o):=fun j o h=>h.below.alloc (by rw[h.1.1];exact Ai _) o
  rcases u with⟨Y,m⟩|⟨e,B,j,g,m⟩
  .have U:∀Q,(Instr.next (.pointer (some ⟨w.heap.size,0,none⟩)) false Q).run prog (l.alloc (.mapIter (some k) a seen a))=_:=fun _=>m
   go_wp2;go_ret;exact⟨⟨_,rfl,.inr ⟨rfl,fun x y=>A x y (all_seen c seen Y x y)⟩⟩,p l _ i⟩
  .have⟨s,v,n,d⟩:=R e (mem_left B).1;have f:j.heap.size=w.heap.size:=by rw[g.1.1,i.1.1]
   have J:j.heap[k]?=some (.map c a):=by rw[g.1.1];exact C
   have H:=run_entry_map (P:=prog) j k a seen c a e J (mem_left B).1 r.2.1;rw[f,n,d] at H;have q:FU w j:=i.trans g;go_wp2
   .rename_i G;go_ret;exact⟨⟨s,rfl,.inl ⟨e,(mem_left B).1,n,by rw[d];simpa[Vw] using G⟩⟩,p j _ q⟩
   .rename_i D;go_roundw
    case rel=>
     refine⟨j,seen.push e.born,q,rfl,fun x y M=>?_⟩;rw[contains_push] at M;rcases Cv _ _▸M with L|L
     .exact A x y L
     .have:x=e:=born_inj r.2.1 y (mem_left B).1 (beq_iff_eq.1 L);subst this;rw[d];simpa[Vw] using D
    case measure=>
     rw[<-f,World.iterSeen_alloc,f,<-z,World.iterSeen_alloc];exact left_shrinks c seen e B
set_option maxRecDepth 100000 in
theorem cY (x y:Value) (w:World):CallsDIn Fence.wide 0 prog 53 #[x,y] .returning w fun e u b=>(∃x,e= .returned x)/\u= .returning/\b=w:=by
 refine callsDIn_of_wpSIn func53 rfl trivial fun a d c=>?_
 refine wpSIn_seq ?_;refine wpSIn_region ?_;simp[wpOpsSIn,go_sem,recoverD,c,ntmps53,Exit.thenS];refine wpSIn_of_wpIn rfl ?_
 gi_wp2
 cases a;simp_all [bodyPostS,results,results53]
set_option maxRecDepth 100000 in
theorem aB (x:Value) (w:World):CallsDIn Fence.wide 0 prog 260 #[x] .returning w fun e u b=>(∃x,e= .returned x)/\u= .returning/\b=w:=by
 refine callsDIn_of_wpSIn func260 rfl trivial fun a d c=>?_
 refine wpSIn_seq ?_;refine wpSIn_region ?_;simp[wpOpsSIn,go_sem,recoverD,c,ntmps260,Exit.thenS];refine wpSIn_of_wpIn rfl ?_
 gi_wp2
 cases a;simp_all [bodyPostS,results,results260]
set_option maxRecDepth 100000 in
theorem aC (x y z:Value) (w:World):CallsDIn Fence.wide 0 prog 276 #[x,y,z] .returning w fun e u b=>(∃x,e= .returned x)/\u= .returning/\b=w:=by
 refine callsDIn_of_wpSIn func276 rfl trivial fun a d c=>?_
 refine wpSIn_seq ?_;refine wpSIn_region ?_;simp[wpOpsSIn,go_sem,recoverD,c,ntmps276,Exit.thenS];refine wpSIn_of_wpIn rfl ?_
 gi_wp2
 cases a;simp_all [bodyPostS,results,results276]
theorem VT:(prog.info? 164).map (·.size)=some 2:=oK
set_option maxHeartbeats 1000000 in
set_option maxRecDepth 100000 in
theorem M0 (b:Nat) (w:World) (d:w.cell? ⟨b,0,none⟩=some (.pointer (some ⟨b,0,none⟩))):
  Calls prog 284 #[.pointer (some ⟨b,0,none⟩)] w fun e a=>e= .returned (.tuple #[])/\a=w:=by
 have⟨j,c,_⟩:=Af.1 VT;go_enter func284,ntmps284;go_wp2;rw[Lib.run_neq_ptr_same w _ underlying162 c];go_wp2;go_end0;exact⟨rfl,rfl⟩
set_option maxHeartbeats 1000000 in
set_option maxRecDepth 100000 in
theorem HY (b:Nat) (c:TypeId) (i:liesAt prog prog.depth c (2/prog.cellsOf c) 0 164 1=true) (w:World) (k:w.cell? ⟨b,0,none⟩=some (.pointer none)) (a:w.shape? b=some (c,2)) (h:w.frozen? ⟨b,0,none⟩=false):
  Calls prog 284 #[.pointer (some ⟨b,0,none⟩)] w fun e g=>e= .returned (.tuple #[])/\g=w.setCell ⟨b,0,none⟩ (.pointer (some ⟨b,0,none⟩)):=by
 have⟨j,f,d⟩:=Af.1 VT;go_enter func284,ntmps284;go_wp2;rw[Lib.run_to_unsafe w ⟨b,0,none⟩ underlying162 underlying462 f (by rw[d];decide) a (Nat.zero_lt_succ 1)];simp only[Result.andThen];rw[Oper.upon_value];go_wp2;rw[run_callFunc_extern func362 oK oK oK oK];rw[Lib.run_noEscape];simp only[Result.andThen];rw[Oper.upon_value];go_wp2;rw[Lib.run_from_unsafe w ⟨b,0,none⟩ underlying462 underlying162 f a i];simp only[Result.andThen];rw[Oper.upon_value];go_wp2;go_end0;exact⟨rfl,rfl⟩
theorem OI {e:TypeId} (f:prog.cellsOf e=1) (count a n:Nat) (c:a+n<=count):liesAt prog prog.depth e count a e n=true:=by
 have b:prog.depth=(2*(prog.types.size+Made.depth)+1)+1:=rfl;rw[b];simp only[liesAt,Cv];left;rw[b];have d:a%1=0:=Nat.mod_one a;simp[rowAt,f,c,sameLayout,d]
theorem KO (w:World) (k u p e:TypeId) (y:prog.underlying k=some (.pointer e)) (v:prog.cellsOf e=1) (g a cells:Nat) (m:w.shape? g=some (e,cells)) (l:List UInt8) (C:l≠[]) (z:a+l.length<=cells) (B:l.length<=9223372036854775807)
  (c:∀j x,l[j]?=some x->w.cell? ((⟨g,a,none⟩:Addr).add j)=some (.int .u8 x.toNat)):
  (Builtin.unsafeString_ #[k,u] p #[.pointer (some ⟨g,a,none⟩),.int .i64 l.length]).run prog w= .ok (.string ⟨l.toArray⟩) (w.freeze ⟨g,a,none⟩ l.length):=by
 have A:l.length≠0:=by simpa using C
 have o:=Lib.run_loadBytes (P:=prog) w l ⟨g,a,none⟩ .empty c;have b:=OI v (cells/prog.cellsOf e) a l.length (by rw[v];simpa using z);have i:¬(9223372036854775807:Int)<(l.length:Int):=oO;obtain⟨t,r,q,h⟩:∃t r q,Builtin.unsafeString_ #[k,u] p #[.pointer (some ⟨g,a,none⟩),.int .i64 l.length]=
   (do
    let n<-asInt (.int .i64 l.length)
    if n<0 then runtimePanic (.error t)
    if n>IntKind.i64.max then unsupported (.unsafePointer r)
    if n=0 then pure (.string .empty)
    else if<-variablesAt ⟨g,a,none⟩ (<-elemOf k) n.toNat then do
     let s<-loadBytes ⟨g,a,none⟩ .empty n.toNat
     freeze ⟨g,a,none⟩ n.toNat
     pure (.string s)
    else unsupported (.unsafePointer q)):=⟨_,_,_,rfl⟩
 rw[h];have f:IntKind.i64.max=9223372036854775807:=rfl;have d:¬(l.length:Int)<0:=oO;simp[asInt,asIntOf,f,i,d,A,variablesAt,m,elemOf,run_underlying y,b,o]
theorem aA:prog.cellsOf 5=1:=oK
theorem cW:(prog.info? 5).map (·.size)=some 1:=oK
set_option maxHeartbeats 2000000 in
set_option maxRecDepth 100000 in
theorem Pg (b g a cap:Nat) (l:List UInt8) (cells:Nat) (w:World) (p:l≠[]) (d:cap≠0) (h:l.length<=1048576)
  (i:w.cell? ⟨b,1,none⟩=some (.slice (some ⟨g,a,none⟩) l.length cap)) (f:w.shape? g=some (5,cells)) (m:a+l.length<=cells) (c:∀j x,l[j]?=some x->w.cell? ((⟨g,a,none⟩:Addr).add j)=some (.int .u8 x.toNat)):
  Calls prog 143 #[.pointer (some ⟨b,0,none⟩)] w fun e k=>e= .returned (.string ⟨l.toArray⟩)/\k=w.drew.freeze ⟨g,a,none⟩ l.length:=by
 have q:w.drew.cell? ⟨b,1,none⟩=some (.slice (some ⟨g,a,none⟩) l.length cap):=i;have o:(Builtin.unsafeSliceData_ #[47] 368 #[.slice (some ⟨g,a,none⟩) l.length cap]).run prog w.drew= .ok (.pointer (some ⟨g,a,none⟩)) w.drew:=
  Lib.run_unsafeSliceData_row _ _ _ _ _ _ d
 have n:(Builtin.unsafeString_ #[368,3] 9 #[.pointer (some ⟨g,a,none⟩),.int .i64 l.length]).run prog w.drew= .ok (.string ⟨l.toArray⟩) (w.drew.freeze ⟨g,a,none⟩ l.length):=by
  refine KO w.drew 368 3 9 5 underlying368 aA g a cells f l p m oO c
 clear i;go_enter func143,ntmps143;go_wp2;go_region
 all_goals(go_wp2;go_ret;exact⟨rfl,rfl⟩)
set_option maxHeartbeats 2000000 in
set_option maxRecDepth 1000000 in
theorem QW (b n:Nat) (w:World) (g:b<w.heap.size) (i:w.cell? ⟨b,1,none⟩=some (.slice none 0 0)) (h:w.frozen? ⟨b,1,none⟩=false) (r:n<=1048576):
  Calls prog 285 #[.pointer (some ⟨b,0,none⟩),.int .i64 n] w fun e q=>e= .returned (.tuple #[])/\∃d:Array Value,n<=d.size/\
   q=((w.setCell ⟨b,1,none⟩ (.slice (some ⟨w.heap.size,0,none⟩) 0 d.size)).alloc (.cells d 5)).drew.drew.drew:=by
 have⟨d,f,j,p⟩:=Lib.run_makeNoZero (P:=prog) w.drew #[3] 47 5 underlying47 n oO;have m:IntKind.i64.wrap (IntKind.i64.wrap 0+(n:Int))=n:=by
  rw[IntKind.wrap_i64,IntKind.wrap_i64];omega
 have l:(callFunc 363 #[.int .i64 (IntKind.i64.wrap (IntKind.i64.wrap 0+(n:Int)))]).run prog w.drew= .ok (.value (.slice (some ⟨w.drew.heap.size,0,none⟩) n d.size)) (w.drew.drew.drew.alloc (.cells d 5)):=by
  rw[m,run_callFunc_extern func363 oK oK oK (e:=Extern.BytealgMakeNoZero.makeNoZero #[3] #[47]) oK,f];rfl
 have t:w.drew.cell? ⟨b,1,none⟩=some (.slice none 0 0):=i;have c:∀o:Obj,(w.alloc o).cell? ⟨b,1,none⟩=some (.slice none 0 0):=fun o=>by
  have e:(w.alloc o).heap[b]?=w.heap[b]?:=Lib.alloc_old w o b g;simp only[World.cell?,e] at i⊢;exact i
 have a:∀o:Obj,(w.alloc o).frozen? ⟨b,1,none⟩=false:=fun o=>by
  have e:(w.alloc o).heap[b]?=w.heap[b]?:=Lib.alloc_old w o b g;simp only[World.frozen?,e] at h⊢;exact h
 have s:=c (.cells d 5);have f2:=a (.cells d 5);have k:∀W:World,(Builtin.copy_ #[47,47] 3 #[.slice (some ⟨w.heap.size,0,none⟩) 0 d.size,.slice none 0 0]).run prog W= .ok (goInt 0) W:=
  fun W=>run_copy_none W 47 47 3 5 _ _ 0 d.size 0 0 underlying47 cW rfl
 clear m c a i;go_enter func285,ntmps285;go_wp2;go_region
 all_goals(go_wp2;go_end0;exact⟨rfl,d,j,rfl⟩)
set_option maxHeartbeats 2000000 in
set_option maxRecDepth 1000000 in
theorem QX (b n:Nat) (d:Nat×Nat) (f:TypeId) (w:World) (u:liesAt prog prog.depth f (2/prog.cellsOf f) 0 164 1=true) (a:w.heap[b]?=some (.cells #[.pointer none,.slice none 0 0] f d)) (p:d.1=d.2∨2<=d.1) (t:n<=1048576) (hn0:1<=n):
  Calls prog 193 #[.pointer (some ⟨b,0,none⟩),.int .i64 n] w fun e m=>e= .returned (.tuple #[])/\∃l:Array Value,n<=l.size/\
   m=(((w.setCell ⟨b,0,none⟩ (.pointer (some ⟨b,0,none⟩))).drew.setCell ⟨b,1,none⟩ (.slice (some ⟨w.heap.size,0,none⟩) 0 l.size)).alloc (.cells l 5)).drew.drew.drew:=by
 have j:∀i,i<2->(decide (d.1<=i)&&decide (i<d.2))=false:=fun i y=>by
  rcases p with h|h
  .rw[h];simp<;>omega
  .simp<;>omega
 have o:b<w.heap.size:=by
  rcases Do b w.heap.size with s|s
  .exact s
  .grind
 have c:(w.setCell ⟨b,0,none⟩ (.pointer (some ⟨b,0,none⟩))).heap[b]?=some (.cells #[.pointer (some ⟨b,0,none⟩),.slice none 0 0] f d):=by
  simp[World.setCell,DN,a]
 have x:(w.setCell ⟨b,0,none⟩ (.pointer (some ⟨b,0,none⟩))).cell? ⟨b,1,none⟩=some (.slice none 0 0):=by rw[Lib.cell_of_heap c];rfl
 have q:(w.setCell ⟨b,0,none⟩ (.pointer (some ⟨b,0,none⟩))).drew.cell? ⟨b,1,none⟩=some (.slice none 0 0):=x;have f1:(w.setCell ⟨b,0,none⟩ (.pointer (some ⟨b,0,none⟩))).drew.frozen? ⟨b,1,none⟩=false:=by simp only[World.frozen?,World.drew,c];exact j 1 oD
 have g:(w.setCell ⟨b,0,none⟩ (.pointer (some ⟨b,0,none⟩))).drew.heap.size=w.heap.size:=by simp[World.setCell]
 have k:b<(w.setCell ⟨b,0,none⟩ (.pointer (some ⟨b,0,none⟩))).drew.heap.size:=by rw[g];exact o
 have r:=QW b n (w.setCell ⟨b,0,none⟩ (.pointer (some ⟨b,0,none⟩))).drew k q f1 t;rw[g] at r;go_enter func193,ntmps193;go_wp2_with (go_at_call 284;refine(HY b f u w (by rw[Lib.cell_of_heap a];rfl) (by simp[World.shape?,a]) (by simp only[World.frozen?,a];exact j 0 oD)).mono ?_;rintro e m ⟨rfl,rfl⟩);go_region
 all_goals go_wp2_with (go_at_call 285;refine r.mono ?_;rintro e m ⟨rfl,l,v,rfl⟩)
 all_goals first
  |(go_end0;exact⟨rfl,l,v,rfl⟩)
  |(exfalso;omega)
end Go.Proofs
namespace Go.Refl
open Go.Proofs Go.RowKit Go.Proofs.Tryz
def Good (C:Ctx):Prop:=C.G=19/\11<C.B/\∃m,C.w0.cell? ⟨11,0,none⟩=some (.int .i64 m)
variable{b:Nat}
theorem cell_below {B:Nat} {w a:World} (h:Below B w a) {o:Nat} (d:b<B):a.cell? ⟨b,o,none⟩=w.cell? ⟨b,o,none⟩:=by
 simp only[World.cell?,h.block b d]
theorem Good.stays (C:Ctx) (w:World) (h:Good C) (d:C.B<=w.heap.size) (f:Below C.B C.w0 w):Good ⟨C.G,w.heap.size,w⟩:=by
 have⟨g,a,m,e⟩:=h;exact⟨g,Bx a d,m,(cell_below f a).trans e⟩
theorem Good.cell {C:Ctx} (h:Good C) {c:BJ} {a:AH} {w:World} (k:BK C c a w):∃m,w.cell? ⟨11,0,none⟩=some (.int .i64 m):=by
 have⟨_,e,m,d⟩:=h;exact⟨m,(cell_below k.below e).trans d⟩
theorem Xh {a:Nat} (e:a<=255) (d:b<=255) (h:UInt8.ofNat a=UInt8.ofNat b):a=b:=by
 have:=congrArg UInt8.toNat h;simp at this;omega
theorem U7 {a:Nat} (h:Nat.beq a b=false):a≠b:=Nat.ne_of_beq_eq_false h
theorem VG:∀(t s:List Nat),Cy t=true->Cy s=true->Uk t s=false->(t.map UInt8.ofNat).isPrefixOf (s.map UInt8.ofNat)=false
 |[],s,_,_,h=>by cases h
 |x::t,[],_,_,_=>rfl
 |x::t,y::s,ht,hs,h=>by
  have a:cond (Nat.beq x y) (Uk t s) false=false:=h;simp only[Cy,AE] at ht hs;simp only[BI,List.isPrefixOf,Bool.and_eq_false_iff]
  cases e:Nat.beq x y with
  |true=>
   rw[e,cond_true] at a;exact .inr (VG t s ht.2 hs.2 a)
  |false=>
   left;have:=U7 e;simp only[beq_eq_false_iff_ne];exact fun d=>this (Xh (ble_eq ht.1) (ble_eq hs.1) d)
theorem VH:∀(s t:List Nat),Cy t=true->Cy s=true->fX t s=false->Lib.index (s.map UInt8.ofNat) (t.map UInt8.ofNat)=-1
 |[],t,ht,hs,h=>by
  have a:Uk t []=false:=h
  cases t with
  |nil=>cases a
  |cons x t=>rfl
 |x::s,t,ht,hs,h=>by
  have a:cond (Uk t (x::s)) true (fX t s)=false:=h
  cases e:Uk t (x::s) with
  |true=>rw[e] at a;cases a
  |false=>
   rw[e,cond_false] at a;have f:=VG t (x::s) ht hs e;have d:Cy s=true:=by simp only[Cy,AE] at hs;exact hs.2
   have g:=VH s t ht d a;simp only[BI] at f⊢;simp only[Lib.index,f,g];rfl
variable{c:BJ}
theorem E8.two {a b:AV} {d:List Value} (h:E8 c [a,b] d):∃x y,d=[x,y]/\VR c a x/\VR c b y:=by
 have⟨f,e⟩:=h
 match d,f with
 |[x,y],_=>exact⟨x,y,rfl,e 0 a x rfl rfl,e 1 b y rfl rfl⟩
theorem E8.one {a:AV} {d:List Value} (h:E8 c [a] d):∃x,d=[x]/\VR c a x:=by
 have⟨f,e⟩:=h
 match d,f with
 |[x],_=>exact⟨x,rfl,e 0 a x rfl rfl⟩
theorem VR.str {c:BJ} {s:List Nat} {x:Value} (h:VR c (.str s) x):Cy s=true/\x= .string (bytesOf s):=by
 have this:Refl.conc c _=some x:=h.conc oS;simp only[Refl.conc] at this;split at this
 .grind
 .cases this
theorem VR.int {c:BJ} {k:IntKind} {n:Int} {x:Value} (h:VR c (.int k n) x):x= .int k n:=by
 have this:Refl.conc c _=some x:=h.conc oS;simp only[Refl.conc] at this;cases this;rfl
theorem gQ {C:Ctx} (q:Good C) {s t:List Nat} {h:AH} {g:AV->AH->Bool} (a:fZ s t h g=true):∃v j,g v j=true/\ET prog C 247 [.str s,.str t] h v j:=by
 unfold fZ at a;have⟨f,a⟩:=Bs a;have⟨d,a⟩:=Eh a;refine⟨_,_,a,fun w B=>enters_of func247 oK rfl _ _,fun c w i k p=>?_⟩;obtain⟨x,y,rfl,n,l⟩:=p.two;obtain⟨A,rfl⟩:=n.str;obtain⟨z,rfl⟩:=l.str;have⟨m,o⟩:=q.cell k;refine callsIn_wide.2 ((KP (bytesOf s) (bytesOf t) m w (by rw[Df];have:=ble_eq f;omega) o).mono ?_);rintro e D ⟨rfl,rfl⟩;refine⟨_,c,rfl,BJ.le.refl c,k,.inr ?_⟩;have u:(bytesOf s).data.toList=s.map UInt8.ofNat:=by simp[bytesOf]
 have r:(bytesOf t).data.toList=t.map UInt8.ofNat:=by simp[bytesOf]
 rw[u,r,VH s t z A d];rfl
end Go.Refl
namespace Go.Refl
open Go.Proofs Go.RowKit Go.Proofs.YtboflajfckfphaaGreatDoor Go.Proofs.Tryz
noncomputable def Wf:World:=(begin prog (fun _ _=>0) default).world
theorem cZ:prog.globals.size=19:=oK
theorem X5:((List.range 19).all fun g=>((Wf.heap[g]?).bind Obj.row?).isSome)=true:=oK
variable{W:World} {g:Nat}
theorem UM (c:W.ShapedOpen prog) (d:g<19) {t:TypeId} (h:((Wf.heap[g]?).bind Obj.row?).map (·.2)=some t):∃a,W.heap[g]?=some (.cells a t):=by
 have⟨⟨zero,b⟩,i,f⟩:=Af.1 h;cases f;have⟨a,e,_⟩:=c.1 g zero b (by rw[cZ];exact d) i;exact⟨a,e⟩
theorem UN (c:W.ShapedOpen prog):∀n,n<19->∃arr e d,W.heap[n]?=some (.cells arr e d):=fun n a=>by
 have:=Bi.1 X5 n (Ks.2 a);have⟨z,b⟩:=Bq.1 this;have⟨f,h⟩:=UM c a (t:=z.2) (by rw[b];rfl);exact⟨f,z.2,(0,0),h⟩
theorem cd (b:W.ShapedOpen prog):Good ⟨19,W.heap.size,W⟩:=by
 have⟨arr,e,d,h⟩:=UN b 11 oD;refine⟨rfl,(Ak.1 h).1,?_⟩;have⟨⟨zero,t⟩,c,a⟩:=Af.1 (show((Wf.heap[11]?).bind Obj.row?).map (fun z=>(z.1.size,z.2))=some (1,3) by kernel_rfl);simp only[Prod.mk.injEq] at a;obtain⟨a,rfl⟩:=a;exact cell_of_shapedOpen_int b (by rw[cZ];decide) c a oK oK underlying3
theorem ID {P:Program} {w:World}:∀{l:List (String×DataW Unit)} {ps:List MemPlace},DataW.LaidVars P w l ps->∀{n:String} {d:DataW Unit},(n,d)∈l->
  ∃g t c a p,P.globalNamed n=some g/\(P.globals[g]?).map (·.type)=some t/\w.var? P n=some c/\DataW.trod (fun _=>()) P w 0 (fun _=>true) false a t c.toList=some (d,p)
 |[],_,_,_,_,b=>by cases b
 |(n',d')::r,ps,h,n,d,b=>by
  have⟨g,t,c,a,p,q,m,k,j,i,f,_⟩:=h;rcases Az.1 b with e|b
  .cases e;exact⟨g,t,c,a,p,m,k,j,i⟩
  .exact ID f b
variable{P:Program} {n:String}
theorem UO {l:List (String×DataW Unit)} (h:laidMetH P l W) {d:DataW Unit} (e:(n,d)∈l) (b:d.handleName?.isNone=true):
  ∃g t f a p,P.globalNamed n=some g/\(P.globals[g]?).map (·.type)=some t/\W.var? P n=some f/\DataW.trod (fun _=>()) P W 0 (fun _=>true) false a t f.toList=some (d,p):=by
 unfold laidMetH at h;split at h
 .have⟨ps,c,_⟩:=h;exact ID c e
 .have⟨⟨ps,c,_⟩,_⟩:=h;exact ID c (GF.2 ⟨e,b⟩)
theorem Nu {a:Array Value} (c:P.globalNamed n=some g) (h:W.var? P n=some a) {arr:Array Value} {t:TypeId} {d:Nat×Nat} (b:W.heap[g]?=some (.cells arr t d)):arr=a:=by
 simp only[World.var?,c,Dh,b,A0] at h;exact h
def iH:AV->Option Value
 | .int k n=>some (.int k n)
 | .bool b=>some (.bool b)
 |_=>none
def UP:List AV->Option (List Value)
 |[]=>some []
 |v::r=>(iH v).bind fun x=>(UP r).map fun l=>x::l
theorem Nv {a:BJ}:∀{c:List AV} {l:List Value},UP c=some l->B2 a c=some l
 |[],l,h=>h
 |v::r,l,h=>by
  simp only[UP,Cx,Af] at h;obtain⟨x,b,e,d,rfl⟩:=h;have:conc a v=some x:=by
   cases v<;>simp[iH] at b<;>subst b<;>rfl
  simp[B2,this,Nv d]
theorem In (u:W.ShapedOpen prog) {l:List (String×DataW Unit)} (v:laidMetH prog l W) {d:DataW Unit} (s:(n,d)∈l) (e:d.handleName?.isNone=true) {t:TypeId}
  (k:prog.globalNamed n=some g) (f:g<19) (h:(prog.globals[g]?).map (·.type)=some t) (b:((Wf.heap[g]?).bind Obj.row?).map (·.2)=some t) (a:Rj prog 6 t=true)
  {q:List AV} (i:UP q=some (Ri d)) {r:BJ}:OR r ⟨g,0,0⟩ W (.cells q t 1 true):=by
 have⟨B,A,arr,c,p,o,m,y,x⟩:=UO v s e;rw[k] at o;cases o;rw[h] at m;cases m;have⟨z,j⟩:=UM u f b;have:=Nu k y j;subst this;exact Ms j (LN 6 c t _ _ a x) (Nv i)
theorem nh (b:W.ShapedOpen prog) (c:laidMetH prog Rows.topBudgetHonestRow.laid W) {a:BJ}:OR a ⟨4,0,0⟩ W gn:=
 In b c (n:= "strings.asciiSpace") (d:=Rows.laid_strings_asciiSpace) (by simp[Rows.topBudgetHonestRow]) oK oK oD oK oK oK oK
end Go.Refl
namespace Go.Refl
open Go.RowKit
variable{σ:BJ} {P:Program}
theorem UK {k:TypeId} (a:P.underlying k=some .string):∀v l,keyOf P k v=some l->conc σ (litA l)=some v:=by
 intro v l h;simp only[keyOf,a,mapKey] at h;cases v<;>simp at h
 rename_i s;obtain⟨_,rfl⟩:=h;simp[litA,conc,KG,bytesOf_map]
theorem UL {k:TypeId} {q:IntKind} (a:P.underlying k=some (.int q)):∀v l,keyOf P k v=some l->conc σ (litA l)=some v:=by
 intro v l h;simp only[keyOf,a,mapKey] at h;cases v<;>simp at h
 obtain⟨⟨rfl,_⟩,rfl⟩:=h;simp[litA,conc]
def We {H:Type}:DataW H->AV
 | .lit l=>litA l
 |_=> .bad
def Nb (d:TypeDesc):Bool:=match d with| .bool| .int _| .string=>true|_=>false
theorem aL {H:Type} {g:TypeId×Value->H} {W:World} {c:Nat} {k:Nat->Bool} {b:Bool} {e:TypeId} {d:TypeDesc} (i:P.underlying e=some d) (j:Nb d=true):
  ∀(a:Nat) (v:Value) (y:DataW H×List MemPlace),v.formed P e=true->DataW.trod g P W c k b a e v.cells.toList=some y->conc σ (We y.1)=some v:=by
 intro a v y f h
 cases a with
 |zero=>simp[DataW.trod] at h
 |succ a=>
  unfold DataW.trod at h;have l:v.cells.toList=[v]:=by
   cases v with
   |agg m=>simp only[Value.formed,i] at f;cases d<;>simp[Nb] at j<;>simp at f
   |tuple m=>simp[Value.formed] at f
   |_=>simp[Value.cells]
  rw[l,i] at h;cases d<;>simp[Nb] at j
  .cases v<;>simp at h
   subst h;simp[We,litA,conc]
  .cases v<;>simp at h
   obtain⟨⟨rfl,_⟩,rfl⟩:=h;simp[We,litA,conc]
  .cases v<;>simp at h
   obtain⟨_,rfl⟩:=h;simp[We,litA,conc,KG,bytesOf_map]
def X2 (a:List (List UInt8×Nat)):DataW (List UInt8)->AV
 | .held b=>match a.find? (fun z=>z.1==b) with|some z=> .fn z.2 [] []|none=> .bad
 |_=> .bad
theorem X3 {W:World} {l:Nat} {u:Nat->Bool} {e:TypeId} {ps x:Array TypeId} {t:Bool} (q:P.underlying e=some (.func ps x t)) {c:List (List UInt8×Nat)}
  (j:∀z∈c,z.1≠[]/\((List.range P.funcs.size).filter fun f=>(P.funcs[f]?).any (·.name.toUTF8.data.toList==z.1))=[z.2]):
  ∀(i:Nat) (v:Value) (y:DataW (List UInt8)×List MemPlace),v.formed P e=true->DataW.trod (funcToken P) P W l u true i e v.cells.toList=some y->X2 c y.1≠ .bad->conc σ (X2 c y.1)=some v:=by
 intro i v y o h a;have B:v.cells.toList=[v]:=by
  cases v with
  |agg H=>simp[Value.formed,q] at o
  |tuple H=>simp[Value.formed] at o
  |_=>simp[Value.cells]
 rw[B] at h;have⟨d,p⟩:=y;unfold X2 at a⊢;split at a
 .rename_i n k;simp only at k;subst k
  cases g:c.find? (fun z=>z.1==n) with
  |none=>grind
  |some z=>
   have A:=List.find?_some g;have C:=List.mem_of_find?_eq_some g;have m:z.1=n:=by simpa using A
   have⟨G,D⟩:=j z C;subst m;have⟨s,J⟩:=z
   cases s with
   |nil=>exact absurd rfl G
   |cons b r=>
    have:=func_of_trod q D h;subst this;simp[conc,B2]
 .exact absurd rfl a
end Go.Refl
namespace Go.Refl
open Go.Proofs Go.RowKit Go.Proofs.Tryz
variable{d:BJ}
theorem Dw {e:AV×AV×Nat} {g:List (AV×AV×Nat)} {l:List MapEntry} (h:Ci d (e::g)=some l):
  ∃k v c,conc d e.1=some k/\conc d e.2.1=some v/\Ci d g=some c/\l={key:=k,val:=v,born:=e.2.2}::c:=by
 have⟨a,b,n⟩:=e;simp[Ci] at h
 cases f:conc d a with
 |none=>rw[f] at h;cases h
 |some k=>
  cases i:conc d b with
  |none=>rw[f,i] at h;cases h
  |some v=>
   cases j:Ci d g with
   |none=>rw[f,i,j] at h;cases h
   |some c=>grind
variable{x:Value}
theorem Rx {s:List Nat} (h:conc d (.str s)=some x):Cy s=true/\x= .string (bytesOf s):=by
 simp only[conc] at h;split at h
 .rename_i a;cases h;exact⟨a,rfl⟩
 .cases h
variable{n:Int}
theorem FF {k:IntKind} (h:conc d (.int k n)=some x):x= .int k n:=by
 simp[conc] at h;cases h;rfl
theorem Ry:∀s:List Nat,lG s s=true
 |[]=>rfl
 |x::s=>by
  show cond (Nat.beq x x) (lG s s) false=true;rw[Ry s,Fx];rfl
theorem Pq {d:BJ} {s:List Nat} {n:Nat} (h:Cy s=true):∀(g:List (AV×AV×Nat)) (l:List MapEntry),Ul s n g=true->Ci d g=some l->
  ∀x∈l,x.born≠n/\x.key≠ .string (bytesOf s)
 |[],l,_,hl,x,f=>by simp[Ci] at hl;subst hl;cases f
 |(a,b,m)::g,l,hf,hl,x,f=>by
  have c:(match(generalizing:=false) a with| .str t=>cond (Nat.beq m n) false (cond (lG s t) false (Ul s n g))|_=>false)=true:=hf;obtain⟨k,v,j,q,u,p,rfl⟩:=Dw hl
  cases a with
  |str t=>
   have⟨r,c⟩:=Eh c;have⟨i,c⟩:=Eh c;obtain⟨o,rfl⟩:=Rx q;rcases Az.1 f with rfl|f
   .refine⟨U7 r,fun e=>?_⟩;simp[Value.string.injEq] at e;have:=J2 o h e;subst this;rw[Ry] at i;cases i
   .exact Pq h g j c p x f
  |_=>cases c
theorem Pt {d:BJ} {e:Nat}:∀(f:List (AV×AV×Nat)) (l:List MapEntry),YI e f=true->Ci d f=some l->
  ((∀x∈l,x.born<e)/\(l.map (·.born)).Nodup/\(l.map (·.key)).Nodup)/\∀x∈l,∃s,Cy s=true/\x.key= .string (bytesOf s)
 |[],l,_,hl=>by simp[Ci] at hl;subst hl;simp
 |(a,b,m)::f,l,hf,hl=>by
  have c:=hf;obtain⟨k,v,h,p,u,i,rfl⟩:=Dw hl
  cases a with
  |str t=>
   have⟨r,c⟩:=Bs c;have⟨q,c⟩:=Bs c;obtain⟨o,rfl⟩:=Rx p;have⟨⟨q1,q2,q3⟩,q4⟩:=Pt f h c i;have j:=Pq o f h q i;refine⟨⟨fun x g=>?_,?_,?_⟩,fun x g=>?_⟩
   .rcases Az.1 g with rfl|g
    .exact ble_eq r
    .exact q1 x g
   .grind
   .grind
   .grind
  |_=>cases c
theorem N5 {d:BJ} {n:Int}:∀(f:List (AV×AV×Nat)) (l:List MapEntry),Vv n f=true->Ci d f=some l->∀x∈l,(∃v,x.val= .int .i64 v)/\Vw x.val≠n
 |[],l,_,hl,x,e=>by simp[Ci] at hl;subst hl;cases e
 |(a,b,m)::f,l,hf,hl,x,e=>by
  have c:(match(generalizing:=false) b with| .int .i64 m=>cond (Qv m n) false (Vv n f)|_=>false)=true:=hf;obtain⟨k,v,h,p,o,i,rfl⟩:=Dw hl;split at c
  .rename_i j;have⟨g,c⟩:=Eh c;have:=FF o;subst this;rcases Az.1 e with rfl|e
   .refine⟨⟨j,rfl⟩,?_⟩;rw[Gc] at g;simpa[Vw] using g
   .exact N5 f h c i x e
  .cases c
theorem N6 {n:Int} {g:AV->Bool} {z:Unit->Bool}:∀(i:List (AV×AV×Nat)),YJ n i g z=true->
  (∀d l,Ci d i=some l->∀x∈l,∃v,x.val= .int .i64 v)/\((∃k,g k=true/\∀d l,Ci d i=some l->(∃x∈l,Vw x.val=n)/\∀x∈l,Vw x.val=n->conc d k=some x.key)∨
   (z ()=true/\∀d l,Ci d i=some l->∀x∈l,Vw x.val≠n))
 |[],hz=>⟨fun d l e x c=>by(simp[Ci] at e;subst e;cases c),.inr ⟨hz,fun d l e x c=>by(simp[Ci] at e;subst e;cases c)⟩⟩
 |(a,b,m)::i,hf=>by
  have f:(match(generalizing:=false) b with| .int .i64 m=>cond (Qv m n) (cond (Vv n i) (g a) false) (YJ n i g z)|_=>false)=true:=hf;split at f
  .rename_i j
   cases h:Qv j n with
   |true=>
    rw[h,cond_true] at f;have⟨y,u⟩:=Bs f;rw[Gc] at h;have h:j=n:=by simpa using h
    subst h;refine⟨fun d l e x c=>?_,.inl ⟨a,u,fun d l e=>?_⟩⟩
    .obtain⟨k,v,o,s,r,p,rfl⟩:=Dw e;have:=FF r;subst this;rcases Az.1 c with rfl|c
     .exact⟨_,rfl⟩
     .exact(N5 i o y p x c).1
    .obtain⟨k,v,o,s,r,p,rfl⟩:=Dw e;have:=FF r;subst this;refine⟨⟨_,List.mem_cons_self,rfl⟩,fun x c t=>?_⟩;rcases Az.1 c with rfl|c
     .exact s
     .exact absurd t (N5 i o y p x c).2
   |false=>
    rw[h,cond_false] at f;have⟨C,B⟩:=N6 i f;rw[Gc] at h;have h:j≠n:=by simpa using h
    refine⟨fun d l e x c=>?_,?_⟩
    .obtain⟨k,v,o,s,r,p,rfl⟩:=Dw e;have:=FF r;subst this;rcases Az.1 c with rfl|c
     .exact⟨_,rfl⟩
     .exact C d o p x c
    .rcases B with⟨q,q1,q2⟩|⟨q1,q2⟩
     .refine .inl ⟨q,q1,fun d l e=>?_⟩;obtain⟨k,v,o,s,r,p,rfl⟩:=Dw e;have:=FF r;subst this;have⟨⟨A,q3,q4⟩,q5⟩:=q2 d o p;refine⟨⟨A,Dk _ q3,q4⟩,fun x c t=>?_⟩;rcases Az.1 c with rfl|c
      .exact absurd t h
      .exact q5 x c t
     .refine .inr ⟨q1,fun d l e x c=>?_⟩;obtain⟨k,v,o,s,r,p,rfl⟩:=Dw e;have:=FF r;subst this;rcases Az.1 c with rfl|c
      .exact h
      .exact q2 d o p x c
  .cases f
theorem BK.junk {C:Ctx} {h:AH} {w e:World} (k:BK C d h w) (f:Below w.heap.size w e):BK C d h e:=by
 have old:∀c p y,h.m.get c=some p->d c=some y->p.owns=true->e.heap[y.blk]?=w.heap[y.blk]?:=fun c p y b a i=>f.block _ ((k.obj c p y b a).lt i)
 refine⟨k.below.trans (f.mono k.base),Bj k.base f.size,k.glob,k.fresh,k.nx,fun c p y b a=>?_,k.own,k.apart⟩;by_cases g:p.owns=true
 .exact(k.obj c p y b a).mono (BJ.le.refl d) (old c p y b a g)
 .exact(k.obj c p y b a).ownless (BJ.le.refl d) (by simpa using g)
theorem VR.map_at {b:Nat} (h:VR d (.map b) x):∃y,d b=some y/\x= .map (some y.blk):=by
 have:=VR.conc h oS;simp[Refl.conc,Af] at this;have⟨y,a,e⟩:=this;exact⟨y,a,e.symm⟩
theorem iP {C:Ctx} {b:Nat} {h:AH} {g:AV->AH->Bool} (j:mW b n h g=true):∃v P,g v P=true/\ET prog C 239 [.map b,.int .i64 n] h v P:=by
 unfold mW at j;split at j
 .rename_i t l ro U;have⟨G,j⟩:=Bs j;have i:∀w u,(callFunc 239 u).run prog w= .ok (.enter 239 u) w:=fun w u=>enters_of func239 oK rfl _ _
  have f:∀(d:BJ) (w:World) (a:List Value),BK C d h w->E8 d [.map b,.int .i64 n] a->∃c:Array MapEntry,Ci d t=some c.toList/\
    CallsIn Fence.wide 0 prog 239 a.toArray w fun e r=>BK C d h r/\∃s,e= .returned (.string s)/\((∃x∈c.toList,x.key= .string s/\Vw x.val=n)∨(s=⟨#[]⟩/\∀x∈c.toList,Vw x.val≠n)):=fun d w a k p=>by
   obtain⟨x,y,rfl,O,S⟩:=p.two;obtain⟨M,B,rfl⟩:=O.map_at;have:=S.int;subst this;have⟨c,q1,q2⟩:=k.obj b _ M U B;have⟨r1,r2⟩:=Pt t _ G q2;have r3:=(N6 t j).1 d _ q2;refine⟨c,q2,callsIn_wide.2 ((Xv M.blk c l n w q1 r1 fun x O=>?_).mono ?_)⟩
   .grind
   .rintro e r ⟨⟨s,rfl,m⟩,Y⟩;exact⟨k.junk Y,s,rfl,m⟩
  rcases(N6 t j).2 with⟨z,J,o⟩|⟨J,H⟩
  .refine⟨z,h,J,i,fun d w a k p=>?_⟩;have⟨c,q2,D⟩:=f d w a k p;have⟨⟨R,a1,a2⟩,Z⟩:=o d _ q2;refine D.mono ?_;rintro e r ⟨A,s,rfl,m⟩;rcases m with⟨x,q,Q,L⟩|⟨_,q⟩
   .exact⟨_,d,rfl,BJ.le.refl d,A,.inr (by rw[Z x q L,Q])⟩
   .exact absurd a2 (q R a1)
  .refine⟨.str [],h,J,i,fun d w a k p=>?_⟩;have⟨c,q2,D⟩:=f d w a k p;refine D.mono ?_;rintro e r ⟨A,s,rfl,m⟩;rcases m with⟨x,q,Q,L⟩|⟨rfl,_⟩
   .exact absurd L (H d _ q2 x q)
   .exact⟨_,d,rfl,BJ.le.refl d,A,.inr rfl⟩
 .cases j
end Go.Refl
