/- A part of TopBudgetHonest. -/
import Derived.LaidMore
import Derived.Lay
import Derived.Test.YtboflajfckfphaaGreatDoorRows
namespace Go.Proofs.YtboflajfckfphaaGreatDoor
open Go Go.Proofs.Tryz
def fj:Obj:= .map #[⟨.string ⟨#[33,61]⟩,.func (.func 489) #[] #[],0⟩,⟨.string ⟨#[60]⟩,.func (.func 490) #[] #[],1⟩,⟨.string ⟨#[60,61]⟩,.func (.func 491) #[] #[],2⟩,⟨.string ⟨#[61]⟩,.func (.func 488) #[] #[],3⟩,⟨.string ⟨#[62]⟩,.func (.func 492) #[] #[],4⟩,⟨.string ⟨#[62,61]⟩,.func (.func 493) #[] #[],5⟩] 6
def fk:Obj:= .map #[⟨.int .i64 3,.func (.func 494) #[] #[],0⟩,⟨.int .i64 4,.func (.func 495) #[] #[],1⟩,⟨.int .i64 5,.func (.func 496) #[] #[],2⟩,⟨.int .i64 6,.func (.func 498) #[] #[],3⟩,⟨.int .i64 7,.func (.func 500) #[] #[],4⟩,⟨.int .i64 8,.func (.func 502) #[] #[],5⟩] 6
def fm:Obj:= .map #[⟨.int .i64 1,.int .i64 0,0⟩,⟨.int .i64 2,.int .i64 0,1⟩,⟨.int .i64 3,.int .i64 0,2⟩,⟨.int .i64 4,.int .i64 0,3⟩,⟨.int .i64 5,.int .i64 0,4⟩,⟨.int .i64 6,.int .i64 0,5⟩,⟨.int .i64 7,.int .i64 0,6⟩,⟨.int .i64 8,.int .i64 0,7⟩,⟨.int .i64 9,.int .i64 0,8⟩,⟨.int .i64 10,.int .i64 1,9⟩,⟨.int .i64 11,.int .i64 2,10⟩,⟨.int .i64 12,.int .i64 2,11⟩,⟨.int .i64 13,.int .i64 2,12⟩,⟨.int .i64 14,.int .i64 1,13⟩,⟨.int .i64 15,.int .i64 1,14⟩,⟨.int .i64 16,.int .i64 1,15⟩,⟨.int .i64 17,.int .i64 1,16⟩] 17
def fo:Obj:= .map #[⟨.string ⟨#[33,61]⟩,.string ⟨#[61]⟩,0⟩,⟨.string ⟨#[60]⟩,.string ⟨#[62,61]⟩,1⟩,⟨.string ⟨#[60,61]⟩,.string ⟨#[62]⟩,2⟩,⟨.string ⟨#[61]⟩,.string ⟨#[33,61]⟩,3⟩,⟨.string ⟨#[62]⟩,.string ⟨#[60,61]⟩,4⟩,⟨.string ⟨#[62,61]⟩,.string ⟨#[60]⟩,5⟩] 6
def ft:Obj:= .map #[⟨.string ⟨#[97,108,108]⟩,.bool true,0⟩,⟨.string ⟨#[97,116]⟩,.bool true,1⟩,⟨.string ⟨#[97,116,116,101,110,100,115]⟩,.bool true,2⟩,⟨.string ⟨#[97,119,97,121]⟩,.bool true,3⟩,⟨.string ⟨#[100,97,121]⟩,.bool true,4⟩,⟨.string ⟨#[101,97,99,104]⟩,.bool true,5⟩,⟨.string ⟨#[102,97,108,115,101]⟩,.bool true,6⟩,⟨.string ⟨#[103,114,111,117,112]⟩,.bool true,7⟩,⟨.string ⟨#[104,97,114,100]⟩,.bool true,8⟩,⟨.string ⟨#[104,111,117,114]⟩,.bool true,9⟩,⟨.string ⟨#[104,111,117,115,101]⟩,.bool true,10⟩,⟨.string ⟨#[105,110]⟩,.bool true,11⟩,⟨.string ⟨#[108,101,97,115,116]⟩,.bool true,12⟩,⟨.string ⟨#[108,101,115,115,111,110]⟩,.bool true,13⟩,⟨.string ⟨#[109,111,115,116]⟩,.bool true,14⟩,⟨.string ⟨#[112,101,114,115,111,110]⟩,.bool true,15⟩,⟨.string ⟨#[114,111,111,109]⟩,.bool true,16⟩,⟨.string ⟨#[115,101,97,116,115]⟩,.bool true,17⟩,⟨.string ⟨#[115,104,117,116]⟩,.bool true,18⟩,⟨.string ⟨#[115,105,122,101]⟩,.bool true,19⟩,⟨.string ⟨#[115,108,111,116]⟩,.bool true,20⟩,⟨.string ⟨#[115,111,102,116]⟩,.bool true,21⟩,⟨.string ⟨#[115,111,109,101]⟩,.bool true,22⟩,⟨.string ⟨#[116,101,97,99,104,101,115]⟩,.bool true,23⟩,⟨.string ⟨#[116,114,117,101]⟩,.bool true,24⟩] 25
noncomputable def Vz (a:Os):World:=
 let h:=World.holding prog a ⟨#[],#[],[]⟩
 {h with heap:=⟨Lay.setRows h.heap.toList [(0,[.map (some 24)]),(1,[.map (some 25)]),(2,[.map (some 26)]),(3,[.map (some 27)]),(5,[.map (some 28)])]++[fj,fk,fm,fo,ft]⟩}
def Og:List String:=[0,1,2,3,4,5,6,7,8,12,13,16].map fun k=>((Rows.topBudgetHonestRow.laid[k]?).map (·.1)).getD ""
def Oh:List (String×DataW Unit):=Rows.topBudgetHonestRow.laid.filter fun x=>x.2.handleName?.isNone
noncomputable def Ic (a:Os):World:=(Vz a).layVars prog (Oh.filter fun x=>Og.contains x.1)
theorem WQ (a:Os):(Ic a).os=a:=World.layVars_os _ _ _
def aJ:List Nat:=[0,1,2,3,5,24,25,26,27,28]
theorem jf (a:Os):(Vz a).layFits prog (Oh.filter fun x=>Og.contains x.1) aJ=true:=by kernel_rfl
theorem nY (w:World) (a:Array Value):(w.forCall (fun _ _=>0) ⟨#[],a,[]⟩).memory.heap=w.heap:=by simp[World.memory,World.forCall,Input.heap]
noncomputable def dD (b:Os) (a:Array Value):World:=((Ic b).forCall (fun _ _=>0) ⟨#[],a,[]⟩)
noncomputable def OS (b:Os) (a:Array Value):World:=(dD b a).memory
theorem WM (b:Os) (a:Array Value):(OS b a).heap=(Ic b).heap:=nY _ _
theorem kp {P:Program} {w:World} {l} {B:List Nat} (h:w.layFits P l B=true):∀k∈B,(w.layVars P l).heap[k]?=w.heap[k]?:=by
 intro k m
 unfold World.layFits at h;unfold World.layVars;split at h
 .rename_i y _;simp only[Bool.and_eq_true,List.all_eq_true,decide_eq_true_eq,Bool.not_eq_true'] at h
  have n:k∉y.1.map (·.1):=by
   intro e;obtain⟨r,hr,e⟩:=List.mem_map.1 e;have:=(h.1.2 r hr).2;simp_all
  have t:=h.2 k m
  simp only[List.getElem?_toArray];rw[List.getElem?_append_left (by rw[Lay.setRows_length];simpa),Lay.setRows_other _ _ _ n];simp
 .cases h
def fp (P:Program) (w:World) (n:Nat) (B:List Nat):List String→Option (List (DataW (List UInt8)))
 |[]=>some []
 |s::l=>(P.globalNamed s).bind fun g=>((P.globals[g]?).map (·.type)).bind fun t=>(w.var? P s).bind fun c=>(DataW.trod (funcToken P) P w 0 (fun _=>true) true n t c.toList).bind fun x=>if B.contains g&&x.2.all (B.contains ·.block) then (fp P w n B l).map (x.1::·) else none
theorem fq {P:Program} {w v:World} {n:Nat} {B:List Nat} (h:∀k∈B,v.heap[k]?=w.heap[k]?):∀{l y},fp P w n B l=some y→funcsRun P v n l=some y
 |[],_,e=>e
 |s::l,y,e=>by
  simp only[fp,Option.bind_eq_some_iff] at e;obtain⟨g,e1,t,e2,c,e3,x,e4,e⟩:=e;split at e
  .rename_i q;simp only[Bool.and_eq_true,List.all_eq_true,List.contains_iff_mem] at q;obtain⟨z,e5,rfl⟩:=Option.map_eq_some_iff.1 e
   have e6:v.var? P s=some c:=by rw[<-e3];simp only[World.var?,e1,Option.bind_some,h g q.1]
   have e7:=DataW.trod_carry (w':=v) _ _ _ _ e4 fun
    |.cell d o,p=>by have z:v.heap[d]?=w.heap[d]?:=h d (q.2 _ p);simp only[World.sameAt,World.cell?,z]
    |.map d,p=>h d (q.2 _ p)
   simp only[funcsRun,e1,e2,e6,e7,fq h e5]
  .cases e
theorem cM (b:Os):fp prog (Vz b) 8 aJ ((funcsListed Rows.topBudgetHonestRow.laid).map (·.1))=some ((funcsListed Rows.topBudgetHonestRow.laid).map (·.2.funcsOut)):=by kernel_rfl
theorem eo (b:Os) (a:Array Value):funcsRun prog (OS b a) 8 ((funcsListed Rows.topBudgetHonestRow.laid).map (·.1))=some ((funcsListed Rows.topBudgetHonestRow.laid).map (·.2.funcsOut)):=
 fq (fun k m=>by rw[WM];exact kp (jf b) k m) (cM b)
