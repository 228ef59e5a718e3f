/- A part of the proof of TopBudgetHonest. -/
import Derived.Test.YtboflajfckfphaaGreatDoorO
set_option linter.all false
namespace Go.Refl
open Go.Proofs Go.RowKit Go.Proofs.YtboflajfckfphaaGreatDoor Go.Proofs.Tryz
section
def Iy (k:Nat):String:=((Rows.topBudgetHonestRow.laid[k]?).map (·.1)).getD ""
variable{W:World} {c:BJ}
theorem nv (a:W.ShapedOpen prog) (b:laidMetH prog Rows.topBudgetHonestRow.laid W):OR c ⟨6,0,0⟩ W kn:=
 In a b (n:=Iy 12) (d:=Rows.laid_chalkline_types_asks) (by simp[Iy,Rows.topBudgetHonestRow]) oK oK oD oK oK oK oK
theorem nz (a:W.ShapedOpen prog) (b:laidMetH prog Rows.topBudgetHonestRow.laid W):OR c ⟨7,0,0⟩ W kq:=
 In a b (n:=Iy 4) (d:=Rows.laid_chalkline_flat_idle) (by simp[Iy,Rows.topBudgetHonestRow]) oK oK oD oK oK oK oK
theorem mO (a:W.ShapedOpen prog) (b:laidMetH prog Rows.topBudgetHonestRow.laid W):OR c ⟨12,0,0⟩ W aO:=
 In a b (n:=Iy 13) (d:=Rows.laid_chalkline_types_takes) (by simp[Iy,Rows.topBudgetHonestRow]) oK oK oD oK oK oK oK
theorem mP (a:W.ShapedOpen prog) (b:laidMetH prog Rows.topBudgetHonestRow.laid W):OR c ⟨16,0,0⟩ W aP:=
 In a b (n:=Iy 0) (d:=Rows.laid_math_bits_deBruijn32tab) (by simp[Iy,Rows.topBudgetHonestRow]) oK oK oD oK oK oK oK
theorem mQ (a:W.ShapedOpen prog) (b:laidMetH prog Rows.topBudgetHonestRow.laid W):OR c ⟨17,0,0⟩ W aQ:=
 In a b (n:=Iy 1) (d:=Rows.laid_math_bits_deBruijn64tab) (by simp[Iy,Rows.topBudgetHonestRow]) oK oK oD oK oK oK oK
def entries {H:Type}:DataW H->List (Lit×DataW H)
 | .map es=>es
 |_=>[]
variable{es:List (AV×AV)}
theorem Sd (h:es.all (fun z=>match z.1 with| .str _=>true|_=>false)=true):∀z∈es,∃s,z.1= .str s:=fun z a=>by
 have:=Bi.1 h z a;split at this
 .exact⟨_,by assumption⟩
 .cases this
theorem kind_int (h:es.all (fun z=>match z.1 with| .int .i64 _=>true|_=>false)=true):∀z∈es,∃n,z.1= .int .i64 n:=fun z a=>by
 have:=Bi.1 h z a;split at this
 .exact⟨_,by assumption⟩
 .cases this
theorem ez (h:es.all (fun z=>match z.2 with| .bad=>false|_=>true)=true) {a:AV} (d:a∈es.map (·.2)):a≠ .bad:=by
 obtain⟨z,b,rfl⟩:=BB.1 d;have:=Bi.1 h z b;intro e;rw[e] at this;cases this
theorem Q7 (L:W.ShapedOpen prog) {l:List (String×DataW Unit)} (S:laidMetH prog l W) {n:String} {D:List (Lit×DataW Unit)} (H:(n,.map D)∈l) {g:Nat} {t k e:TypeId} {d:TypeDesc}
  (A:prog.globalNamed n=some g) (q:g<19) (r:(prog.globals[g]?).map (·.type)=some t) (j:((Wf.heap[g]?).bind Obj.row?).map (·.2)=some t)
  (J:prog.underlying t=some (.map k e)) (P:prog.underlying e=some d) (Q:Nb d=true) {es:List (AV×AV)} (s:D.map (Lp We)=es)
  (a:(prog.underlying k=some .string/\es.all (fun z=>match z.1 with| .str _=>true|_=>false)=true)∨(prog.underlying k=some (.int .i64)/\es.all (fun z=>match z.1 with| .int .i64 _=>true|_=>false)=true)):
  ∃b,W.heap[g]?=some (.cells #[.map (some b)] t)/\∀c,OR c ⟨b,0,0⟩ W (.lmap es):=by
 obtain⟨g',Z,arr,f,p,C,B,Y,U⟩:=UO S H rfl;rw[A] at C;cases C;rw[r] at B;cases B;obtain⟨o,x⟩:=UM L q j;have:=Nu A Y x;subst this;have i:∀c,∃b,o.toList=[.map (some b)]/\OR c ⟨b,0,0⟩ W (.lmap es):=fun c=>by
  refine YT (datA:=We) J U ?_ (fun f v y O G _=>aL P Q f v y O G) s ?_
  .rcases a with⟨h,_⟩|⟨h,_⟩
   .exact UK h
   .exact UL h
  .rcases a with⟨_,h⟩|⟨_,h⟩
   .exact .inl (Sd h)
   .exact .inr ⟨_,kind_int h⟩
 obtain⟨b,R,_⟩:=i ⟨fun _=>none,0⟩;have u:o=#[.map (some b)]:=by apply Array.toList_inj.1;simpa using R
 subst u;refine⟨b,x,fun c=>?_⟩;obtain⟨b',m,M⟩:=i c;simp only[List.cons.injEq,Value.map.injEq,A0,and_true] at m;rw[m];exact M
theorem Vn (Y:W.ShapedOpen prog) {l:List (String×DataW Unit)} (hL:laidMetH prog l W) {n:String} {d0:DataW Unit} {D:List (Lit×DataW (List UInt8))} (S:(n,.iface "func table" d0)∈l) (hD:d0.funcsOut= .map D) {g:Nat} {t k e:TypeId} {ps P:Array TypeId} {O:Bool}
  (H:prog.globalNamed n=some g) (x:g<19) (A:(prog.globals[g]?).map (·.type)=some t) (m:((Wf.heap[g]?).bind Obj.row?).map (·.2)=some t)
  (U:prog.underlying t=some (.map k e)) (he:prog.underlying e=some (.func ps P O)) {i:List (List UInt8×Nat)}
  (o:∀z∈i,z.1≠[]/\((List.range prog.funcs.size).filter fun f=>(prog.funcs[f]?).any (·.name.toUTF8.data.toList==z.1))=[z.2]) {es:List (AV×AV)} (q:D.map (Lp (X2 i))=es)
  (B:es.all (fun z=>match z.2 with| .bad=>false|_=>true)=true)
  (a:(prog.underlying k=some .string/\es.all (fun z=>match z.1 with| .str _=>true|_=>false)=true)∨(prog.underlying k=some (.int .i64)/\es.all (fun z=>match z.1 with| .int .i64 _=>true|_=>false)=true)):
  ∃b,W.heap[g]?=some (.cells #[.map (some b)] t)/\∀c,OR c ⟨b,0,0⟩ W (.lmap es):=by
 obtain⟨g',t',arr,d,p,M,L,h3,J⟩:=hL.funcs S;rw[H] at M;cases M;rw[A] at L;cases L;rw[hD] at J;obtain⟨s,G⟩:=UM Y x m;have:=Nu H h3 G;subst this;have j:∀c,∃b,s.toList=[.map (some b)]/\OR c ⟨b,0,0⟩ W (.lmap es):=fun c=>by
  refine YT (datA:=X2 i) U J ?_ (fun d v y hf R hm=>X3 he o d v y hf R ?_) q ?_
  .rcases a with⟨h,_⟩|⟨h,_⟩
   .exact UK h
   .exact UL h
  .refine ez B ?_;rw[<-q,EN];obtain⟨z,Q,u⟩:=BB.1 hm;exact BB.2 ⟨z,Q,by simp[Lp,u]⟩
  .rcases a with⟨_,h⟩|⟨_,h⟩
   .exact .inl (Sd h)
   .exact .inr ⟨_,kind_int h⟩
 obtain⟨b,hb,_⟩:=j ⟨fun _=>none,0⟩;have C:s=#[.map (some b)]:=by apply Array.toList_inj.1;simpa using hb
 subst C;refine⟨b,G,fun c=>?_⟩;obtain⟨b',r,Z⟩:=j c;simp only[List.cons.injEq,Value.map.injEq,A0,and_true] at r;rw[r];exact Z
noncomputable def lm:AO->List (AV×AV)
 | .lmap es=>es
 |_=>[]
theorem oB (a:W.ShapedOpen prog) (e:laidMetH prog Rows.topBudgetHonestRow.laid W):∃b,W.heap[2]?=some (.cells #[.map (some b)] 362)/\∀c,OR c ⟨b,0,0⟩ W Rp:=
 Q7 a e (n:=Iy 11) (D:=entries Rows.laid_chalkline_formula_arity) (by simp[Iy,Rows.topBudgetHonestRow,entries,Rows.laid_chalkline_formula_arity]) oK oD oK oK underlying362 underlying3 (d:=(.int .i64)) rfl (es:=lm Rp) oK (.inr ⟨underlying3,oK⟩)
theorem oE (a:W.ShapedOpen prog) (e:laidMetH prog Rows.topBudgetHonestRow.laid W):∃b,W.heap[3]?=some (.cells #[.map (some b)] 214)/\∀c,OR c ⟨b,0,0⟩ W Rq:=
 Q7 a e (n:=Iy 10) (D:=entries Rows.laid_chalkline_formula_signs) (by simp[Iy,Rows.topBudgetHonestRow,entries,Rows.laid_chalkline_formula_signs]) oK oD oK oK underlying214 underlying9 (d:= .string) rfl (es:=lm Rq) oK (.inl ⟨underlying9,oK⟩)
theorem oG (a:W.ShapedOpen prog) (e:laidMetH prog Rows.topBudgetHonestRow.laid W):∃b,W.heap[5]?=some (.cells #[.map (some b)] 161)/\∀c,OR c ⟨b,0,0⟩ W TE:=
 Q7 a e (n:=Iy 9) (D:=entries Rows.laid_chalkline_formula_reserved) (by simp[Iy,Rows.topBudgetHonestRow,entries,Rows.laid_chalkline_formula_reserved]) oK oD oK oK underlying161 underlying4 (d:= .bool) rfl (es:=lm TE) oK (.inl ⟨underlying9,oK⟩)
def jG:List (List UInt8×Nat):=[([99,104,97,108,107,108,105,110,101,47,101,118,97,108,46,115,105,103,110,115,36,50],489),([99,104,97,108,107,108,105,110,101,47,101,118,97,108,46,115,105,103,110,115,36,51],490),([99,104,97,108,107,108,105,110,101,47,101,118,97,108,46,115,105,103,110,115,36,52],491),([99,104,97,108,107,108,105,110,101,47,101,118,97,108,46,115,105,103,110,115,36,49],488),([99,104,97,108,107,108,105,110,101,47,101,118,97,108,46,115,105,103,110,115,36,53],492),([99,104,97,108,107,108,105,110,101,47,101,118,97,108,46,115,105,103,110,115,36,54],493)]
theorem bP:∀z∈jG,z.1≠[]/\((List.range prog.funcs.size).filter fun f=>(prog.funcs[f]?).any (·.name.toUTF8.data.toList==z.1))=[z.2]:=by
 intro z a;simp[jG,Az,Dm,or_false] at a;rcases a with rfl|rfl|rfl|rfl|rfl|rfl
 .exact⟨oS,oK⟩
 .exact⟨oS,oK⟩
 .exact⟨oS,oK⟩
 .exact⟨oS,oK⟩
 .exact⟨oS,oK⟩
 .exact⟨oS,oK⟩
theorem oH (a:W.ShapedOpen prog) (d:laidMetH prog Rows.topBudgetHonestRow.laid W):∃b,W.heap[0]?=some (.cells #[.map (some b)] 306)/\∀c,OR c ⟨b,0,0⟩ W Rm:=
 Vn a d (n:=Iy 14) (d0:=(Rows.laid_chalkline_eval_signs:DataW Unit).funcsIn?.getD .nil) (D:=entries ((Rows.laid_chalkline_eval_signs:DataW Unit).funcsIn?.getD .nil).funcsOut) (by simp[Iy,Rows.topBudgetHonestRow,DataW.funcsIn?,Rows.laid_chalkline_eval_signs]) oK oK oD oK oK underlying306 underlying147 bP (es:=lm Rm) oK oK (.inl ⟨underlying9,oK⟩)
def jH:List (List UInt8×Nat):=[([99,104,97,108,107,108,105,110,101,47,101,118,97,108,46,97,116,111,109,115,36,49],494),([99,104,97,108,107,108,105,110,101,47,101,118,97,108,46,97,116,111,109,115,36,50],495),([99,104,97,108,107,108,105,110,101,47,101,118,97,108,46,97,116,111,109,115,36,51],496),([99,104,97,108,107,108,105,110,101,47,101,118,97,108,46,97,116,111,109,115,36,52],498),([99,104,97,108,107,108,105,110,101,47,101,118,97,108,46,97,116,111,109,115,36,53],500),([99,104,97,108,107,108,105,110,101,47,101,118,97,108,46,97,116,111,109,115,36,54],502)]
theorem bQ:∀z∈jH,z.1≠[]/\((List.range prog.funcs.size).filter fun f=>(prog.funcs[f]?).any (·.name.toUTF8.data.toList==z.1))=[z.2]:=by
 intro z a;simp[jH,Az,Dm,or_false] at a;rcases a with rfl|rfl|rfl|rfl|rfl|rfl
 .exact⟨oS,oK⟩
 .exact⟨oS,oK⟩
 .exact⟨oS,oK⟩
 .exact⟨oS,oK⟩
 .exact⟨oS,oK⟩
 .exact⟨oS,oK⟩
theorem oI (a:W.ShapedOpen prog) (d:laidMetH prog Rows.topBudgetHonestRow.laid W):∃b,W.heap[1]?=some (.cells #[.map (some b)] 310)/\∀c,OR c ⟨b,0,0⟩ W Rn:=
 Vn a d (n:=Iy 15) (d0:=(Rows.laid_chalkline_eval_atoms:DataW Unit).funcsIn?.getD .nil) (D:=entries ((Rows.laid_chalkline_eval_atoms:DataW Unit).funcsIn?.getD .nil).funcsOut) (by simp[Iy,Rows.topBudgetHonestRow,DataW.funcsIn?,Rows.laid_chalkline_eval_atoms]) oK oK oD oK oK underlying310 underlying308 bQ (es:=lm Rn) oK oK (.inr ⟨underlying3,oK⟩)
theorem OR.ne_map {a b:Nat} {t:List (AV×AV)} (U:OR c ⟨a,0,0⟩ W (.lmap es)) (S:OR c ⟨b,0,0⟩ W (.lmap t)) {f:Value->Value->Bool}
  (o:es≠[]) (R:∀e∈es,∀k v,conc c e.1=some k->conc c e.2=some v->f k v=true) (Q:∀e∈t,∀k v,conc c e.1=some k->conc c e.2=some v->f k v=false):a≠b:=by
 intro p;subst p;obtain⟨L,c1,e1,a1,A,_,_,y⟩:=U;obtain⟨l2,c2,i,u,b2,_,_,Z⟩:=S;rw[a1] at u;cases u;have d:∀(i:List (AV×AV×Nat)) (l:List MapEntry),Ci c i=some l->∀x∈l,∃z∈i,conc c z.1=some x.key/\conc c z.2.1=some x.val:=by
  intro i
  induction i with
  |nil=>intro l h x g;simp[Ci] at h;subst h;cases g
  |cons z i O=>
   intro l h x g;obtain⟨k,v,M,q1,q2,q3,rfl⟩:=Dw h;rcases Az.1 g with rfl|g
   .exact⟨z,oS,q1,q2⟩
   .obtain⟨D,P,r⟩:=O M q3 x g;exact⟨D,by simp[P],r⟩
 have j:L.toList≠[]:=by
  intro Y;have:=GP y;rw[Y] at this;have q:=A.length_eq;simp at this q;rw[<-this] at q;exact o (BY (by simpa using q.symm))
 obtain⟨x,g⟩:=List.exists_mem_of_ne_nil _ j;obtain⟨C,n,H,G⟩:=d _ _ y x g;obtain⟨B,m,r1,r2⟩:=d _ _ Z x g;have J:=R _ (A.mem_iff.1 (BB.2 ⟨C,n,rfl⟩)) x.key x.val H G;have s:=Q _ (b2.mem_iff.1 (BB.2 ⟨B,m,rfl⟩)) x.key x.val r1 r2;rw[J] at s;cases s
end
end Go.Refl
