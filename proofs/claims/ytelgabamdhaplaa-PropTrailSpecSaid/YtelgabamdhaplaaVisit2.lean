/-
  engine.visit: two open literals: the clause is filed under both; the contract of visit.
-/
import Derived.Test.YtelgabamdhaplaaVisit
namespace Go.Proofs.Ytelgabamdhaplaa
open Go.RowKit

section
variable {B g bm bw : Nat} {A : Option Addr} {n c : Nat} {H : List Nat} {T : Nat} {V : Int → Option Value} {nf : Nat} {Ao : Option Addr} {m co : Nat} {s : PS} {w : World}
theorem fileG_snoc (i : Int) (op : List Int) (f : Int → List Int) {k : Nat} (hk : k < op.length) : fileG i (op.take (k + 1)) f = addTo (fileG i (op.take k) f) (-(op.getD k 0)) i := by
  unfold fileG
  rw [List.take_succ_eq_append_getElem hk, List.foldl_append, List.getD_eq_getElem?_getD, List.getElem?_eq_getElem hk]
  rfl

set_option maxHeartbeats 8000000 in
set_option maxRecDepth 100000 in
theorem visit_two (i : Nat) (op : List Int) (hop : op.length = 2) (hx : ∀ x ∈ op, -65536 ≤ x ∧ x ≤ 65536) (hE : Eng B g bm bw A n c H T V nf Ao m co s w) (hT : T ≤ 8796093022200)
    (CALL : Hid (Calls Try.prog 51 #[.pointer (some ⟨g, 0, none⟩), .int .i64 i] w (RetLook w (op, false)))) :
    Calls Try.prog 42 #[.pointer (some ⟨g, 0, none⟩), .int .i64 i] w (RetVisit B g bm bw A n c H T w ({ s with f := fileG i op s.f }, true)) := by
  obtain ⟨i0, hi0, hz0, hz1, hz2⟩ := info_parts int_info
  have HE := Lib.hid hE
  have HX := Lib.hid hx
  have HOP := Lib.hid hop
  clear hE hx hop
  go_enter Try.func42, Try.ntmps42
  go_wp2_with (fail)
  (with_reducible refine CALL.out.mono ?_)
  rintro e w1 ⟨A1, n1, c1, rfl, ho1, hb1⟩
  have h0 : n1 = 2 := by have := ho1.1; have := HOP.out; simp at *; omega
  subst h0
  have hI1 := Ints.of_ownLt ho1
  have hc1 := hI1.cap
  have hm1 := hI1.max
  unfold maxLen at hm1
  obtain ⟨ad, rfl, hadS, _⟩ := hI1.at_ (k := 0) (by omega)
  have hcur : ∃ cur, w1.heap[ad.block]? = some (.cells cur 3 (0, 0)) := own_cells ho1 rfl
  have hbase : w.heap.size ≤ ad.block := (ho1.lt ad.block rfl).1
  have hE1 : Eng B g bm bw A n c (ad.block :: H) T V nf Ao m co s w1 := (HE.out.keep (fun k hk => hb1.block k hk)).hold fun b hb => by
    rcases List.mem_cons.1 hb with rfl | hb
    · refine ⟨hcur, fun k e => ?_⟩
      have := own_lt (HE.out.rows k) e
      omega
    · exact (HE.out.keep (fun k hk => hb1.block k hk)).held b hb
  have HE1 := Lib.hid hE1
  have HB1 := Lib.hid hb1
  have HI1 := Lib.hid hI1
  clear ho1 hb1 hI1 hadS hE1 hcur hbase CALL
  go_wp2
  go_loopw [8, 17] (fun v8 v17 wr => ∃ (k : Nat) (V' : Int → Option Value) (nf' : Nat), k ≤ 2 ∧ v17 = .int .i64 k ∧ Eng B g bm bw A n c (ad.block :: H) (T + k) V' nf' Ao m co { s with f := fileG i (op.take k) s.f } wr ∧ Below B w wr ∧ ∀ b ∈ ad.block :: H, wr.heap[b]? = w1.heap[b]?) (fun _ v _ => 2 - (intOf v).toNat)
  case atStart => exact ⟨0, V, nf, by omega, rfl, HE1.out, HB1.out.mono HE.out.size, fun _ _ => rfl⟩
  case round =>
    obtain ⟨k, V', nf', hk, rfl, hE', hb, hH⟩ := hrel
    by_cases hlt : k < 2
    case neg =>
      obtain rfl : k = 2 := by omega
      have e2 : op.take 2 = op := List.take_of_length_le (by have := HOP.out; omega)
      rw [e2] at hE'
      have HE' := Lib.hid hE'
      have HB := Lib.hid hb
      have HH := Lib.hid hH
      clear hE' hb hH e2
      go_wp2
      go_ret
      refine ⟨rfl, ⟨_, _, _, _, _, HE'.out.hold fun b hb => HE'.out.held b (List.mem_cons_of_mem _ hb)⟩, HB.out, fun b hb => ?_⟩
      exact (HH.out b (List.mem_cons_of_mem _ hb)).trans (HB1.out.block _ (HE.out.heldLt hb))
    obtain ⟨ad', he, hadS, hcell⟩ := HI1.out.at_ hlt
    injection he with he
    subst he
    have e1 : wr.cell? (ad.add k) = some (.int .i64 (op.getD k 0)) := by
      rw [← hcell]
      exact World.cell?_of_block (by rw [block_of_add]; exact hH _ (by simp))
    have hmem : op.getD k 0 ∈ op := by rw [List.getD_eq_getElem?_getD, List.getElem?_eq_getElem (by have := HOP.out; omega)]; simp
    obtain ⟨hx0, hx1⟩ := HX.out _ hmem
    have HSN := Lib.hid (fileG_snoc i op s.f (k := k) (by have := HOP.out; omega))
    clear hcell hadS hmem
    generalize op.getD k 0 = x at *
    have hwf : (Lit.int .i64 (-x)).wf = true := wf_small (by omega) (by omega)
    have hrow := hE'.rows (-x)
    have hsh := hE'.short (-x)
    obtain ⟨q, hq⟩ : ∃ q, q = (fileG i (op.take k) s.f (-x)).length := ⟨_, rfl⟩
    have hq' : (PS.f { s with f := fileG i (op.take k) s.f } (-x)).length = q := hq.symm
    rw [hq'] at hrow hsh
    obtain ⟨A8, c8, hA8⟩ := own_form hrow
    have l1 : (Instr.lookup 60 (.map (some bw)) (.int .i64 (-x)) false).run Try.prog wr.drew = .ok (.slice A8 q c8) wr.drew := by
      rw [← hA8]
      exact VMap.lookup (hE'.wm.keep (w' := wr.drew) rfl) Try.underlying60 (ints_zero _) hwf
    have l2 : ∀ o : Obj, (Instr.lookup 60 (.map (some bw)) (.int .i64 (-x)) false).run Try.prog (wr.alloc o).drew = .ok (.slice A8 q c8) (wr.alloc o).drew := fun o => by
      rw [← hA8]
      exact VMap.lookup (hE'.wm.keep (w' := (wr.alloc o).drew) (Below.heap_alloc _ _ _ hE'.wm.lt)) Try.underlying60 (ints_zero _) hwf
    have k2 : wr.cell? ⟨g, 2, none⟩ = some (.map (some bw)) := hE'.cell 2
    have k2' : ∀ o : Obj, (wr.alloc o).cell? ⟨g, 2, none⟩ = some (.map (some bw)) := fun o => (World.cell?_alloc_lt _ _ _ (lt_block hE'.blk)).trans k2
    have hBs : B ≤ wr.heap.size := hE'.size
    rw [hA8] at hrow
    have HR : Hid (wr.drew.ownsRow B 3 1 (.slice A8 q c8) q ((fileG i (op.take k) s.f (-x)).map (Value.int .i64))) := own_keep hrow fun _ _ => rfl
    have HE' := Lib.hid hE'
    have HB := Lib.hid hb
    have HH := Lib.hid hH
    have HA8 := Lib.hid hA8
    have HQ := Lib.hid hq
    have hfw := hE'.few
    clear hE' hb hH hrow hA8 hq hq'
    have ww : IntKind.i64.wrap (-x) = -x := IntWalk.i64_in _ (by omega)
    go_upto_region 5 with (fail)
    clear e1
    go_region_law (first
        | (refine step_append_one wr.drew (by rfl) (.tmp 33) (.tmp 35) _ (by rfl) B 3 i0 _ 8 Try.underlying29 hi0 hz0 hz1 hz2 rfl (.slice A8 q c8) q ((fileG i (op.take k) s.f (-x)).map (Value.int .i64)) (by rfl) HR.out 3 (.int .i64 i) 1 rfl (by rfl) (by simp only [maxLen]; omega) (by omega) hBs ?_
           intro A9 c9 w9 ho9 hg9 hb9
           have hE0 : Eng B g bm bw A n c (ad.block :: H) (T + k) V' nf' Ao m co { s with f := fileG i (op.take k) s.f } wr.drew := HE'.out.keep fun _ _ => rfl
           have hgr : wr.drew.grownBy w9 (rowV V' (-x)).ownBlock := by rw [HA8.out]; exact hg9
           have hwm9 : VMap w9 bw nf' V' := hE0.wm.keep (hg9.block _ hE0.wm.lt (fun e => by
             obtain ⟨cur, hc⟩ := own_cells HR.out e.symm
             exact hE0.wm.not_cells hc rfl))
           have hbx9 := (hg9.block g (lt_block hE0.blk) (fun e => own_boxL HR.out hE0.blk (by decide) e.symm)).trans hE0.blk
           have c9' : w9.cell? ⟨g, 2, none⟩ = some (.map (some bw)) := cell_of_row _ _ _ _ _ _ hbx9
           obtain ⟨w10, hup, hv10, hg10⟩ := hwm9.update (t := 60) Try.underlying60 (by simp only [maxLen]; omega) hwf (.slice A9 (q + 1) c9)
           have hF := hE0.file (j := -x) (i := i) HQ.out ho9 hgr (by rw [HA8.out]; exact hb9) hv10 hg10
           have HF := Lib.hid hF
           have HB10 : Hid (Below B w w10) := (HB.out.drew.grown hg9 hBs (fun k hk => (HR.out.lt k hk).1)).grown hg10 (Nat.le_trans hBs hg9.size) (fun k hk => by injection hk with hk; rw [← hk]; exact HE'.out.lw)
           clear ho9 hg9 hb9 hE0 hgr hwm9 hbx9 hv10 hg10 hF))
    all_goals go_wp2
    all_goals go_roundw
    all_goals first
      | exact ⟨k + 1, _, _, by omega, by go_num, by rw [HSN.out]; exact HF.out.1, HB10.out, fun b hb => (HF.out.2 b hb).trans (HH.out b hb)⟩
      | (simp [intOf]; omega)

/-- The contract of visit. -/
theorem visit_any (cs : List (List Int)) (i : Nat) (hi : i < n) (hR : Rows2 w A n c cs) (hlit : ∀ l ∈ cs, ∀ x ∈ l, -65536 ≤ x ∧ x ≤ 65536) (hE : Eng B g bm bw A n c H T V nf Ao m co s w) (hT : T ≤ 8796093022200) (hkn : s.known.length ≤ 100000) (hm : m ≤ 100000) :
    Calls Try.prog 42 #[.pointer (some ⟨g, 0, none⟩), .int .i64 i] w (RetVisit B g bm bw A n c H T w (visitR cs s i)) := by
  have call := look_any w g bm s.known.length A n c cs s.known i hi (hE.cell 0) (hE.cell 1) (lt_block hE.blk) hE.tr hR hlit
  have hlen := lookG_len (known := s.known) (l := cs.getD i []) (op := []) (by simp)
  have hmem : ∀ x ∈ (lookR s.known (cs.getD i [])).1, -65536 ≤ x ∧ x ≤ 65536 := fun x hx => by
    rcases lookG_mem hx with h | h
    · cases h
    · refine hlit _ ?_ x h
      rw [List.getD_eq_getElem?_getD, List.getElem?_eq_getElem (by have := hR.len; omega)]; simp
  have hlen' : (lookR s.known (cs.getD i [])).1.length ≤ 2 := hlen
  unfold visitR
  clear hlen
  generalize lookR s.known (cs.getD i []) = r at *
  obtain ⟨op, b⟩ := r
  cases b with
  | true => exact visit_holds i op hE (Lib.hid call)
  | false =>
    match op, call, hmem, hlen' with
    | [], call, _, _ => exact visit_false i hE (Lib.hid call)
    | [x], call, hmem, _ => exact visit_unit i x hE (hmem x (by simp)).1 (hmem x (by simp)).2 hkn hm (Lib.hid call)
    | x :: y :: r, call, hmem, hlen' => exact visit_two i (x :: y :: r) (by simp at hlen' ⊢; omega) hmem hE hT (Lib.hid call)
end
end Go.Proofs.Ytelgabamdhaplaa
