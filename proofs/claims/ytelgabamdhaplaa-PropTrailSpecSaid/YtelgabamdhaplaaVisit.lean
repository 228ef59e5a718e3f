/-
  engine.visit: one clause is examined.
-/
import Derived.Test.YtelgabamdhaplaaEng
import Derived.Deep.RegionLaw
namespace Go.Proofs.Ytelgabamdhaplaa
open Go.RowKit

theorem step_append_step {P : Program} (w : World) {ops : Array Oper} {o : Oper} {a : Act} {K : Act → World → Prop} {Q : Exit → Act → World → Prop} {E : Prop} (hgd : o.guard = none) (s x : Operand) (t : TypeId)
    (ho : o.op = .call { callee := .builtin .append, args := #[s, x], argTypes := #[t, t] })
    (base : Nat) (e : TypeId) (i : TypeInfo) (z : Value) (bytes : Nat) (ht : P.underlying t = some (.slice e)) (hi : P.info? e = some i) (hz : i.zero = some z)
    (hsize : i.size = 2) (hby : i.bytes = bytes) (hzs : z.cells.size = 2)
    (v : Value) (n : Nat) (ts : List TStep) (hs : a.eval s = v) (hown : w.ownsRow base e 2 v n (flat ts)) (e' : TypeId) (li wy : Int) (c : Nat)
    (hx : a.eval x = .slice (some ⟨w.heap.size, 0, none⟩) 1 c)
    (h63 : n + 1 ≤ maxLen) (hbytes : (n + 1) * bytes ≤ 140737488355328) (hbase : base ≤ w.heap.size)
    (h : ∀ A' c' w', w'.ownsRow base e 2 (.slice A' (n + 1) c') (n + 1) (flat (ts ++ [(li, wy)])) → w.grownBy w' v.ownBlock → (∀ g, (Value.slice A' (n + 1) c').ownBlock = some g → v.ownBlock = some g ∨ w.heap.size ≤ g) → K (a.put o.dst (.slice A' (n + 1) c')) w') :
    if Region.wanted o (yielded ops a.tmps) = true then Oper.wp P o a (w.alloc (.cells #[.int .i64 li, .int .i64 wy] e')) K Q else E := by
  refine step_append_any _ hgd s x t ho base e i z 2 bytes ht hi hz hsize hby hzs (by omega) v n (flat ts) hs (hown.alloc _) _ _ 1 c [.int .i64 li, .int .i64 wy] hx (two_reads w e' _ _) (fun y hy => by simp at hy; rcases hy with rfl | rfl <;> rfl) h63 hbytes (by simp; omega) ?_
  intro v' w' ho' hg hb
  obtain ⟨A', c', rfl⟩ := own_form ho'
  refine h A' c' w' (by rw [flat_append]; exact ho') (grown_alloc_then hg) fun g hgb => ?_
  rcases hb with hb | hb
  · exact .inl (hb ▸ hgb)
  · rw [hb] at hgb
    injection hgb with hgb
    simp at hgb
    exact .inr (by omega)

def fileG (i : Int) (op : List Int) (f : Int → List Int) : Int → List Int := op.foldl (fun f x => addTo f (-x) i) f
/-- What a visit does. -/
def visitR (cs : List (List Int)) (s : PS) (i : Nat) : PS × Bool :=
  match lookR s.known (cs.getD i []) with
  | (_, true) => (s, true)
  | ([], false) => (s, false)
  | ([x], false) => ({ s with known := x :: s.known, out := s.out ++ [(x, (i : Int))] }, true)
  | (x :: y :: r, false) => ({ s with f := fileG i (x :: y :: r) s.f }, true)

theorem lookG_len {known : List Int} : ∀ {l op : List Int}, op.length ≤ 2 → (lookG known op l).1.length ≤ 2
  | [], op, h => h
  | x :: r, op, h => by
    unfold lookG
    split
    · simp
    · split
      · next h2 => exact lookG_len (by unfold mayOpen at h2; simp at h2 ⊢; omega)
      · exact lookG_len h
theorem lookG_mem {known : List Int} : ∀ {l op : List Int} {x : Int}, x ∈ (lookG known op l).1 → x ∈ op ∨ x ∈ l
  | [], op, x, h => .inl h
  | y :: r, op, x, h => by
    unfold lookG at h
    split at h
    · simp at h; exact .inr (by simp [h])
    · split at h
      · rcases lookG_mem h with q | q
        · simp at q
          rcases q with q | q
          · exact .inl q
          · exact .inr (by simp [q])
        · exact .inr (by simp [q])
      · rcases lookG_mem h with q | q
        · exact .inl q
        · exact .inr (by simp [q])

def RetVisit (B g bm bw : Nat) (A : Option Addr) (n c : Nat) (H : List Nat) (T : Nat) (w : World) (r : PS × Bool) (e : Ending) (w' : World) : Prop :=
  e = .returned (.bool r.2) ∧ (∃ V nf Ao m co, Eng B g bm bw A n c H (T + 2) V nf Ao m co r.1 w') ∧ Below B w w' ∧ ∀ b ∈ H, w'.heap[b]? = w.heap[b]?

theorem own_boxL {w : World} {base size n b : Nat} {e t : TypeId} {v : Value} {xs : List Value} {cs : Array Value} (h : w.ownsRow base e size v n xs) (hb : w.heap[b]? = some (.cells cs t (0, 0))) (hne : e ≠ t) : v.ownBlock ≠ some b := by
  intro e'
  obtain ⟨cur, hc⟩ := own_cells h e'
  rw [hb] at hc
  injection hc with hc
  injection hc with _ ht
  exact hne ht.symm
theorem ints_zero (w : World) : (zeroValue 29).run Try.prog w = .ok (.slice none 0 0) w := by kernel_rfl

section
variable {B g bm bw : Nat} {A : Option Addr} {n c : Nat} {H : List Nat} {T : Nat} {V : Int → Option Value} {nf : Nat} {Ao : Option Addr} {m co : Nat} {s : PS} {w : World}
theorem Eng.size (h : Eng B g bm bw A n c H T V nf Ao m co s w) : B ≤ w.heap.size := by have := lt_block h.blk; have := h.lg; omega
theorem Eng.heldLt (h : Eng B g bm bw A n c H T V nf Ao m co s w) {b : Nat} (hb : b ∈ H) : b < w.heap.size := by
  obtain ⟨⟨cur, hc⟩, _⟩ := h.held b hb
  exact lt_block hc
theorem Eng.cell (h : Eng B g bm bw A n c H T V nf Ao m co s w) (j : Nat) : w.cell? ⟨g, j, none⟩ = (#[.map (some bm), .slice A n c, .map (some bw), .slice Ao m co, .int .i64 s.head] : Array Value)[j]? := cell_of_row _ _ _ _ _ _ h.blk
theorem free_of_row {w : World} {g j : Nat} {cs : Array Value} {t : TypeId} (h : w.heap[g]? = some (.cells cs t (0, 0))) : w.frozen? ⟨g, j, none⟩ = false := by simp [World.frozen?, h]

set_option maxHeartbeats 4000000 in
set_option maxRecDepth 100000 in
theorem visit_holds (i : Nat) (op : List Int) (hE : Eng B g bm bw A n c H T V nf Ao m co s w)
    (CALL : Hid (Calls Try.prog 51 #[.pointer (some ⟨g, 0, none⟩), .int .i64 i] w (RetLook w (op, true)))) :
    Calls Try.prog 42 #[.pointer (some ⟨g, 0, none⟩), .int .i64 i] w (RetVisit B g bm bw A n c H T w (s, true)) := by
  have HE := Lib.hid hE
  clear hE
  go_enter Try.func42, Try.ntmps42
  go_wp2_with (fail)
  (with_reducible refine CALL.out.mono ?_)
  rintro e w1 ⟨A1, n1, c1, rfl, ho1, hb1⟩
  have HB1 := Lib.hid hb1
  clear ho1 hb1
  go_wp2
  go_ret
  exact ⟨rfl, ⟨_, _, _, _, _, (HE.out.keep (fun k hk => HB1.out.block k hk)).mono (by omega)⟩, HB1.out.mono HE.out.size, fun b hb => HB1.out.block _ (HE.out.heldLt hb)⟩

set_option maxHeartbeats 4000000 in
set_option maxRecDepth 100000 in
theorem visit_false (i : Nat) (hE : Eng B g bm bw A n c H T V nf Ao m co s w)
    (CALL : Hid (Calls Try.prog 51 #[.pointer (some ⟨g, 0, none⟩), .int .i64 i] w (RetLook w ([], false)))) :
    Calls Try.prog 42 #[.pointer (some ⟨g, 0, none⟩), .int .i64 i] w (RetVisit B g bm bw A n c H T w (s, false)) := by
  have HE := Lib.hid hE
  clear hE
  go_enter Try.func42, Try.ntmps42
  go_wp2_with (fail)
  (with_reducible refine CALL.out.mono ?_)
  rintro e w1 ⟨A1, n1, c1, rfl, ho1, hb1⟩
  have h0 : n1 = 0 := by have := ho1.1; simpa using this.symm
  subst h0
  have HB1 := Lib.hid hb1
  clear ho1 hb1
  go_wp2
  go_ret
  exact ⟨rfl, ⟨_, _, _, _, _, (HE.out.keep (fun k hk => HB1.out.block k hk)).mono (by omega)⟩, HB1.out.mono HE.out.size, fun b hb => HB1.out.block _ (HE.out.heldLt hb)⟩

set_option maxHeartbeats 8000000 in
set_option maxRecDepth 100000 in
theorem visit_unit (i : Nat) (x : Int) (hE : Eng B g bm bw A n c H T V nf Ao m co s w) (hx0 : -65536 ≤ x) (hx1 : x ≤ 65536) (hkn : s.known.length ≤ 100000) (hm : m ≤ 100000)
    (CALL : Hid (Calls Try.prog 51 #[.pointer (some ⟨g, 0, none⟩), .int .i64 i] w (RetLook w ([x], false)))) :
    Calls Try.prog 42 #[.pointer (some ⟨g, 0, none⟩), .int .i64 i] w (RetVisit B g bm bw A n c H T w ({ s with known := x :: s.known, out := s.out ++ [(x, (i : Int))] }, true)) := by
  obtain ⟨i0, hi0, hz0, hz1, hz2⟩ := info_parts' step_info
  have HE := Lib.hid hE
  clear hE
  go_enter Try.func42, Try.ntmps42
  go_wp2_with (fail)
  (with_reducible refine CALL.out.mono ?_)
  rintro e w1 ⟨A1, n1, c1, rfl, ho1, hb1⟩
  have h0 : n1 = 1 := by have := ho1.1; simpa using this.symm
  subst h0
  have hE1 : Eng B g bm bw A n c H T V nf Ao m co s w1 := HE.out.keep (fun k hk => hb1.block k hk)
  have hI1 := Ints.of_ownLt ho1
  have hc1 := hI1.cap
  have hm1 := hI1.max
  unfold maxLen at hm1
  obtain ⟨ad, rfl, hadS, hcell⟩ := hI1.at_ (k := 0) (by omega)
  obtain ⟨og, hog⟩ : ∃ og, ad = ⟨og, 0, none⟩ := by
    obtain ⟨gg, cap, hv, _, _⟩ := ho1.form (by omega)
    injection hv with hv
    injection hv with hv
    exact ⟨gg, hv⟩
  subst hog
  have hcur : ∃ cur, w1.heap[og]? = some (.cells cur 3 (0, 0)) := own_cells ho1 rfl
  have e0 : w1.cell? ⟨og, 0, none⟩ = some (.int .i64 x) := by simpa [Addr.add] using hcell
  have k0 := hE1.cell 0
  have call := step_any w1.drew bm s.known.length s.known x (hE1.tr.keep rfl) (by omega) (by omega) (by omega)
  have CALLS := Lib.hid call
  have HE1 := Lib.hid hE1
  have HB1 := Lib.hid hb1
  have HC := Lib.hid hcur
  simp at k0
  clear ho1 hb1 hI1 hadS hcell hE1 hcur call
  go_upto_region 11 with (fail)
  go_cut [55] (fun v wx => VMap wx bm (s.known.length + 1) (litF (x :: s.known)) ∧ w1.grownBy wx (some bm))
  case first =>
    go_region_law (first
      | (go_simp
         go_wp2_with (
           go_at_call 37
           (with_reducible refine CALLS.out.mono ?_)
           rintro e w2 ⟨rfl, hv2, hg2⟩)))
    all_goals go_wp2_with (fail)
    all_goals go_meet
    all_goals exact ⟨hv2, hg2.os, hg2.tape, hg2.output, hg2.size, hg2.block⟩
  obtain ⟨hv2, hg2⟩ := hcut
  have hE2 : Eng B g bm bw A n c H T V nf Ao m co { s with known := x :: s.known } wc.drew := (HE1.out.step hv2 hg2).keep fun _ _ => rfl
  have hBw : Below B w wc.drew := ((HB1.out.mono HE.out.size).grown hg2 (by have := HB1.out.size; have := HE.out.size; omega) (fun k hk => by injection hk with hk; rw [← hk]; exact HE.out.lm)).drew
  have hHw : ∀ b ∈ H, wc.drew.heap[b]? = w.heap[b]? := fun b hb => by
    have hl := HE.out.heldLt hb
    obtain ⟨⟨cur, hc⟩, _⟩ := HE1.out.held b hb
    exact (hg2.block b (lt_block hc) (fun e => HE1.out.tr.not_cells hc (by injection e))).trans (HB1.out.block _ hl)
  have d0 : wc.cell? ⟨og, 0, none⟩ = some (.int .i64 x) := by
    obtain ⟨cur, hc⟩ := HC.out
    exact (World.cell?_of_block (w := w1) (a := ⟨og, 0, none⟩) (hg2.block og (lt_block hc) (fun e => HE1.out.tr.not_cells hc (by injection e)))).trans e0
  have hol : og < wc.drew.heap.size := by
    obtain ⟨cur, hc⟩ := HC.out
    exact Nat.lt_of_lt_of_le (lt_block hc) hg2.size
  have k3 : wc.cell? ⟨g, 3, none⟩ = some (.slice Ao m co) := hE2.cell 3
  have k3' : ∀ o : Obj, (wc.alloc o).cell? ⟨g, 3, none⟩ = some (.slice Ao m co) := fun o => (World.cell?_alloc_lt _ _ _ (lt_block (w := wc) hE2.blk)).trans k3
  have hBs := hE2.size
  have HE2 := Lib.hid hE2
  have HBW := Lib.hid hBw
  have HHW := Lib.hid hHw
  clear hE2 hBw hHw hv2 hg2 e0 k0 hol HC CALLS CALL
  go_upto_region 12 with (fail)
  go_region_law (first
    | (refine step_append_step wc.drew (by rfl) (.tmp 60) (.tmp 66) _ (by rfl) B 39 i0 _ 16 Try.underlying25 hi0 hz0 hz1 hz2 rfl (.slice Ao m co) m s.out (by rfl) HE2.out.own 39 x i 1 (by rfl) (by simp only [maxLen]; omega) (by omega) hBs ?_
       intro A9 c9 w9 ho9 hg9 hb9
       have hbx9 := (hg9.block g (lt_block HE2.out.blk) (fun e => own_boxL HE2.out.own HE2.out.blk (by decide) e.symm)).trans HE2.out.blk
       have c9' : w9.cell? ⟨g, 3, none⟩ = some (.slice Ao m co) := cell_of_row _ _ _ _ _ _ hbx9
       have f9' : w9.frozen? ⟨g, 3, none⟩ = false := free_of_row hbx9
       clear hbx9
       have HP := Lib.hid (HE2.out.push ho9 hg9 hb9)
       have HBP : Hid (Below B w (w9.setCell ⟨g, 3, none⟩ (.slice A9 (m + 1) c9))) := (HBW.out.grown hg9 hBs (fun k hk => (HE2.out.own.lt k hk).1)).setCell HE2.out.lg _
       have HHP : Hid (∀ b ∈ H, (w9.setCell ⟨g, 3, none⟩ (.slice A9 (m + 1) c9)).heap[b]? = w.heap[b]?) := fun b hb => by
         obtain ⟨⟨cur, hc⟩, _⟩ := HE2.out.held b hb
         rw [Below.heap_setCell _ _ _ _ (by
           rintro rfl
           rw [HE2.out.blk] at hc; injection hc with hc; injection hc with _ ht; revert ht; decide), hg9.block b (lt_block hc) (fun e => own_boxL HE2.out.own hc (by decide) e.symm)]
         exact HHW.out b hb
       clear ho9 hg9 hb9))
  all_goals go_wp2
  all_goals go_ret
  all_goals exact ⟨rfl, ⟨_, _, _, _, _, HP.out.mono (by omega)⟩, HBP.out, HHP.out⟩
end
end Go.Proofs.Ytelgabamdhaplaa
