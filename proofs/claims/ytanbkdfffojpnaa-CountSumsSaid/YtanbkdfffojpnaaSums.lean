/-
  chalklinelaw16.CountSums: the walk.
-/
import Derived.Test.YtanbkdfffojpnaaLinValue
namespace Go.Proofs.Ytanbkdfffojpnaa
open Go.RowKit

theorem litT_truth {m x : Int} {b : List Bool} (h : LitBelow m x) (hm : m ≤ b.length) (h6 : m ≤ 65537) : litT x b = truthT x b := by rw [litT_sval b h h6, truthT_sval h hm]

set_option maxHeartbeats 4000000 in
set_option maxRecDepth 100000 in
theorem sums_walk (w : World) (n c : Nat) (A : Option Addr) (xs : List Int) (k : Int) (n' c' : Nat) (A' : Option Addr) (bs : List Bool) (hI : Ints w (Lt w) A n c xs) (hf : Fits xs) (hk : (Lit.int .i64 k).wf = true) (hB : Bools w A' n' c' bs) :
    Calls Try.prog 10 #[.slice A n c, .int .i64 k, .slice A' n' c'] w (RetBoolBelow w true) := by
  have hlen := hI.len
  have hIc := hI.cap
  have hIm := hI.max
  have hlb := hB.len
  have hBc := hB.cap
  have hBm := hB.max
  unfold maxLen at hIm hBm
  have HI := Lib.hid hI
  have HF := Lib.hid hf
  have HK := Lib.hid hk
  have HB := Lib.hid hB
  have HL := Lib.hid hlen
  have HLB := Lib.hid hlb
  have LIVE := Lib.hid (live_any w)
  obtain ⟨i0, hi0, hz0, hz1, hz2⟩ := info_parts bool_info
  clear hI hf hk hB hlen hlb
  by_cases g1 : 12 < n'
  case pos =>
    go_enter Try.func10, Try.ntmps10
    go_wp2_with (fail)
    (with_reducible refine LIVE.out.mono ?_)
    rintro e w1 ⟨rfl, hb1⟩
    go_wp2
    go_ret
    exact ⟨rfl, hb1⟩
  have d1 : decide ((12 : Int) < (n' : Int)) = false := by simp; omega
  by_cases g2 : 12 < n
  case pos =>
    go_enter Try.func10, Try.ntmps10
    go_wp2_with (fail)
    (with_reducible refine LIVE.out.mono ?_)
    rintro e w1 ⟨rfl, hb1⟩
    go_wp2
    go_ret
    exact ⟨rfl, hb1⟩
  have d2 : decide ((12 : Int) < (n : Int)) = false := by simp; omega
  by_cases g3 : k < -100
  case pos =>
    go_enter Try.func10, Try.ntmps10
    go_wp2_with (fail)
    (with_reducible refine LIVE.out.mono ?_)
    rintro e w1 ⟨rfl, hb1⟩
    go_wp2
    go_ret
    exact ⟨rfl, hb1⟩
  have d3 : decide (k < -100) = false := by simp; omega
  by_cases g4 : 100 < k
  case pos =>
    go_enter Try.func10, Try.ntmps10
    go_wp2_with (fail)
    (with_reducible refine LIVE.out.mono ?_)
    rintro e w1 ⟨rfl, hb1⟩
    go_wp2
    go_ret
    exact ⟨rfl, hb1⟩
  have d4 : decide ((100 : Int) < k) = false := by simp; omega
  go_enter Try.func10, Try.ntmps10
  go_wp2_with (fail)
  (with_reducible refine LIVE.out.mono ?_)
  rintro e w1 ⟨rfl, hb1⟩
  have hal := alloc_lt (w := w1) (.cells #[.bool false] 4)
  have hrd := ((HB.out.belowLt hb1).belowLt hal).reads
  have HB1 := Lib.hid (below_then hb1 hal)
  have HBW1 := Lib.hid hb1.size
  clear hb1 hal LIVE
  go_wp2_with (first
    | (at_builtin
       refine wpList_append_any _ rfl (.tmp 32) (.tmp 33) _ rfl w1.heap.size 4 i0 _ 1 1 Try.underlying30 hi0 hz0 hz1 hz2 rfl (by omega) (.slice (some ⟨w1.heap.size, 0, none⟩) 1 1) 1 [.bool false] (by rfl) (one_false w1) _ A' n' c' _ (by rfl) hrd (bools_oneCell _) (by simp only [maxLen]; omega) (by omega) (by simp) ?_
       intro v2 w2 hown2 hg2 hat2
       obtain ⟨A2, c2, rfl⟩ := own_form hown2))
  have hB2 : Below w.heap.size w w2 := HB1.out.grown hg2 (by have := HB1.out.size; simpa using this) (fun g hg => by
    have e : g = w1.heap.size := by simpa [Value.ownBlock] using hg.symm
    have := HB1.out.size
    simp at this
    have := HBW1.out
    omega)
  have hBa : Bools w2 A2 (1 + n') c2 (false :: bs) := Bools.of_own (e := 4) (base := w1.heap.size) hown2
  have hal : ((false :: bs).length : Int) = 1 + (n' : Int) := by rw [List.length_cons, ← HLB.out]; omega
  have HAL := Lib.hid hal
  have HBA := Lib.hid hBa
  have HB2 := Lib.hid hB2
  have call1 := least_t w2 n c A xs k (1 + (n' : Int)) (HI.out.belowLt hB2) HF.out HK.out
  have CALL1 := Lib.hid call1
  clear hown2 hg2 hat2 hB2 hBa hal call1 HB HB1 hrd
  (with_reducible refine CALL1.out.mono ?_)
  rintro e w3 ⟨A3, n3, c3, rfl, hr3, hb3⟩
  have HR3 := Lib.hid hr3
  have HBA3 := Lib.hid (HBA.out.belowLt hb3)
  have HB3 := Lib.hid (below_then HB2.out hb3)
  have hx60 : xs.length ≤ 60 := by have := HL.out; omega
  have e1 := leastR_room (k := k) hx60 (show 1 + (n' : Int) ≤ 30000 by omega)
  by_cases hr : rightR xs (1 + (n' : Int)) = 0
  case neg =>
    have q1 := leastR_bad0 (show (leastR xs k (1 + (n' : Int))).err ≠ 0 by rw [e1]; exact hr)
    have l3 := HR3.out.len
    rw [q1.1] at l3
    obtain rfl : n3 = 0 := l3
    rw [e1]
    have hne : (rightR xs (1 + (n' : Int)) != 0) = true := by simpa using hr
    clear q1 e1 HR3 hr
    generalize rightR xs (1 + (n' : Int)) = er at *
    generalize (leastR xs k (1 + (n' : Int))).after = af1 at *
    go_wp2_with (fail)
    go_ret
    exact ⟨by simp, HB3.out⟩
  rw [hr] at e1
  have hs := small_of_right hr
  have k1 : (leastR xs k ((false :: bs).length : Int)).err = 0 := by rw [HAL.out]; exact e1
  have c1 := can_least k1
  obtain ⟨_, f1, f2, _⟩ := leastR_after e1
  obtain ⟨_, _, _, hAm⟩ := right_among hr
  rw [HAL.out] at c1
  rw [e1]
  have hcount : manyT xs (false :: bs) = xs.countP (litT · (false :: bs)) := by
    unfold manyT
    exact List.countP_congr fun x hx => by
      have := litT_truth (b := false :: bs) (hAm x hx) (by rw [HAL.out]; exact Int.le_refl _) (by omega)
      simp only [this]
  have HC1 : Hid (canTried (false :: bs) (leastR xs k (1 + (n' : Int))).after = true → canIs (leastR xs k (1 + (n' : Int))).cs (false :: bs) (leastR xs k (1 + (n' : Int))).after = decide (k ≤ (xs.countP (litT · (false :: bs)) : Nat))) := fun h => by
    unfold canIs; rw [h, Bool.true_and, HAL.out, ← hcount]; exact c1
  have HXL : Hid (∀ x ∈ xs, x ≠ 0 ∧ -65536 ≤ x ∧ x ≤ 65536) := fun x hx => ⟨(hAm x hx).1, by have := (hAm x hx).2; omega, by have := (hAm x hx).2; omega⟩
  clear c1 k1 hr hs e1 hcount hAm
  generalize (leastR xs k (1 + (n' : Int))).after = af1 at *
  obtain ⟨i1, hi1, hy0, hy1, hy2⟩ := info_parts int_info
  have hbx : (w3.alloc (.cells #[.slice none 0 0, .slice A n c, .int .i64 k] 43)).heap[w3.heap.size]? = some (.cells #[.slice none 0 0, .slice A n c, .int .i64 k] 43 (0, 0)) := heap_alloc_new w3 _
  have HBX := Lib.hid hbx
  clear hbx hi0 hz0 hz1 hz2
  go_wp2
  clear d1 d2 d3 d4
  go_loopw [54] (fun v wr => ∃ (i : Nat) (A5 : Option Addr) (c5 : Nat), i ≤ n ∧ v = .int .i64 i ∧ wr.heap[w3.heap.size]? = some (.cells #[.slice A5 i c5, .slice A n c, .int .i64 k] 43 (0, 0)) ∧ wr.ownsRow (w3.heap.size + 1) 3 1 (.slice A5 i c5) i ((List.replicate i (1 : Int)).map (Value.int .i64)) ∧ Below w3.heap.size w3 wr ∧ w3.heap.size + 1 ≤ wr.heap.size) (fun v _ => n - (intOf v).toNat)
  case atStart => exact ⟨0, none, 0, Nat.zero_le _, rfl, HBX.out, World.ownsRow_nil _ _ _ _, alloc_lt _, by simp⟩
  case round =>
    clear HBX
    obtain ⟨i, A5, c5, hi, rfl, hbx, hown, hb, hsz⟩ := hrel
    have p1 : wr.cell? ⟨w3.heap.size, 0, none⟩ = some (.slice A5 i c5) := by rw [cell_of_row _ _ _ _ _ _ hbx]; rfl
    have p2 : wr.cell? ⟨w3.heap.size, 1, none⟩ = some (.slice A n c) := by rw [cell_of_row _ _ _ _ _ _ hbx]; rfl
    have p3 : wr.cell? ⟨w3.heap.size, 2, none⟩ = some (.int .i64 k) := by rw [cell_of_row _ _ _ _ _ _ hbx]; rfl
    by_cases hlt : i < n
    case pos =>
      have HX := Lib.hid hbx
      clear hbx
      go_wp2_with (first
        | (at_builtin
           go_must (refine wpList_append_one _ rfl (.tmp 57) (.tmp 58) _ rfl (w3.heap.size + 1) 3 i1 _ 8 Try.underlying22 hi1 hy0 hy1 hy2 rfl (.slice A5 i c5) i ((List.replicate i (1 : Int)).map (Value.int .i64)) (by rfl) hown 3 (.int .i64 1) 1 rfl (by rfl) (by simp only [maxLen]; omega) (by omega) hsz ?_)
           intro A9 c9 w9 ho9 hg9 hb9
           have hbx9 := (hg9.block w3.heap.size (by omega) (fun e => by have := (hown.lt _ e.symm).1; omega)).trans HX.out
           have p9 : w9.cell? ⟨w3.heap.size, 0, none⟩ = some (.slice A5 i c5) := by rw [cell_of_row _ _ _ _ _ _ hbx9]; rfl
           have f9 : w9.frozen? ⟨w3.heap.size, 0, none⟩ = false := by simp [World.frozen?, hbx9]
           have HX9 := Lib.hid hbx9
           clear hbx9))
      have HB9 := Lib.hid (hb.grown hg9 (by omega) (fun g hg => by have := (hown.lt g hg).1; omega))
      have HS9 := Lib.hid hg9.size
      have HO9 : Hid (w9.ownsRow (w3.heap.size + 1) 3 1 (.slice A9 (i + 1) c9) (i + 1) ((List.replicate (i + 1) (1 : Int)).map (Value.int .i64))) := by
        show w9.ownsRow (w3.heap.size + 1) 3 1 (.slice A9 (i + 1) c9) (i + 1) ((List.replicate (i + 1) (1 : Int)).map (Value.int .i64))
        rw [List.replicate_succ', List.map_append]; exact ho9
      clear ho9 hg9 hb9 hown hb
      go_roundw
      case rel =>
        refine ⟨i + 1, A9, c9, by omega, by go_num, ?_, ?_, HB9.out.setCell (Nat.le_refl _) _, ?_⟩
        · rw [row_setCell16 HX9.out]; rfl
        · exact ownsRow_setCell_other HO9.out (fun e => by have := (HO9.out.lt _ e).1; simp at this; omega) _
        · have := HS9.out; simp [World.setCell]; omega
      case measure => simp [intOf]; omega
    obtain rfl : n = i := by omega
    have hC := Ints.of_ownLt hown
    have hR5 := HR3.out.belowLt hb
    have hBA5 := HBA3.out.belowLt hb
    have hB5 := below_then HB3.out hb
    have call3 := can_r wr A3 n3 c3 (leastR xs k (1 + (n' : Int))).cs A2 (1 + n') c2 (false :: bs) af1 hR5 hBA5 (by omega) (by omega) (by omega)
    have hval := fun w7 (hb7 : Below wr.heap.size wr w7) => linValue_any w7 n c c5 A A5 xs (List.replicate n 1) k A2 (1 + n') c2 (false :: bs) ((HI.out.belowLt hB5).belowLt hb7) (hC.belowLt hb7) (fun x hx => (List.mem_replicate.1 hx).2) HXL.out (hBA5.belowLt hb7) (by omega) (by omega) (by omega)
    have hltb := lt_of_block hbx
    generalize canIs (leastR xs k (1 + (n' : Int))).cs (false :: bs) af1 = is1 at *
    generalize canTried (false :: bs) af1 = tr1 at *
    generalize xs.countP (litT · (false :: bs)) = q at *
    have CALL3 := Lib.hid call3
    have CV := Lib.hid hval
    have HB5 := Lib.hid hB5
    have HX := Lib.hid hbx
    clear call3 hval hC hR5 hBA5 hB5 hbx hown hb
    go_wp2_with (fail)
    (with_reducible refine CALL3.out.mono ?_)
    rintro e w7 ⟨rfl, hb7⟩
    have bb := (hb7.block _ hltb).trans HX.out
    have p1' : w7.cell? ⟨w3.heap.size, 0, none⟩ = some (.slice A5 n c5) := by rw [cell_of_row _ _ _ _ _ _ bb]; rfl
    have p2' : w7.cell? ⟨w3.heap.size, 1, none⟩ = some (.slice A n c) := by rw [cell_of_row _ _ _ _ _ _ bb]; rfl
    have p3' : w7.cell? ⟨w3.heap.size, 2, none⟩ = some (.int .i64 k) := by rw [cell_of_row _ _ _ _ _ _ bb]; rfl
    have CVV := Lib.hid (CV.out w7 hb7)
    have HB7 := Lib.hid (below_then HB5.out hb7)
    clear hb7 bb CV
    cases tr1
    · go_wp2_with (fail)
      go_ret
      exact ⟨by simp, HB7.out⟩
    · obtain rfl := HC1.out rfl
      go_wp2_with (fail)
      (with_reducible refine CVV.out.mono ?_)
      rintro e w8 ⟨rfl, hb8⟩
      have HB8 := Lib.hid (below_then HB7.out hb8)
      clear hb8
      go_wp2_with (fail)
      go_ret
      exact ⟨by simp, HB8.out⟩
end Go.Proofs.Ytanbkdfffojpnaa
