/-
  chalklinelaw16.CountLeasts and CountMosts: the walks.
-/
import Derived.Test.YtanbkdfffojpnaaRefMost16
namespace Go.Proofs.Ytanbkdfffojpnaa
open Go.RowKit

set_option maxHeartbeats 4000000 in
set_option maxRecDepth 100000 in
theorem leasts_walk (w : World) (n c : Nat) (A : Option Addr) (xs : List Int) (k next : Int) (hI : Ints w (Lt w) A n c xs) (hf : Fits xs) (hk : (Lit.int .i64 k).wf = true) (hnx : (Lit.int .i64 next).wf = true) :
    Calls Try.prog 3 #[.slice A n c, .int .i64 k, .int .i64 next] w (RetBoolBelow w true) := by
  have hIc := hI.cap
  have hIm := hI.max
  unfold maxLen at hIm
  have HI := Lib.hid hI
  have HF := Lib.hid hf
  have HK := Lib.hid hk
  have LIVE := Lib.hid (live_any w)
  clear hI hf hk hnx
  obtain ⟨bt, hbt⟩ : ∃ x, x = decide (300 < n ∧ n ≤ 4096 ∨ 5000 < n) := ⟨_, rfl⟩
  have HBT := Lib.hid hbt
  clear hbt
  go_enter Try.func3, Try.ntmps3
  go_wp2_with (fail)
  (with_reducible refine LIVE.out.mono ?_)
  rintro e w1 ⟨rfl, hb1⟩
  have HB1 := Lib.hid hb1
  clear hb1 LIVE
  go_upto_region 3 with (fail)
  go_cut [27] (fun v wx => v = .bool bt ∧ w1 = wx)
  case first =>
    by_cases h1 : 300 < n
    · by_cases h2 : n ≤ 4096
      · go_wp2
        all_goals go_meet
        all_goals exact ⟨by rw [HBT.out]; simp [h1, show ((n : Int) ≤ 4096) ↔ n ≤ 4096 by omega, show (5000 < (n : Int)) ↔ 5000 < n by omega, show (300 < (n : Int)) ↔ 300 < n by omega]; try omega, rfl⟩
      · have d2 : decide (n ≤ 4096) = false := by simpa using h2
        by_cases h3 : 5000 < n
        all_goals
          go_wp2
          all_goals go_meet
          all_goals exact ⟨by rw [HBT.out]; simp [h1, show ((n : Int) ≤ 4096) ↔ n ≤ 4096 by omega, show (5000 < (n : Int)) ↔ 5000 < n by omega, show (300 < (n : Int)) ↔ 300 < n by omega]; try omega, rfl⟩
    · have d1 : decide (300 < n) = false := by simpa using h1
      have d3 : decide (5000 < n) = false := by simp; omega
      go_wp2
      all_goals go_meet
      all_goals exact ⟨by rw [HBT.out]; simp [h1, show ((n : Int) ≤ 4096) ↔ n ≤ 4096 by omega, show (5000 < (n : Int)) ↔ 5000 < n by omega, show (300 < (n : Int)) ↔ 300 < n by omega]; try omega, rfl⟩
  obtain ⟨rfl, rfl⟩ := hcut
  cases bt with
  | true =>
    go_wp2
    go_ret
    exact ⟨rfl, HB1.out⟩
  | false =>
  clear HBT
  go_wp2_with (fail)
  (with_reducible refine (least_t w1 n c A xs k next (HI.out.belowLt HB1.out) HF.out HK.out).mono ?_)
  rintro e w2 ⟨A2, n2, c2, rfl, hr2, hb2⟩
  have hB2 := below_then HB1.out hb2
  have call := refLeast_any w2 n c A xs k next (HI.out.belowLt hB2) HF.out
  generalize leastR xs k next = R at *
  obtain ⟨cs, after, err⟩ := R
  have CALL := Lib.hid call
  have HB2 := Lib.hid hB2
  have HR2 := Lib.hid hr2
  clear hb2 hr2 call hB2
  go_wp2_with (fail)
  (with_reducible refine CALL.out.mono ?_)
  rintro e w3 ⟨A3, n3, c3, rfl, ho3, hb3⟩
  have call1 := same_any w3 n2 c2 n3 c3 A2 A3 cs cs (HR2.out.belowLt hb3) (Rows2.of_own ho3)
  rw [show decide (cs = cs) = true by simp] at call1
  have CALL1 := Lib.hid call1
  have HB3 := Lib.hid (below_then HB2.out hb3)
  clear call1 ho3 hb3 HB2 HR2 CALL
  go_wp2_with (fail)
  (with_reducible refine CALL1.out.mono ?_)
  rintro e w4 ⟨rfl, hb4⟩
  have HB4 := Lib.hid (below_then HB3.out hb4)
  clear hb4 HB3 CALL1
  go_wp2_with (fail)
  go_ret
  exact ⟨by simp, HB4.out⟩

set_option maxHeartbeats 4000000 in
set_option maxRecDepth 100000 in
theorem mosts_walk (w : World) (n c : Nat) (A : Option Addr) (xs : List Int) (k next : Int) (hI : Ints w (Lt w) A n c xs) (hf : Fits xs) (hk : (Lit.int .i64 k).wf = true) (hnx : (Lit.int .i64 next).wf = true) :
    Calls Try.prog 4 #[.slice A n c, .int .i64 k, .int .i64 next] w (RetBoolBelow w true) := by
  have hIc := hI.cap
  have hIm := hI.max
  unfold maxLen at hIm
  have HI := Lib.hid hI
  have HF := Lib.hid hf
  have HK := Lib.hid hk
  have LIVE := Lib.hid (live_any w)
  clear hI hf hk hnx
  obtain ⟨bt, hbt⟩ : ∃ x, x = decide (300 < n ∧ n ≤ 4096 ∨ 5000 < n) := ⟨_, rfl⟩
  have HBT := Lib.hid hbt
  clear hbt
  go_enter Try.func4, Try.ntmps4
  go_wp2_with (fail)
  (with_reducible refine LIVE.out.mono ?_)
  rintro e w1 ⟨rfl, hb1⟩
  have HB1 := Lib.hid hb1
  clear hb1 LIVE
  go_upto_region 3 with (fail)
  go_cut [27] (fun v wx => v = .bool bt ∧ w1 = wx)
  case first =>
    by_cases h1 : 300 < n
    · by_cases h2 : n ≤ 4096
      · go_wp2
        all_goals go_meet
        all_goals exact ⟨by rw [HBT.out]; simp [h1, show ((n : Int) ≤ 4096) ↔ n ≤ 4096 by omega, show (5000 < (n : Int)) ↔ 5000 < n by omega, show (300 < (n : Int)) ↔ 300 < n by omega]; try omega, rfl⟩
      · have d2 : decide (n ≤ 4096) = false := by simpa using h2
        by_cases h3 : 5000 < n
        all_goals
          go_wp2
          all_goals go_meet
          all_goals exact ⟨by rw [HBT.out]; simp [h1, show ((n : Int) ≤ 4096) ↔ n ≤ 4096 by omega, show (5000 < (n : Int)) ↔ 5000 < n by omega, show (300 < (n : Int)) ↔ 300 < n by omega]; try omega, rfl⟩
    · have d1 : decide (300 < n) = false := by simpa using h1
      have d3 : decide (5000 < n) = false := by simp; omega
      go_wp2
      all_goals go_meet
      all_goals exact ⟨by rw [HBT.out]; simp [h1, show ((n : Int) ≤ 4096) ↔ n ≤ 4096 by omega, show (5000 < (n : Int)) ↔ 5000 < n by omega, show (300 < (n : Int)) ↔ 300 < n by omega]; try omega, rfl⟩
  obtain ⟨rfl, rfl⟩ := hcut
  cases bt with
  | true =>
    go_wp2
    go_ret
    exact ⟨rfl, HB1.out⟩
  | false =>
  clear HBT
  go_wp2_with (fail)
  (with_reducible refine (most_t w1 n c A xs k next (HI.out.belowLt HB1.out) HF.out HK.out).mono ?_)
  rintro e w2 ⟨A2, n2, c2, rfl, hr2, hb2⟩
  have hB2 := below_then HB1.out hb2
  have call := refMost_any w2 n c A xs k next (HI.out.belowLt hB2) HF.out
  generalize mostR xs k next = R at *
  obtain ⟨cs, after, err⟩ := R
  have CALL := Lib.hid call
  have HB2 := Lib.hid hB2
  have HR2 := Lib.hid hr2
  clear hb2 hr2 call hB2
  go_wp2_with (fail)
  (with_reducible refine CALL.out.mono ?_)
  rintro e w3 ⟨A3, n3, c3, rfl, ho3, hb3⟩
  have call1 := same_any w3 n2 c2 n3 c3 A2 A3 cs cs (HR2.out.belowLt hb3) (Rows2.of_own ho3)
  rw [show decide (cs = cs) = true by simp] at call1
  have CALL1 := Lib.hid call1
  have HB3 := Lib.hid (below_then HB2.out hb3)
  clear call1 ho3 hb3 HB2 HR2 CALL
  go_wp2_with (fail)
  (with_reducible refine CALL1.out.mono ?_)
  rintro e w4 ⟨rfl, hb4⟩
  have HB4 := Lib.hid (below_then HB3.out hb4)
  clear hb4 HB3 CALL1
  go_wp2_with (fail)
  go_ret
  exact ⟨by simp, HB4.out⟩
end Go.Proofs.Ytanbkdfffojpnaa
