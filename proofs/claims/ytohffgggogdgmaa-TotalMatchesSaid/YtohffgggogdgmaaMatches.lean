/-
  chalklinelaw15.TotalMatches: the walk.
-/
import Derived.Test.YtohffgggogdgmaaRefTotal
namespace Go.Proofs.Ytohffgggogdgmaa
open Go.RowKit

set_option maxHeartbeats 4000000 in
set_option maxRecDepth 100000 in
theorem matches_walk (w : World) (n c : Nat) (A : Option Addr) (xs : List Int) (most next : Int) (hI : Ints w (Lt w) A n c xs) (hf : Fits xs) :
    Calls Try.prog 3 #[.slice A n c, .int .i64 most, .int .i64 next] w (RetBoolBelow w true) := by
  have hIc := hI.cap
  have hIm := hI.max
  unfold maxLen at hIm
  have HI := Lib.hid hI
  have HF := Lib.hid hf
  have LIVE := Lib.hid (live_any w)
  clear hI hf
  by_cases g1 : 40 < n
  case pos =>
    go_enter Try.func3, Try.ntmps3
    go_wp2_with (fail)
    (with_reducible refine LIVE.out.mono ?_)
    rintro e w1 ⟨rfl, hb1⟩
    go_wp2
    go_ret
    exact ⟨rfl, hb1⟩
  have d1 : decide ((40 : Int) < (n : Int)) = false := by simp; omega
  go_enter Try.func3, Try.ntmps3
  go_wp2_with (fail)
  (with_reducible refine LIVE.out.mono ?_)
  rintro e w1 ⟨rfl, hb1⟩
  go_wp2_with (fail)
  (with_reducible refine (total_t w1 n c A xs most next (HI.out.belowLt hb1) HF.out (by omega)).mono ?_)
  rintro e w2 ⟨A2, n2, c2, A2', n2', c2', rfl, ho2, hr2, hb2⟩
  have hB2 := below_then hb1 hb2
  have call := refTotal_any w2 n c A xs most next (HI.out.belowLt hB2) HF.out (by omega)
  generalize totalR xs most next = R at *
  obtain ⟨outs, cs, after, err⟩ := R
  have CALL := Lib.hid call
  have HB2 := Lib.hid hB2
  have HO2 := Lib.hid ho2
  have HR2 := Lib.hid hr2
  clear hb1 hb2 ho2 hr2 LIVE call hB2
  go_wp2_with (fail)
  (with_reducible refine CALL.out.mono ?_)
  rintro e w3 ⟨A3, n3, c3, A3', n3', c3', rfl, ho3, hr3, hb3⟩
  have call1 := ints_eq w3 n2 c2 n3 c3 A2 A3 outs outs (HO2.out.belowLt hb3) ho3
  rw [show decide (outs = outs) = true by simp] at call1
  have CALL1 := Lib.hid call1
  have HR3 := Lib.hid hr3
  have HR23 := Lib.hid (HR2.out.belowLt hb3)
  have HB3 := Lib.hid (below_then HB2.out hb3)
  clear call1 hr3 ho3 hb3 HB2 HR2 HO2 CALL
  go_wp2_with (fail)
  (with_reducible refine CALL1.out.mono ?_)
  rintro e w4 ⟨rfl, hb4⟩
  have call2 := clauses_eq w4 n2' c2' n3' c3' A2' A3' cs cs (HR23.out.belowLt hb4) (HR3.out.belowLt hb4)
  rw [show decide (cs = cs) = true by simp] at call2
  have CALL2 := Lib.hid call2
  have HB4 := Lib.hid (below_then HB3.out hb4)
  clear call2 hb4 HB3 HR3 HR23 CALL1
  go_wp2_with (fail)
  (with_reducible refine CALL2.out.mono ?_)
  rintro e w5 ⟨rfl, hb5⟩
  have HB5 := Lib.hid (below_then HB4.out hb5)
  clear hb5 HB4 CALL2
  go_wp2_with (fail)
  go_ret
  exact ⟨by simp, HB5.out⟩
end Go.Proofs.Ytohffgggogdgmaa
