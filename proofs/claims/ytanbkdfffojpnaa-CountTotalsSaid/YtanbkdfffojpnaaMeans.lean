/-
  chalklinelaw16.CountMeans: the walk.
-/
import Derived.Test.YtanbkdfffojpnaaMeansLaw
namespace Go.Proofs.Ytanbkdfffojpnaa
open Go.RowKit

/-- '[]bool{false}' as a row of one's own. -/
theorem one_false (w : World) : (w.alloc (.cells #[.bool false] 4)).ownsRow w.heap.size 4 1 (.slice (some ⟨w.heap.size, 0, none⟩) 1 1) 1 [.bool false] := own_new w _ _
theorem small_of_right {l : List Int} {next : Int} (h : rightR l next = 0) : Small l := fun x hx => by
  obtain ⟨_, h2, _, hA⟩ := right_among h
  have := (hA x hx).2
  omega

set_option maxHeartbeats 4000000 in
set_option maxRecDepth 100000 in
theorem means_walk (w : World) (n c : Nat) (A : Option Addr) (xs : List Int) (k : Int) (n' c' : Nat) (A' : Option Addr) (bs : List Bool) (hI : Ints w (Lt w) A n c xs) (hf : Fits xs) (hk : (Lit.int .i64 k).wf = true) (hB : Bools w A' n' c' bs) :
    Calls Try.prog 6 #[.slice A n c, .int .i64 k, .slice A' n' c'] w (RetBoolBelow w true) := by
  have hlen := hI.len
  have hIc := hI.cap
  have hIm := hI.max
  have hlb := hB.len
  have hBc := hB.cap
  have hBm := hB.max
  unfold maxLen at hIm hBm
  have HI := Lib.hid hI
  have HF := Lib.hid hf
  have HK := Lib.hid hk
  have HB := Lib.hid hB
  have HL := Lib.hid hlen
  have HLB := Lib.hid hlb
  have LIVE := Lib.hid (live_any w)
  obtain ⟨i0, hi0, hz0, hz1, hz2⟩ := info_parts bool_info
  clear hI hf hk hB hlen hlb
  by_cases g1 : 12 < n'
  case pos =>
    go_enter Try.func6, Try.ntmps6
    go_wp2_with (fail)
    (with_reducible refine LIVE.out.mono ?_)
    rintro e w1 ⟨rfl, hb1⟩
    go_wp2
    go_ret
    exact ⟨rfl, hb1⟩
  have d1 : decide ((12 : Int) < (n' : Int)) = false := by simp; omega
  by_cases g2 : 12 < n
  case pos =>
    go_enter Try.func6, Try.ntmps6
    go_wp2_with (fail)
    (with_reducible refine LIVE.out.mono ?_)
    rintro e w1 ⟨rfl, hb1⟩
    go_wp2
    go_ret
    exact ⟨rfl, hb1⟩
  have d2 : decide ((12 : Int) < (n : Int)) = false := by simp; omega
  go_enter Try.func6, Try.ntmps6
  go_wp2_with (fail)
  (with_reducible refine LIVE.out.mono ?_)
  rintro e w1 ⟨rfl, hb1⟩
  have hal := alloc_lt (w := w1) (.cells #[.bool false] 4)
  have hrd := ((HB.out.belowLt hb1).belowLt hal).reads
  have HB1 := Lib.hid (below_then hb1 hal)
  have HBW1 := Lib.hid hb1.size
  clear hb1 hal LIVE
  go_wp2_with (first
    | (at_builtin
       refine wpList_append_any _ rfl (.tmp 28) (.tmp 29) _ rfl w1.heap.size 4 i0 _ 1 1 Try.underlying30 hi0 hz0 hz1 hz2 rfl (by omega) (.slice (some ⟨w1.heap.size, 0, none⟩) 1 1) 1 [.bool false] (by rfl) (one_false w1) _ A' n' c' _ (by rfl) hrd (bools_oneCell _) (by simp only [maxLen]; omega) (by omega) (by simp) ?_
       intro v2 w2 hown2 hg2 hat2
       obtain ⟨A2, c2, rfl⟩ := own_form hown2))
  have hB2 : Below w.heap.size w w2 := HB1.out.grown hg2 (by have := HB1.out.size; simpa using this) (fun g hg => by
    have e : g = w1.heap.size := by simpa [Value.ownBlock] using hg.symm
    have := HB1.out.size
    simp at this
    have := HBW1.out
    omega)
  have hBa : Bools w2 A2 (1 + n') c2 (false :: bs) := Bools.of_own (e := 4) (base := w1.heap.size) hown2
  have hal : ((false :: bs).length : Int) = 1 + (n' : Int) := by rw [List.length_cons, ← HLB.out]; omega
  have HAL := Lib.hid hal
  have HBA := Lib.hid hBa
  have HB2 := Lib.hid hB2
  have call1 := least_t w2 n c A xs k (1 + (n' : Int)) (HI.out.belowLt hB2) HF.out HK.out
  have CALL1 := Lib.hid call1
  clear hown2 hg2 hat2 hB2 hBa hal call1 HB HB1 hrd
  (with_reducible refine CALL1.out.mono ?_)
  rintro e w3 ⟨A3, n3, c3, rfl, hr3, hb3⟩
  have HR3 := Lib.hid hr3
  have HBA3 := Lib.hid (HBA.out.belowLt hb3)
  have HB3 := Lib.hid (below_then HB2.out hb3)
  have call2 := most_t w3 n c A xs k (1 + (n' : Int)) (HI.out.belowLt HB3.out) HF.out HK.out
  have CALL2 := Lib.hid call2
  clear hr3 hb3 call2 CALL1 HBA HB2
  go_wp2_with (fail)
  (with_reducible refine CALL2.out.mono ?_)
  rintro e w4 ⟨A4, n4, c4, rfl, hr4, hb4⟩
  have HR4 := Lib.hid hr4
  have HR34 := Lib.hid (HR3.out.belowLt hb4)
  have HBA4 := Lib.hid (HBA3.out.belowLt hb4)
  have HB4 := Lib.hid (below_then HB3.out hb4)
  clear hr4 hb4 CALL2 HBA3 HB3 HR3
  have hx60 : xs.length ≤ 60 := by have := HL.out; omega
  have e1 := leastR_room (k := k) hx60 (show 1 + (n' : Int) ≤ 30000 by omega)
  have e2 := mostR_room (k := k) hx60 (show 1 + (n' : Int) ≤ 30000 by omega)
  by_cases hr : rightR xs (1 + (n' : Int)) = 0
  case neg =>
    have q1 := leastR_bad0 (show (leastR xs k (1 + (n' : Int))).err ≠ 0 by rw [e1]; exact hr)
    have q2 := mostR_bad0 (show (mostR xs k (1 + (n' : Int))).err ≠ 0 by rw [e2]; exact hr)
    have l3 := HR34.out.len
    have l4 := HR4.out.len
    rw [q1.1] at l3
    rw [q2.1] at l4
    obtain rfl : n3 = 0 := l3
    obtain rfl : n4 = 0 := l4
    rw [e1, e2]
    have hne : (rightR xs (1 + (n' : Int)) != 0) = true := by simpa using hr
    clear q1 q2 e1 e2 HR34 HR4 hr
    generalize rightR xs (1 + (n' : Int)) = er at *
    generalize (leastR xs k (1 + (n' : Int))).after = af1 at *
    generalize (mostR xs k (1 + (n' : Int))).after = af2 at *
    go_wp2_with (fail)
    go_ret
    exact ⟨by simp, HB4.out⟩
  rw [hr] at e1 e2
  have hs := small_of_right hr
  have HS := Lib.hid hs
  have k1 : (leastR xs k ((false :: bs).length : Int)).err = 0 := by rw [HAL.out]; exact e1
  have k2 : (mostR xs k ((false :: bs).length : Int)).err = 0 := by rw [HAL.out]; exact e2
  have c1 := can_least k1
  have c2' := can_most k2
  obtain ⟨_, f1, f2, _⟩ := leastR_after e1
  obtain ⟨f3, f4⟩ := mostR_range e2
  rw [HAL.out] at c1 c2'
  rw [e1, e2]
  have HC1 : Hid (canTried (false :: bs) (leastR xs k (1 + (n' : Int))).after = true → canIs (leastR xs k (1 + (n' : Int))).cs (false :: bs) (leastR xs k (1 + (n' : Int))).after = decide (k ≤ (manyT xs (false :: bs) : Int))) := fun h => by
    unfold canIs; rw [h, Bool.true_and, HAL.out]; exact c1
  have HC2 : Hid (canTried (false :: bs) (mostR xs k (1 + (n' : Int))).after = true → canIs (mostR xs k (1 + (n' : Int))).cs (false :: bs) (mostR xs k (1 + (n' : Int))).after = decide ((manyT xs (false :: bs) : Int) ≤ k)) := fun h => by
    unfold canIs; rw [h, Bool.true_and, HAL.out]; exact c2'
  clear c1 c2' k1 k2 hr hs e1 e2
  generalize (leastR xs k (1 + (n' : Int))).after = af1 at *
  generalize (mostR xs k (1 + (n' : Int))).after = af2 at *
  have call3 := can_r w4 A3 n3 c3 (leastR xs k (1 + (n' : Int))).cs A2 (1 + n') c2 (false :: bs) af1 HR34.out HBA4.out (by omega) (by omega) (by omega)
  generalize canIs (leastR xs k (1 + (n' : Int))).cs (false :: bs) af1 = is1 at *
  generalize canTried (false :: bs) af1 = tr1 at *
  have CALL3 := Lib.hid call3
  clear call3 HR34
  go_wp2_with (fail)
  (with_reducible refine CALL3.out.mono ?_)
  rintro e w5 ⟨rfl, hb5⟩
  have HB5 := Lib.hid (below_then HB4.out hb5)
  have HBA5 := Lib.hid (HBA4.out.belowLt hb5)
  have call4 := can_r w5 A4 n4 c4 (mostR xs k (1 + (n' : Int))).cs A2 (1 + n') c2 (false :: bs) af2 (HR4.out.belowLt hb5) HBA5.out (by omega) (by omega) (by omega)
  generalize canIs (mostR xs k (1 + (n' : Int))).cs (false :: bs) af2 = is2 at *
  generalize canTried (false :: bs) af2 = tr2 at *
  have CALL4 := Lib.hid call4
  clear call4 hb5 HR4 HB4 HBA4 CALL3
  go_wp2_with (fail)
  (with_reducible refine CALL4.out.mono ?_)
  rintro e w6 ⟨rfl, hb6⟩
  have HB6 := Lib.hid (below_then HB5.out hb6)
  have hBA6 := HBA5.out.belowLt hb6
  have callm := many_any w6 A n c xs A2 (1 + n') c2 (false :: bs) (HI.out.belowLt HB6.out) hBA6 HS.out (by omega)
  generalize manyT xs (false :: bs) = q at *
  have CALLM := Lib.hid callm
  clear callm hBA6 hb6 HB5 HBA5 CALL4
  cases tr1
  · cases tr2
    · go_wp2_with (fail)
      go_ret
      exact ⟨by simp, HB6.out⟩
    · obtain rfl := HC2.out rfl
      go_wp2_with (fail)
      (with_reducible refine CALLM.out.mono ?_)
      rintro e w7 ⟨rfl, rfl⟩
      go_wp2_with (fail)
      go_ret
      exact ⟨by simp, HB6.out⟩
  · obtain rfl := HC1.out rfl
    cases tr2
    · go_wp2_with (fail)
      (with_reducible refine CALLM.out.mono ?_)
      rintro e w7 ⟨rfl, rfl⟩
      go_wp2_with (fail)
      go_ret
      exact ⟨by simp, HB6.out⟩
    · obtain rfl := HC2.out rfl
      go_wp2_with (fail)
      (with_reducible refine CALLM.out.mono ?_)
      rintro e w7 ⟨rfl, rfl⟩
      go_wp2_with (fail)
      (with_reducible refine CALLM.out.mono ?_)
      rintro e w7 ⟨rfl, rfl⟩
      go_wp2_with (fail)
      go_ret
      exact ⟨by simp, HB6.out⟩
end Go.Proofs.Ytanbkdfffojpnaa
