/-
  chalklineref16.Registers; chalklinelaw16.CountFits: the walk.
-/
import Derived.Test.YtanbkdfffojpnaaMeans
import Derived.Test.YtanbkdfffojpnaaCheck
namespace Go.Proofs.Ytanbkdfffojpnaa
open Go.RowKit

theorem check_ok {m : Int} {cs : List (List Int)} (h1 : 1 ≤ m) (h2 : m ≤ 65537) (hc : ∀ cl ∈ cs, Among (LitBelow m) cl) (hl : cs.length ≤ 65536) : checkR (m - 1) cs = 0 := by
  unfold checkR
  have hb : badB cs (m - 1) = false := by
    unfold badB
    refine List.any_eq_false.2 fun cl hcl => ?_
    have : cl.any (fun x => !mayB x (m - 1)) = false := List.any_eq_false.2 fun x hx => by
      have h := hc cl hcl x hx
      have : mayB x (m - 1) = true := by
        simp only [mayB, decide_eq_true_eq]
        have := h.1; have := h.2
        omega
      simp [this]
    simp [this]
  rw [if_neg (by omega), hb]
  simp
  omega


/-- The number of registers, whatever k. -/
def regsK (n : Nat) (k : Int) : Nat := if 1 ≤ k ∧ k ≤ n then regs n k.toNat else 0
theorem leastR_len {l : List Int} {k next : Int} (h0 : (leastR l k next).err = 0) : (leastR l k next).cs.length ≤ 65536 ∧ (leastR l k next).after = next + regsK l.length k := by
  obtain ⟨hr, _⟩ := leastR_after h0
  by_cases hk : k ≤ 0
  · rw [leastR_none hr hk]; unfold regsK; rw [if_neg (by omega)]; simp
  by_cases hk2 : (l.length : Int) < k
  · rw [leastR_over hr hk hk2]; unfold regsK; rw [if_neg (by omega)]; simp
  obtain ⟨m, rfl⟩ := Int.eq_ofNat_of_zero_le (show 0 ≤ k by omega)
  by_cases hb : 65536 < next + regs l.length m - 1 ∨ 65536 < 2 * (regs l.length m : Int) - l.length + 1
  · rw [leastR_bound hr (by omega) (by omega) hb] at h0; cases h0
  rw [leastR_ok hr (by omega) (by omega) hb]
  have := leastC_len (l := l) (next := next) (k := m) (by omega) (by omega)
  unfold regsK
  rw [if_pos (by omega), Int.toNat_natCast]
  refine ⟨?_, ?_⟩
  · show (leastC l next m).length ≤ 65536
    omega
  · show beginAt next m l.length = next + (regs l.length m : Int)
    rw [beginAt_sum, sumM_regs (by omega) (by omega)]
theorem sumM_le (k : Nat) : ∀ i, sumM k i ≤ i * k
  | 0 => by simp [sumM]
  | i + 1 => by
    have := sumM_le k i
    have h2 : manyAt k i ≤ k := by unfold manyAt; omega
    rw [sumM, Nat.succ_mul]; omega

set_option maxHeartbeats 1000000 in
set_option maxRecDepth 100000 in
theorem registers_any (w : World) (n : Nat) (k : Int) (hn : n ≤ 200) : Calls Try.prog 23 #[.int .i64 n, .int .i64 k] w (RetNatSame w (regsK n k)) := by
  by_cases hk : 1 ≤ k ∧ k ≤ n
  case neg =>
    have e : regsK n k = 0 := by unfold regsK; rw [if_neg hk]
    rw [e]
    clear e
    go_enter Try.func23, Try.ntmps23
    go_wp2
    go_loop [5, 6] (fun t i => t = .int .i64 0 ∧ i = .int .i64 1) (fun _ _ => 0)
    case atStart => exact ⟨rfl, rfl⟩
    case round =>
      obtain ⟨rfl, rfl⟩ := hrel
      by_cases h1 : 1 ≤ n
      · by_cases h2 : 1 ≤ k
        · have h3 : ¬ k ≤ n := fun h => hk ⟨h2, h⟩
          have h3' : (n : Int) < k := by omega
          clear hk
          go_wp2
          go_ret
          exact ⟨rfl, rfl⟩
        · have h2' : k < 1 := by omega
          clear hk
          go_wp2
          go_ret
          exact ⟨rfl, rfl⟩
      · have h1' : n = 0 := by omega
        subst h1'
        clear hk
        go_wp2
        go_ret
        exact ⟨rfl, rfl⟩
  obtain ⟨m, rfl⟩ := Int.eq_ofNat_of_zero_le (show 0 ≤ k by omega)
  have e : regsK n (m : Int) = sumM m n := by unfold regsK; rw [if_pos hk, Int.toNat_natCast, sumM_regs (by omega) (by omega)]
  rw [e]
  clear e
  have hm1 : 1 ≤ m := by omega
  have hm2 : m ≤ n := by omega
  clear hk
  go_enter Try.func23, Try.ntmps23
  go_wp2
  go_loop [5, 6] (fun t i => ∃ j : Nat, j ≤ n ∧ i = .int .i64 ((j : Int) + 1) ∧ t = .int .i64 (sumM m j)) (fun _ i => n + 1 - (intOf i).toNat)
  case atStart => exact ⟨0, Nat.zero_le _, rfl, rfl⟩
  case round =>
    obtain ⟨j, hj, rfl, rfl⟩ := hrel
    have hb : sumM m j ≤ 40000 := Nat.le_trans (sumM_le m j) (Nat.mul_le_mul (show j ≤ 200 by omega) (show m ≤ 200 by omega))
    by_cases hlt : j < n
    · have HS : Hid (sumM m (j + 1) = sumM m j + manyAt m j) := rfl
      by_cases hmm : j + 1 ≤ m
      · have HM : Hid (manyAt m j = j + 1) := by show manyAt m j = j + 1; unfold manyAt; omega
        generalize hq : sumM m j = q at *
        have HQ := Lib.hid hq
        clear hq
        go_wp2
        go_round
        case rel => exact ⟨j + 1, by omega, by go_num, by rw [HS.out, HM.out]; go_num⟩
        case measure => simp [intOf]; omega
      · have HM : Hid (manyAt m j = m) := by show manyAt m j = m; unfold manyAt; omega
        generalize hq : sumM m j = q at *
        have HQ := Lib.hid hq
        clear hq
        go_wp2
        go_round
        case rel => exact ⟨j + 1, by omega, by go_num, by rw [HS.out, HM.out]; go_num⟩
        case measure => simp [intOf]; omega
    · obtain rfl : n = j := by omega
      generalize sumM m n = q at *
      go_wp2
      go_ret
      exact ⟨rfl, rfl⟩

set_option maxHeartbeats 4000000 in
set_option maxRecDepth 100000 in
theorem fits_walk (w : World) (n c : Nat) (A : Option Addr) (xs : List Int) (k next : Int) (hI : Ints w (Lt w) A n c xs) (hf : Fits xs) (hk : (Lit.int .i64 k).wf = true) (_ : (Lit.int .i64 next).wf = true) :
    Calls Try.prog 9 #[.slice A n c, .int .i64 k, .int .i64 next] w (RetBoolBelow w true) := by
  have hlen := hI.len
  have hIc := hI.cap
  have hIm := hI.max
  unfold maxLen at hIm
  have HI := Lib.hid hI
  have HF := Lib.hid hf
  have HK := Lib.hid hk
  have HL := Lib.hid hlen
  have LIVE := Lib.hid (live_any w)
  clear hI hf hk hlen
  by_cases g1 : 200 < n
  case pos =>
    go_enter Try.func9, Try.ntmps9
    go_wp2_with (fail)
    (with_reducible refine LIVE.out.mono ?_)
    rintro e w1 ⟨rfl, hb1⟩
    go_wp2
    go_ret
    exact ⟨rfl, hb1⟩
  have d1 : decide ((200 : Int) < (n : Int)) = false := by simp; omega
  go_enter Try.func9, Try.ntmps9
  go_wp2_with (fail)
  (with_reducible refine LIVE.out.mono ?_)
  rintro e w1 ⟨rfl, hb1⟩
  have HB1 := Lib.hid hb1
  have CALL1 := Lib.hid (least_t w1 n c A xs k next (HI.out.belowLt hb1) HF.out HK.out)
  clear hb1 LIVE
  go_wp2_with (fail)
  (with_reducible refine CALL1.out.mono ?_)
  rintro e w3 ⟨A3, n3, c3, rfl, hr3, hb3⟩
  have HR3 := Lib.hid hr3
  have HB3 := Lib.hid (below_then HB1.out hb3)
  clear hr3 hb3 CALL1 HB1
  by_cases h0 : (leastR xs k next).err = 0
  case neg =>
    have q1 := leastR_bad0 h0
    have l3 := HR3.out.len
    rw [q1.1] at l3
    obtain rfl : n3 = 0 := l3
    rw [q1.2]
    have hne : ((leastR xs k next).err != 0) = true := by simpa using h0
    clear q1 HR3 h0
    generalize (leastR xs k next).err = er at *
    go_wp2_with (fail)
    go_ret
    exact ⟨by simp, HB3.out⟩
  obtain ⟨hr, f1, f2, f3⟩ := leastR_after h0
  obtain ⟨f4, f5⟩ := leastR_len h0
  obtain ⟨f6, _, _, _⟩ := right_among hr
  have HCK := Lib.hid (check_ok (m := (leastR xs k next).after) (by omega) f2 f3 f4)
  have CREG := Lib.hid (fun w1 => registers_any w1 n k (by omega))
  have CCK := Lib.hid (fun w1 (hb : Below w3.heap.size w3 w1) => check_any w1 ((leastR xs k next).after - 1) A3 n3 c3 (leastR xs k next).cs (HR3.out.belowLt hb))
  rw [h0]
  rw [← HL.out] at f5
  clear h0 hr f3 f4 HR3
  generalize (leastR xs k next).after = af at *
  generalize (leastR xs k next).cs = cs at *
  generalize regsK n k = rg at *
  have e1 : (next + (rg : Int)) = af := by omega
  clear f5
  go_wp2_with (fail)
  (with_reducible refine (CREG.out w3).mono ?_)
  rintro e w4 ⟨rfl, rfl⟩
  go_wp2_with (fail)
  (with_reducible refine (CCK.out w3 (Below.refl _ _)).mono ?_)
  rintro e w5 ⟨rfl, hb5⟩
  rw [HCK.out]
  have HB5 := Lib.hid (below_then HB3.out hb5)
  clear hb5
  go_wp2_with (fail)
  go_ret
  exact ⟨by simp, HB5.out⟩
end Go.Proofs.Ytanbkdfffojpnaa
