/-
  chalklineref15.Total: it hands back what total.Total does.
-/
import Derived.Test.YtohffgggogdgmaaRefCount
import Derived.Test.YtohffgggogdgmaaLive15
namespace Go.Proofs.Ytohffgggogdgmaa
open Go.RowKit

theorem rett_nil {w w' : World} {after err : Int} (h : Below w.heap.size w w') : RetT w [] [] after err (.returned (.tuple #[.slice none 0 0, .slice none 0 0, .int .i64 after, .int .i64 err])) w' :=
  ⟨none, 0, 0, none, 0, 0, rfl, Ints.nil_, ⟨rfl, Nat.le_refl _, by simp [maxLen], [], Reads.none_, fun i r h => by simp at h⟩, h⟩

set_option maxHeartbeats 4000000 in
set_option maxRecDepth 100000 in
theorem refTotal_any (w : World) (n c : Nat) (A : Option Addr) (xs : List Int) (most next : Int) (hI : Ints w (Lt w) A n c xs) (hf : Fits xs) (hn6 : n ≤ 64) :
    Calls Try.prog 12 #[.slice A n c, .int .i64 most, .int .i64 next] w (RetT w (totalR xs most next).outs (totalR xs most next).cs (totalR xs most next).after (totalR xs most next).err) := by
  have hlen : n = xs.length := hI.len
  by_cases harg : next < 1 ∨ 65537 < next ∨ most < 0 ∨ 1099511627776 < most ∨ 4096 < xs.length
  · rw [totalR_arg harg]
    clear hI hf
    by_cases h1 : next < 1
    · clear harg hlen
      go_enter Try.func12, Try.ntmps12
      go_wp2
      exact bodyPost_ret (v := .tuple #[.slice none 0 0, .slice none 0 0, .int .i64 0, .int .i64 1]) (by simp [results, Try.results12, go_sem]) rfl (rett_nil (Below.refl _ _))
    by_cases h2 : 65537 < next
    · clear harg hlen
      go_enter Try.func12, Try.ntmps12
      go_wp2
      exact bodyPost_ret (v := .tuple #[.slice none 0 0, .slice none 0 0, .int .i64 0, .int .i64 1]) (by simp [results, Try.results12, go_sem]) rfl (rett_nil (Below.refl _ _))
    by_cases h3 : most < 0
    · clear harg hlen
      go_enter Try.func12, Try.ntmps12
      go_wp2
      exact bodyPost_ret (v := .tuple #[.slice none 0 0, .slice none 0 0, .int .i64 0, .int .i64 1]) (by simp [results, Try.results12, go_sem]) rfl (rett_nil (Below.refl _ _))
    have h4 : 1099511627776 < most := by omega
    clear harg hlen
    go_enter Try.func12, Try.ntmps12
    go_wp2
    exact bodyPost_ret (v := .tuple #[.slice none 0 0, .slice none 0 0, .int .i64 0, .int .i64 1]) (by simp [results, Try.results12, go_sem]) rfl (rett_nil (Below.refl _ _))
  obtain ⟨m, rfl⟩ := Int.eq_ofNat_of_zero_le (show 0 ≤ next by omega)
  obtain ⟨mo, rfl⟩ := Int.eq_ofNat_of_zero_le (show 0 ≤ most by omega)
  have e1 : decide ((m : Int) < 1) = false := by simp; omega
  have e2 : decide ((65537 : Int) < (m : Int)) = false := by simp; omega
  have e3 : decide ((mo : Int) < 0) = false := by simp
  have e4 : decide ((1099511627776 : Int) < (mo : Int)) = false := by simp; omega
  have e5 : decide ((4096 : Int) < (n : Int)) = false := by simp; omega
  have call := lits_any w n c A xs m hI hf (by omega) (by omega) (by omega)
  have HARG := Lib.hid harg
  have HLEN := Lib.hid hlen
  have HI := Lib.hid hI
  have hm1 : 1 ≤ m := by omega
  have hm2 : m ≤ 65537 := by omega
  have hmo : mo ≤ 1099511627776 := by omega
  clear harg hlen hI
  cases hap : apartB (m : Int) xs
  · rw [totalR_lit HARG.out hap]
    have hr : litsR m xs = 140 := by unfold litsR; rw [if_neg (by simp [hap])]
    rw [hr] at call
    have CALL := Lib.hid call
    clear call hr hap hf
    go_enter Try.func12, Try.ntmps12
    go_wp2_with (fail)
    (with_reducible refine CALL.out.mono ?_)
    rintro e w1 ⟨rfl, hb1⟩
    go_wp2_with (fail)
    exact bodyPost_ret (v := .tuple #[.slice none 0 0, .slice none 0 0, .int .i64 0, .int .i64 140]) (by simp [results, Try.results12, go_sem]) rfl (rett_nil hb1)
  have hr : litsR m xs = 0 := by unfold litsR; rw [if_pos hap]
  rw [hr] at call
  have CALL := Lib.hid call
  have HAP := Lib.hid hap
  have HSM := Lib.hid (apart_small hap (by omega))
  clear call hr hap hf
  by_cases hz : xs.length = 0 ∨ (mo : Int) = 0
  · rw [totalR_zero HARG.out HAP.out hz]
    have hz' : n = 0 ∨ mo = 0 := by have := HLEN.out; omega
    clear hz
    by_cases hz1 : n = 0
    · clear hz'
      subst hz1
      clear e5
      go_enter Try.func12, Try.ntmps12
      go_wp2_with (fail)
      (with_reducible refine CALL.out.mono ?_)
      rintro e w1 ⟨rfl, hb1⟩
      go_wp2
      exact bodyPost_ret (v := .tuple #[.slice none 0 0, .slice none 0 0, .int .i64 m, .int .i64 0]) (by simp [results, Try.results12, go_sem]) rfl (rett_nil hb1)
    · obtain rfl : mo = 0 := by omega
      have e6 : ((n : Int) == 0) = false := by simp; omega
      clear hz' e3 e4
      go_enter Try.func12, Try.ntmps12
      go_wp2_with (fail)
      (with_reducible refine CALL.out.mono ?_)
      rintro e w1 ⟨rfl, hb1⟩
      go_wp2
      exact bodyPost_ret (v := .tuple #[.slice none 0 0, .slice none 0 0, .int .i64 m, .int .i64 0]) (by simp [results, Try.results12, go_sem]) rfl (rett_nil hb1)
  have hz1 : 1 ≤ n := by have := HLEN.out; omega
  have hz2 : 1 ≤ mo := by omega
  have e6 : ((n : Int) == 0) = false := by simp; omega
  have e7 : ((mo : Int) == 0) = false := by simp; omega
  have HZ := Lib.hid hz
  have hvb := vars_bound mo n
  have hvb' : vars mo n ≤ 4096 := Nat.le_trans hvb (Nat.le_trans (Nat.mul_le_mul hn6 hn6) (by omega))
  clear hz hvb
  by_cases hbd : 65537 < (m : Int) + vars mo n
  · rw [totalR_bound HARG.out HAP.out HZ.out (by rw [← HLEN.out]; simpa using hbd)]
    have cv := fun w1 => refVars_any w1 mo hmo n hz1 hn6
    generalize vars mo n = vv at *
    have CV := Lib.hid cv
    clear cv
    go_enter Try.func12, Try.ntmps12
    go_wp2_with (fail)
    (with_reducible refine CALL.out.mono ?_)
    rintro e w1 ⟨rfl, hb1⟩
    go_wp2_with (fail)
    (with_reducible refine (CV.out w1).mono ?_)
    rintro e w2 ⟨rfl, rfl⟩
    go_wp2
    exact bodyPost_ret (v := .tuple #[.slice none 0 0, .slice none 0 0, .int .i64 0, .int .i64 2]) (by simp [results, Try.results12, go_sem]) rfl (rett_nil hb1)
  rw [totalR_ok HARG.out HAP.out HZ.out (by rw [← HLEN.out]; simpa using hbd)]
  have cv := fun w1 => refVars_any w1 mo hmo n hz1 hn6
  have cc := fun w1 (hb1 : Below w.heap.size w w1) => refCount_any mo hz2 hmo xs.length w1 w.heap.size (.slice none 0 0) [] m n c A xs (Nat.le_refl _) (by have := HLEN.out; omega) (by have := HLEN.out; omega) (OwnRows.nil_ _ _) hb1.size (HI.out.below hb1 (fun _ h => h)) HSM.out (by omega)
    (by rw [← HLEN.out]; omega) (by
      rw [← HLEN.out]
      have : 4 * n * n ≤ 4 * 64 * 64 := Nat.mul_le_mul (Nat.mul_le_mul_left _ hn6) hn6
      simp only [List.length_nil]
      omega)
  show Calls _ _ _ _ (RetT w (cnt (mo : Int).toNat xs m).1 (cnt (mo : Int).toNat xs m).2 ((m : Int) + vars (mo : Int).toNat xs.length) 0)
  rw [Int.toNat_natCast]
  rw [List.nil_append] at cc
  rw [← HLEN.out] at cc ⊢
  generalize vars mo n = vv at *
  generalize cnt mo xs m = CC at *
  obtain ⟨outs, cs⟩ := CC
  have CV := Lib.hid cv
  have CCN := Lib.hid cc
  clear cv cc
  obtain ⟨nx, hnx⟩ : ∃ x : Int, x = (m : Int) + vv := ⟨_, rfl⟩
  go_enter Try.func12, Try.ntmps12
  go_wp2_with (fail)
  (with_reducible refine CALL.out.mono ?_)
  rintro e w1 ⟨rfl, hb1⟩
  go_wp2_with (fail)
  (with_reducible refine (CV.out w1).mono ?_)
  rintro e w2 ⟨rfl, rfl⟩
  go_wp2_with (fail)
  (with_reducible refine (CCN.out w1 hb1).mono ?_)
  rintro e w2 ⟨A1, c1, A2, n2, c2, rfl, ho2, hr2, hg2, hb2⟩
  have hB2 : Below w.heap.size w w2 := hb1.grown hg2 hb1.size (fun k hk => by simp [Value.ownBlock] at hk)
  go_wp2_with (fail)
  go_region
  all_goals go_wp2_with (fail)
  all_goals
    refine bodyPost_ret (v := .tuple #[.slice A2 n2 c2, .slice A1 cs.length c1, .int .i64 (m + vv), .int .i64 0]) (by simp [results, Try.results12, go_sem]) rfl ?_
    have hal := alloc_lt (w := w2) (.cells #[.slice A1 cs.length c1, .int .i64 (m + vv)] 52)
    exact ⟨A2, n2, c2, A1, cs.length, c1, rfl, ((Ints.of_ownLt hr2).belowLt hal).belowLt (Below.refl _ _).drew, ((Rows2.of_own ho2).belowLt hal).belowLt (Below.refl _ _).drew, (hB2.trans (hal.mono hB2.size)).drew⟩
end Go.Proofs.Ytohffgggogdgmaa
