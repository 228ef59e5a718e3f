/-
  chalklineref15.vars: the number of new variables, by recursion.
-/
import Derived.Test.YtohffgggogdgmaaRefLits
namespace Go.Proofs.Ytohffgggogdgmaa
open Go.RowKit

theorem vars_bound (most n : Nat) : vars most n ≤ n * n := by
  by_cases h : n ≤ 1
  · rw [vars_one h]; exact Nat.zero_le _
  · rw [vars_two h]
    have h1 := vars_bound most (n / 2)
    have h2 := vars_bound most (n - n / 2)
    have hn : n = n / 2 + (n - n / 2) := by omega
    have hmn : min n most ≤ n / 2 + (n - n / 2) := by omega
    have hg : 2 ≤ n := by omega
    have h3 : 1 ≤ n / 2 := by omega
    have h4 : 1 ≤ n - n / 2 := by omega
    generalize min n most = mm at *
    generalize vars most (n / 2) = va at *
    generalize vars most (n - n / 2) = vb at *
    generalize n - n / 2 = q at *
    generalize n / 2 = p at *
    have h5 : (p + q) * (p + q) = p * p + q * q + 2 * (p * q) := by
      simp only [Nat.mul_add, Nat.add_mul, Nat.mul_comm q p]; omega
    have h6 : p + q ≤ 2 * (p * q) := by
      obtain ⟨p, rfl⟩ := Nat.exists_eq_add_of_le h3
      obtain ⟨q, rfl⟩ := Nat.exists_eq_add_of_le h4
      simp only [Nat.mul_add, Nat.add_mul]; omega
    rw [hn, h5]
    omega
termination_by n
decreasing_by all_goals omega

set_option maxHeartbeats 1000000 in
set_option maxRecDepth 100000 in
theorem refVars_any (w : World) (m : Nat) (hm : m ≤ 1099511627776) : ∀ (n : Nat), 1 ≤ n → n ≤ 64 →
    Calls Try.prog 27 #[.int .i64 n, .int .i64 m] w (RetNatSame w (vars m n))
  | n, h1, h2 => by
    by_cases g : n = 1
    · subst g
      rw [vars_one (Nat.le_refl _)]
      go_enter Try.func27, Try.ntmps27
      go_wp2
      go_ret
      exact ⟨rfl, rfl⟩
    have CA := Lib.hid (refVars_any w m hm (n / 2) (by omega) (by omega))
    have CB := Lib.hid (refVars_any w m hm (n - n / 2) (by omega) (by omega))
    have q1 : ((n / 2 : Nat) : Int) = (n : Int) / 2 := by omega
    have q2 : ((n - n / 2 : Nat) : Int) = (n : Int) - (n : Int) / 2 := by omega
    rw [q1] at CA
    rw [q2] at CB
    clear q1 q2
    have hv := vars_two (most := m) (show ¬ n ≤ 1 by omega)
    rw [hv]
    have b1 := vars_bound m (n / 2)
    have b2 := vars_bound m (n - n / 2)
    have b1' : vars m (n / 2) ≤ 4096 := Nat.le_trans b1 (Nat.le_trans (Nat.mul_le_mul (show n / 2 ≤ 64 by omega) (show n / 2 ≤ 64 by omega)) (by omega))
    have b2' : vars m (n - n / 2) ≤ 4096 := Nat.le_trans b2 (Nat.le_trans (Nat.mul_le_mul (show n - n / 2 ≤ 64 by omega) (show n - n / 2 ≤ 64 by omega)) (by omega))
    clear b1 b2 hv
    generalize vars m (n / 2) = va at *
    generalize vars m (n - n / 2) = vb at *
    have e1 : ((n : Int) == 1) = false := by simp; omega
    go_enter Try.func27, Try.ntmps27
    go_wp2_with (fail)
    (with_reducible refine CA.out.mono ?_)
    rintro e w1 ⟨rfl, rfl⟩
    go_wp2_with (fail)
    (with_reducible refine CB.out.mono ?_)
    rintro e w1 ⟨rfl, rfl⟩
    go_wp2
    all_goals go_ret
    all_goals exact ⟨ret_int (by omega), rfl⟩
termination_by n => n
decreasing_by all_goals omega
end Go.Proofs.Ytohffgggogdgmaa
