/-
  Bits of a number; how the walk spells them.
-/
import Derived.Test.YtelgabamdhaplaaHolds
namespace Go.Proofs.Ytelgabamdhaplaa
open Go.RowKit

theorem bits_of : ∀ (f : Nat) (g : Nat → Bool), ∃ b, b < 2 ^ f ∧ ∀ i, i < f → b.testBit i = g i
  | 0, g => ⟨0, by simp, fun i hi => absurd hi (by omega)⟩
  | f + 1, g => by
    obtain ⟨b, hb, hg⟩ := bits_of f (fun i => g (i + 1))
    refine ⟨2 * b + (g 0).toNat, ?_, fun i hi => ?_⟩
    · rw [Nat.pow_succ]; have : (g 0).toNat ≤ 1 := by cases g 0 <;> simp
      omega
    · cases i with
      | zero => rw [Nat.testBit_zero]; cases g 0 <;> simp <;> omega
      | succ i =>
        rw [Nat.testBit_succ, ← hg i (by omega)]
        congr 1
        cases g 0 <;> simp <;> omega
theorem bits_eq {f a b : Nat} (ha : a < 2 ^ f) (hb : b < 2 ^ f) (h : ∀ i, i < f → a.testBit i = b.testBit i) : a = b := by
  apply Nat.eq_of_testBit_eq
  intro i
  by_cases hi : i < f
  · exact h i hi
  · rw [Nat.testBit_lt_two_pow (Nat.lt_of_lt_of_le ha (Nat.pow_le_pow_right (by omega) (by omega))), Nat.testBit_lt_two_pow (Nat.lt_of_lt_of_le hb (Nat.pow_le_pow_right (by omega) (by omega)))]

theorem ofInt_i64 (a : Nat) (ha : a < 9223372036854775808) : (BitVec.ofInt 64 (a : Int)).toNat = a := by
  rw [BitVec.ofInt_natCast, BitVec.toNat_ofNat]; exact Nat.mod_eq_of_lt (by omega)
theorem i64_and_nat (a b : Nat) (ha : a < 9223372036854775808) (hb : b < 9223372036854775808) : bits .and .i64 (a : Int) (b : Int) = ((a &&& b : Nat) : Int) := by
  have hx : a &&& b < 2 ^ 63 := Nat.and_lt_two_pow _ (by omega)
  show IntKind.i64.wrap ((BitVec.ofInt 64 (a : Int) &&& BitVec.ofInt 64 (b : Int)).toNat : Int) = _
  rw [BitVec.toNat_and, ofInt_i64 a ha, ofInt_i64 b hb, IntKind.wrap_i64]
  omega
theorem bit_spell (k j : Nat) (hk : k ≤ 65536) : (bits .and .i64 ((k : Int) / 2 ^ j) 1 == 1) = k.testBit j := by
  have e : ((k : Int) / 2 ^ j) = ((k / 2 ^ j : Nat) : Int) := by simp
  have hle : k / 2 ^ j ≤ k := Nat.div_le_self _ _
  have h := i64_and_nat (k / 2 ^ j) 1 (by omega) (by omega)
  rw [e]
  have h1 : bits .and .i64 ((k / 2 ^ j : Nat) : Int) (1 : Int) = ((k / 2 ^ j &&& 1 : Nat) : Int) := h
  rw [h1, Nat.and_one_is_mod, Nat.testBit_eq_decide_div_mod_eq]
  rw [Bool.eq_iff_iff]
  simp
  omega

end Go.Proofs.Ytelgabamdhaplaa
