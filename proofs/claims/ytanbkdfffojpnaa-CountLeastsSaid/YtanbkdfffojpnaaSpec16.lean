/-
  What the sequential counter computes: plain functions, no program in sight.
-/
import Derived.Test.YtanbkdfffojpnaaTotSpec
namespace Go.Proofs.Ytanbkdfffojpnaa

def rightR (l : List Int) (next : Int) : Int := if next < 1 ∨ 65537 < next ∨ 4096 < l.length then 1 else if apartB next l = true then 0 else 140
/-- The j-th of many registers from b on, or 0. -/
def regR (b m j : Int) : Int := if j < 1 ∨ m < j then 0 else b + j - 1
/-- The literals that are there. -/
def nz (l : List Int) : List Int := l.filter (fun x => !(x == 0))
/-- The clauses for register j of a row. -/
def clJ (b pb pm x : Int) (j : Nat) : List (List Int) :=
  [nz [-(b + j - 1), regR pb pm j, x]] ++ (if 1 < j then [nz [-(b + j - 1), regR pb pm j, regR pb pm ((j : Int) - 1)]] else [])
def rowL (b pb pm x : Int) : Nat → List (List Int)
  | 0 => []
  | j + 1 => rowL b pb pm x j ++ clJ b pb pm x (j + 1)
def manyAt (k i : Nat) : Nat := min (i + 1) k
def beginAt (next : Int) (k : Nat) : Nat → Int
  | 0 => next
  | i + 1 => beginAt next k i + manyAt k i
def prevB (next : Int) (k : Nat) : Nat → Int
  | 0 => 0
  | i + 1 => beginAt next k i
def prevM (k : Nat) : Nat → Nat
  | 0 => 0
  | i + 1 => manyAt k i
def allL (l : List Int) (next : Int) (k : Nat) : Nat → List (List Int)
  | 0 => []
  | i + 1 => allL l next k i ++ rowL (beginAt next k i) (prevB next k i) (prevM k i) (l.getD i 0) (manyAt k i)
def lastC (next : Int) (k n : Nat) : List Int := nz [regR (prevB next k n) (prevM k n) k]
def leastC (l : List Int) (next : Int) (k : Nat) : List (List Int) := allL l next k l.length ++ [lastC next k l.length]
/-- The number of registers. -/
def regs (n k : Nat) : Nat := k * (k - 1) / 2 + k * (n - k + 1)

structure LeastOut where
  cs : List (List Int)
  after : Int
  err : Int
def leastR (l : List Int) (k next : Int) : LeastOut :=
  if rightR l next ≠ 0 then ⟨[], 0, rightR l next⟩
  else if k ≤ 0 then ⟨[], next, 0⟩
  else if l.length < k then ⟨[[]], next, 0⟩
  else if 65536 < next + regs l.length k.toNat - 1 ∨ 65536 < 2 * (regs l.length k.toNat : Int) - l.length + 1 then ⟨[], 0, 2⟩
  else ⟨leastC l next k.toNat, beginAt next k.toNat l.length, 0⟩
def mostR (l : List Int) (k next : Int) : LeastOut :=
  if rightR l next ≠ 0 then ⟨[], 0, rightR l next⟩
  else leastR (l.map (fun x => -x)) (l.length - min (max k (-1)) l.length) next

theorem leastR_bad {l : List Int} {k next : Int} (h : rightR l next ≠ 0) : leastR l k next = ⟨[], 0, rightR l next⟩ := by rw [leastR, if_pos h]
theorem leastR_none {l : List Int} {k next : Int} (h : rightR l next = 0) (h1 : k ≤ 0) : leastR l k next = ⟨[], next, 0⟩ := by rw [leastR, if_neg (by simp [h]), if_pos h1]
theorem leastR_over {l : List Int} {k next : Int} (h : rightR l next = 0) (h1 : ¬ k ≤ 0) (h2 : l.length < k) : leastR l k next = ⟨[[]], next, 0⟩ := by rw [leastR, if_neg (by simp [h]), if_neg h1, if_pos h2]
theorem leastR_bound {l : List Int} {k : Nat} {next : Int} (h : rightR l next = 0) (h1 : 0 < k) (h2 : k ≤ l.length) (h3 : 65536 < next + regs l.length k - 1 ∨ 65536 < 2 * (regs l.length k : Int) - l.length + 1) : leastR l k next = ⟨[], 0, 2⟩ := by
  rw [leastR, if_neg (by simp [h]), if_neg (by omega), if_neg (by omega), if_pos (by rw [Int.toNat_natCast]; exact h3)]
theorem leastR_ok {l : List Int} {k : Nat} {next : Int} (h : rightR l next = 0) (h1 : 0 < k) (h2 : k ≤ l.length) (h3 : ¬ (65536 < next + regs l.length k - 1 ∨ 65536 < 2 * (regs l.length k : Int) - l.length + 1)) : leastR l k next = ⟨leastC l next k, beginAt next k l.length, 0⟩ := by
  rw [leastR, if_neg (by simp [h]), if_neg (by omega), if_neg (by omega), if_neg (by rw [Int.toNat_natCast]; exact h3), Int.toNat_natCast]

/-! The sums. -/
def sumM (k : Nat) : Nat → Nat
  | 0 => 0
  | i + 1 => sumM k i + manyAt k i
theorem beginAt_sum (next : Int) (k : Nat) : ∀ i, beginAt next k i = next + sumM k i
  | 0 => by simp [beginAt, sumM]
  | i + 1 => by rw [beginAt, beginAt_sum next k i, sumM]; omega
theorem tri (k : Nat) : (k + 1) * k / 2 = k * (k - 1) / 2 + k := by
  cases k with
  | zero => rfl
  | succ k =>
    have h1 : (k + 1 + 1) * (k + 1) = (k + 1) * (k + 1 - 1) + 2 * (k + 1) := by simp only [Nat.add_mul, Nat.mul_add, Nat.add_sub_cancel]; omega
    rw [h1, Nat.add_mul_div_left _ _ (by omega)]
theorem sumM_small (k : Nat) : ∀ i, i ≤ k → sumM k i = (i + 1) * i / 2
  | 0, _ => by simp [sumM]
  | i + 1, h => by
    rw [sumM, sumM_small k i (by omega)]
    have : manyAt k i = i + 1 := by unfold manyAt; omega
    rw [this]
    have h2 := tri (i + 1)
    simp only [Nat.add_sub_cancel] at h2
    rw [h2]
theorem sumM_large (k : Nat) (hk : 1 ≤ k) : ∀ d, sumM k (k + d) = (k + 1) * k / 2 + k * d
  | 0 => by rw [Nat.add_zero, sumM_small k k (Nat.le_refl _)]; simp
  | d + 1 => by
    have e : k + (d + 1) = (k + d) + 1 := by omega
    rw [e, sumM, sumM_large k hk d]
    have : manyAt k (k + d) = k := by unfold manyAt; omega
    rw [this, Nat.mul_succ]; omega
theorem sumM_regs {n k : Nat} (h1 : 1 ≤ k) (h2 : k ≤ n) : sumM k n = regs n k := by
  obtain ⟨d, rfl⟩ := Nat.exists_eq_add_of_le h2
  rw [sumM_large k h1, regs, tri]
  have : k + d - k + 1 = d + 1 := by omega
  rw [this, Nat.mul_succ]; omega
theorem beginAt_mono (next : Int) (k : Nat) {i n : Nat} (h : i ≤ n) : beginAt next k i ≤ beginAt next k n := by
  obtain ⟨d, rfl⟩ := Nat.exists_eq_add_of_le h
  induction d with
  | zero => exact Int.le_refl _
  | succ d ih =>
    have := ih (by omega)
    show _ ≤ beginAt next k (i + d) + manyAt k (i + d)
    omega
theorem clJ_len (b pb pm x : Int) (j : Nat) : (clJ b pb pm x j).length = if 1 < j then 2 else 1 := by unfold clJ; split <;> simp
theorem rowL_len (b pb pm x : Int) : ∀ j, (rowL b pb pm x j).length + (if 0 < j then 1 else 0) = 2 * j
  | 0 => rfl
  | j + 1 => by
    have h := rowL_len b pb pm x j
    simp only [rowL, List.length_append, clJ_len]
    split at h <;> split <;> split <;> omega
theorem allL_len (l : List Int) (next : Int) (k : Nat) (hk : 1 ≤ k) : ∀ i, (allL l next k i).length + i = 2 * sumM k i
  | 0 => rfl
  | i + 1 => by
    have h := allL_len l next k hk i
    have h2 := rowL_len (beginAt next k i) (prevB next k i) (prevM k i) (l.getD i 0) (manyAt k i)
    have h3 : 0 < manyAt k i := by unfold manyAt; omega
    rw [if_pos h3] at h2
    simp only [allL, List.length_append, sumM]
    omega
theorem leastC_len {l : List Int} {next : Int} {k : Nat} (h1 : 1 ≤ k) (h2 : k ≤ l.length) : (leastC l next k).length + l.length = 2 * regs l.length k + 1 := by
  have h := allL_len l next k h1 l.length
  rw [sumM_regs h1 h2] at h
  unfold leastC
  rw [List.length_append]
  simp only [List.length_singleton]
  omega
end Go.Proofs.Ytanbkdfffojpnaa
