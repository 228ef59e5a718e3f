/-
  PLAIN LAW: each clause has two or three literals; where the outputs lie.
-/
import Derived.Test.YtohffgggogdgmaaCountLaw
namespace Go.Proofs.Ytohffgggogdgmaa

theorem atL_in_len {xs : List Int} {k : Int} (h0 : 0 ≤ k) (h1 : k < xs.length) : (atL xs k).length = 1 := by unfold atL; rw [if_pos ⟨h0, h1⟩]; rfl
theorem atL_out_len {xs : List Int} {k : Int} (h : k < 0 ∨ (xs.length : Int) ≤ k) : (atL xs k).length = 0 := by rw [atL_out h]; rfl
theorem notL_length (xs : List Int) (h : xs.length ≤ 1) : (notL xs).length = xs.length := by simp [notL]; omega
theorem pair_len {a b o : List Int} {lp lq most i k : Nat} (la : a.length = min lp most) (lb : b.length = min lq most) (lo : o.length = min (lp + lq) most) (hi : i ≤ a.length) (hk : k ≤ b.length) : ∀ c ∈ pairC a b o i k, 2 ≤ c.length ∧ c.length ≤ 3 := by
  intro c hc
  unfold pairC at hc
  rcases List.mem_append.1 hc with hc | hc
  · split at hc
    · rename_i hn
      obtain rfl := List.mem_singleton.1 hc
      have e1 := notL_length (atL a ((i : Int) - 1)) (atL_len _ _)
      have e2 := notL_length (atL b ((k : Int) - 1)) (atL_len _ _)
      have e3 := atL_in_len (xs := o) (k := (i : Int) + k - 1) (by omega) (by omega)
      have e4 := atL_len a ((i : Int) - 1)
      have e5 := atL_len b ((k : Int) - 1)
      unfold upC
      rw [List.length_append, List.length_append, e1, e2, e3]
      by_cases h1 : 1 ≤ i
      · have := atL_in_len (xs := a) (k := (i : Int) - 1) (by omega) (by omega)
        omega
      · have := atL_in_len (xs := b) (k := (k : Int) - 1) (by omega) (by omega)
        omega
    · cases hc
  · split at hc
    · rename_i hn
      obtain rfl := List.mem_singleton.1 hc
      have e1 := notL_length (atL o ((i : Int) + k)) (atL_len _ _)
      have e3 := atL_in_len (xs := o) (k := (i : Int) + k) (by omega) (by omega)
      have e4 := atL_len a (i : Int)
      have e5 := atL_len b (k : Int)
      unfold downC
      rw [List.length_append, List.length_append, e1, e3]
      by_cases h1 : i < a.length
      · have := atL_in_len (xs := a) (k := (i : Int)) (by omega) (by omega)
        omega
      · have := atL_in_len (xs := b) (k := (k : Int)) (by omega) (by omega)
        omega
    · cases hc
theorem row_elim {a b o : List Int} {i : Nat} {c : List Int} : ∀ {m : Nat}, c ∈ rowC a b o i m → ∃ k, k < m ∧ c ∈ pairC a b o i k
  | 0, h => by cases h
  | m + 1, h => by
    rcases List.mem_append.1 h with h | h
    · obtain ⟨k, hk, hc⟩ := row_elim h
      exact ⟨k, by omega, hc⟩
    · exact ⟨m, by omega, h⟩
theorem all_elim {a b o : List Int} {c : List Int} : ∀ {m : Nat}, c ∈ allC a b o m → ∃ i k, i < m ∧ k ≤ b.length ∧ c ∈ pairC a b o i k
  | 0, h => by cases h
  | m + 1, h => by
    rcases List.mem_append.1 h with h | h
    · obtain ⟨i, k, hi, hk, hc⟩ := all_elim h
      exact ⟨i, k, by omega, hk, hc⟩
    · obtain ⟨k, hk, hc⟩ := row_elim h
      exact ⟨m, k, by omega, by omega, hc⟩
theorem cnt_clen {most : Nat} (hm : 1 ≤ most) : ∀ (n : Nat) (xs : List Int) (next : Int), xs.length ≤ n → 1 ≤ xs.length → ∀ c ∈ (cnt most xs next).2, 2 ≤ c.length ∧ c.length ≤ 3 := by
  intro n
  induction n with
  | zero => intro xs next h1 h2; omega
  | succ n ih =>
    intro xs next hl h1 c hcm
    by_cases hc : xs.length ≤ 1
    · rw [cnt_one hc] at hcm; cases hcm
    · rw [cnt_two hc] at hcm
      have e1 : (xs.take (xs.length / 2)).length = xs.length / 2 := by simp; omega
      have e2 : (xs.drop (xs.length / 2)).length = xs.length - xs.length / 2 := by simp
      rcases List.mem_append.1 hcm with h | h
      · rcases List.mem_append.1 h with h | h
        · exact ih _ _ (by omega) (by omega) c h
        · exact ih _ _ (by omega) (by omega) c h
      · obtain ⟨i, k, hi, hk, hp⟩ := all_elim h
        exact pair_len (cnt_length hm _ _ (by omega)) (cnt_length hm _ _ (by omega)) (by rw [fresh_len, e1, e2]; omega) (by omega) hk c hp
/-- What the law asks. -/
theorem totalR_valid {l : List Int} {most next : Int} (h0 : (totalR l most next).err = 0) (hl : l.length ≤ 40) :
    (∀ c ∈ (totalR l most next).cs, 2 ≤ c.length ∧ c.length ≤ 3) ∧ (totalR l most next).cs.length ≤ 6400 ∧
    (l.length = 1 → ∀ x ∈ (totalR l most next).outs, x = l.getD 0 0) ∧ (1 < l.length → ∀ x ∈ (totalR l most next).outs, next ≤ x ∧ x < (totalR l most next).after) := by
  by_cases g : next < 1 ∨ 65537 < next ∨ most < 0 ∨ 1099511627776 < most ∨ 4096 < l.length
  · rw [totalR_arg g] at h0; cases h0
  cases ha : apartB next l with
  | false => rw [totalR_lit g ha] at h0; cases h0
  | true =>
    by_cases hz : l.length = 0 ∨ most = 0
    · rw [totalR_zero g ha hz]
      exact ⟨(fun c h => by cases h), by simp, (fun _ c h => by cases h), (fun _ c h => by cases h)⟩
    · by_cases hb : 65537 < next + (vars most.toNat l.length : Int)
      · rw [totalR_bound g ha hz hb] at h0; cases h0
      · rw [totalR_ok g ha hz hb]
        refine ⟨cnt_clen (by omega) l.length l next (Nat.le_refl _) (by omega), ?_, fun h1 x hx => ?_, fun h1 x hx => ?_⟩
        · have := cnt_many most.toNat l.length l next (Nat.le_refl _)
          have h2 : 4 * l.length * l.length ≤ 160 * 40 := Nat.mul_le_mul (by omega) hl
          show (cnt most.toNat l next).2.length ≤ 6400
          omega
        · have hx' : x ∈ (cnt most.toNat l next).1 := hx
          rw [cnt_one (by omega)] at hx'
          match l, h1, hx' with
          | [y], _, hx' => simpa using hx'
        · have hx' : x ∈ (cnt most.toNat l next).1 := hx
          show next ≤ x ∧ x < next + (vars most.toNat l.length : Int)
          rw [cnt_two (by omega)] at hx'
          have := fresh_mem hx'
          rw [vars_two (by omega)]
          omega
end Go.Proofs.Ytohffgggogdgmaa
