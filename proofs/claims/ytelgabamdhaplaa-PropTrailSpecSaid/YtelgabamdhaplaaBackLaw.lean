/-
  The plain law of Back: the longest prefix whose levels do not exceed a level.
-/
import Derived.Test.YtelgabamdhaplaaBack
import Derived.Test.YtelgabamdhaplaaPropLaw
namespace Go.Proofs.Ytelgabamdhaplaa
open Go.RowKit

theorem levG_ge : ∀ {m : Int} {ts : List TStep} {x : Int}, x ∈ levG m ts → m ≤ x
  | m, p :: r, x, h => by
    simp only [levG, List.mem_cons] at h
    rcases h with h | h
    · subst h; split <;> omega
    · have := levG_ge h
      split at this <;> omega
theorem backG_nil {level : Int} : ∀ {m : Int} {ts : List TStep}, level < m → backG level ts (levG m ts) = []
  | _, [], _ => rfl
  | m, p :: r, h => by
    simp only [levG, backG]
    have h2 : level < (if p.2 = -1 then m + 1 else m) := by split <;> omega
    rw [if_neg (by omega)]
    exact backG_nil h2
theorem backG_take {level : Int} : ∀ {n : Int} {ts : List TStep}, backG level ts (levG n ts) = ts.take (backG level ts (levG n ts)).length ∧
    ∀ i, i < ts.length → (i < (backG level ts (levG n ts)).length ↔ (levG n ts).getD i 0 ≤ level)
  | _, [] => ⟨rfl, fun i h => by simp at h⟩
  | n, p :: r => by
    simp only [levG, backG]
    obtain ⟨m, hm⟩ : ∃ m, m = (if p.2 = -1 then n + 1 else n) := ⟨_, rfl⟩
    rw [← hm]
    by_cases h : m ≤ level
    · rw [if_pos h]
      obtain ⟨h1, h2⟩ := backG_take (level := level) (n := m) (ts := r)
      refine ⟨by rw [List.length_cons, List.take_succ_cons, ← h1], fun i hi => ?_⟩
      cases i with
      | zero => simp; exact h
      | succ i =>
        rw [List.getD_cons_succ, List.length_cons, ← h2 i (by simpa using hi)]
        omega
    · rw [if_neg h, backG_nil (by omega)]
      refine ⟨rfl, fun i hi => ⟨fun h' => by simp at h', fun h' => ?_⟩⟩
      exfalso
      cases i with
      | zero => simp at h'; omega
      | succ i =>
        rw [List.getD_cons_succ] at h'
        have hl : i < (levG m r).length := by rw [levG_len]; simpa using hi
        have : (levG m r).getD i 0 ∈ levG m r := by rw [List.getD_eq_getElem?_getD, List.getElem?_eq_getElem hl]; simp
        have := levG_ge this
        omega
theorem decs_mono {ts : List TStep} {i j : Nat} (h : i ≤ j) : decs (ts.take i) ≤ decs (ts.take j) := by
  unfold decs
  have : ts.take i = (ts.take j).take i := by rw [List.take_take, Nat.min_eq_left h]
  rw [this]
  exact (List.take_sublist _ _).countP_le
theorem levR_get {ts : List TStep} {k : Nat} (h : k < ts.length) : (levR ts).getD k 0 = decs (ts.take (k + 1)) := by
  have := levG_get (n := 0) h
  unfold levR
  rw [this, Int.zero_add]

theorem back_take (ts : List TStep) (level : Int) : backR ts level = ts.take (backR ts level).length := (backG_take (level := level) (n := 0) (ts := ts)).1
theorem back_at (ts : List TStep) (level : Int) {i : Nat} (h : i < ts.length) : i < (backR ts level).length ↔ (levR ts).getD i 0 ≤ level := (backG_take (level := level) (n := 0) (ts := ts)).2 i h
theorem back_le (ts : List TStep) (level : Int) : (backR ts level).length ≤ ts.length := backG_len _ _
theorem back_get (ts : List TStep) (level : Int) {i : Nat} (h : i < (backR ts level).length) : (backR ts level).getD i (0, 0) = ts.getD i (0, 0) := by
  rw [back_take ts level, List.getD_eq_getElem?_getD, List.getD_eq_getElem?_getD, List.getElem?_take, if_pos h]
theorem back_check {N : Int} {cs : List (List Int)} {ts : List TStep} (level : Int) (h : checkS N cs ts = 0) : checkS N cs (backR ts level) = 0 := by
  unfold checkS at h ⊢
  by_cases h1 : checkR N cs ≠ 0
  · rw [if_pos h1] at h; exact absurd h h1
  rw [if_neg h1] at h ⊢
  by_cases h2 : trailG N cs [] ts = true
  · rw [if_pos]
    rw [back_take ts level]
    have := List.take_append_drop (backR ts level).length ts
    rw [← this, trailG_append] at h2
    simp only [Bool.and_eq_true] at h2
    exact h2.1
  · rw [if_neg h2] at h; omega
theorem back_back (ts : List TStep) (level : Int) : backR (backR ts level) level = backR ts level := by
  have hle := back_le (backR ts level) level
  have hle2 := back_le ts level
  have : (backR ts level).length ≤ (backR (backR ts level) level).length := by
    rcases Nat.lt_or_ge (backR (backR ts level) level).length (backR ts level).length with h | h
    · exfalso
      have h1 := (back_at (backR ts level) level h).2
      have h2 := (back_at ts level (i := (backR (backR ts level) level).length) (by omega)).1 h
      rw [levR_get (by omega)] at h2
      rw [levR_get h] at h1
      have e : (backR ts level).take ((backR (backR ts level) level).length + 1) = ts.take ((backR (backR ts level) level).length + 1) := by
        have := back_take ts level
        generalize (backR (backR ts level) level).length = q at *
        rw [this, List.take_take, Nat.min_eq_left (by omega)]
      rw [e] at h1
      have := h1 h2
      omega
    · exact h
  rw [back_take (backR ts level) level]
  exact List.take_of_length_le this
theorem back_last {ts : List TStep} (h : 0 < ts.length) : (backR ts ((levR ts).getD (ts.length - 1) 0)).length = ts.length := by
  have h1 := back_le ts ((levR ts).getD (ts.length - 1) 0)
  have h2 := (back_at ts ((levR ts).getD (ts.length - 1) 0) (i := ts.length - 1) (by omega)).2 (Int.le_refl _)
  omega
theorem lev_next {ts : List TStep} {i : Nat} (h : i < ts.length) (h0 : 0 < i) : (levR ts).getD i 0 = (levR ts).getD (i - 1) 0 ∨ (levR ts).getD i 0 = (levR ts).getD (i - 1) 0 + 1 := by
  rw [levR_get h, levR_get (by omega), show i - 1 + 1 = i by omega, decs_snoc h]
  split
  · right; omega
  · left; omega
theorem lev_small {ts : List TStep} {i : Nat} (h : i < ts.length) : 0 ≤ (levR ts).getD i 0 ∧ (levR ts).getD i 0 ≤ ts.length := by
  rw [levR_get h]
  have := decs_le (ts.take (i + 1))
  rw [List.length_take] at this
  omega
end Go.Proofs.Ytelgabamdhaplaa
