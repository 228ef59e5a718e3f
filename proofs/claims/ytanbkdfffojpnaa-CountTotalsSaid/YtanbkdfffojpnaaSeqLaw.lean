/-
  PLAIN LAW: the counter clauses hold under the actual counts, and only registers that count can be true.
-/
import Derived.Test.YtanbkdfffojpnaaSpec16
import Derived.Test.YtanbkdfffojpnaaCountLaw
namespace Go.Proofs.Ytanbkdfffojpnaa

/-- How many of the first i literals are true. -/
def cntS (s : Nat → Bool) (l : List Int) (i : Nat) : Nat := (l.take i).countP (sval s)
theorem cntS_zero (s : Nat → Bool) (l : List Int) : cntS s l 0 = 0 := by simp [cntS]
theorem cntS_succ {s : Nat → Bool} {l : List Int} {i : Nat} (h : i < l.length) : cntS s l (i + 1) = cntS s l i + if sval s (l.getD i 0) = true then 1 else 0 := by
  unfold cntS
  rw [List.take_succ_eq_append_getElem h, List.countP_append, List.getD_eq_getElem?_getD, List.getElem?_eq_getElem h]
  simp [List.countP_cons]
theorem cntS_le (s : Nat → Bool) (l : List Int) (i : Nat) : cntS s l i ≤ i := by
  unfold cntS
  refine Nat.le_trans List.countP_le_length ?_
  simp; omega
theorem cntS_all (s : Nat → Bool) (l : List Int) : cntS s l l.length = l.countP (sval s) := by simp [cntS]

theorem cval_nz (s : Nat → Bool) (c : List Int) : cval s (nz c) = c.any (fun x => !(x == 0) && sval s x) := by
  unfold cval nz
  rw [List.any_filter]

/-- Register j of row i. -/
def regV (next : Int) (k i j : Nat) : Nat := (beginAt next k i + j - 1).toNat
/-- Is register j of the row ahead of row i there, and true? -/
def pv (s : Nat → Bool) (next : Int) (k : Nat) : Nat → Nat → Bool
  | 0, _ => false
  | i + 1, j => decide (1 ≤ j ∧ j ≤ manyAt k i) && s (regV next k i j)

theorem begin_pos {next : Int} (h : 1 ≤ next) (k i : Nat) : 1 ≤ beginAt next k i := by
  have := beginAt_mono next k (Nat.zero_le i)
  have e : beginAt next k 0 = next := rfl
  omega
theorem reg_val {s : Nat → Bool} {next : Int} (h : 1 ≤ next) (k i j : Nat) : (!(regR (prevB next k i) (prevM k i) j == 0) && sval s (regR (prevB next k i) (prevM k i) j)) = pv s next k i j := by
  cases i with
  | zero =>
    have e : regR (prevB next k 0) (prevM k 0) j = 0 := by
      unfold regR prevB prevM
      by_cases hj : (j : Int) < 1
      · rw [if_pos (.inl hj)]
      · rw [if_pos (.inr (by simp; omega))]
    rw [e]; rfl
  | succ i =>
    have hb := begin_pos h k i
    show (!(regR (beginAt next k i) (manyAt k i) j == 0) && sval s (regR (beginAt next k i) (manyAt k i) j)) = (decide (1 ≤ j ∧ j ≤ manyAt k i) && s (regV next k i j))
    by_cases hj : 1 ≤ j ∧ j ≤ manyAt k i
    · have e : regR (beginAt next k i) (manyAt k i) j = beginAt next k i + j - 1 := by unfold regR; rw [if_neg (by omega)]
      rw [e, decide_eq_true hj, Bool.true_and]
      have hne : (beginAt next k i + (j : Int) - 1 == 0) = false := by simp; omega
      rw [hne]
      unfold sval regV
      have h1 : decide (0 < beginAt next k i + (j : Int) - 1) = true := by simp; omega
      rw [h1]
      have h2 : (beginAt next k i + (j : Int) - 1).natAbs = (beginAt next k i + (j : Int) - 1).toNat := by omega
      rw [h2]
      cases s (beginAt next k i + (j : Int) - 1).toNat <;> rfl
    · have e : regR (beginAt next k i) (manyAt k i) j = 0 := by unfold regR; rw [if_pos (by omega)]
      rw [e, decide_eq_false hj]
      rfl
theorem neg_val {s : Nat → Bool} {next : Int} (h : 1 ≤ next) (k i j : Nat) (hj : 1 ≤ j) : (!(-(beginAt next k i + j - 1) == 0) && sval s (-(beginAt next k i + j - 1))) = !s (regV next k i j) := by
  have hb := begin_pos h k i
  have hne : (-(beginAt next k i + (j : Int) - 1) == 0) = false := by simp; omega
  rw [hne, sval_neg s (by omega)]
  unfold sval regV
  have h1 : decide (0 < beginAt next k i + (j : Int) - 1) = true := by simp; omega
  rw [h1]
  have h2 : (beginAt next k i + (j : Int) - 1).natAbs = (beginAt next k i + (j : Int) - 1).toNat := by omega
  rw [h2]
  cases s (beginAt next k i + (j : Int) - 1).toNat <;> rfl

/-- What the two clauses of a register say. -/
theorem clJ_val {s : Nat → Bool} {next : Int} (h : 1 ≤ next) (k i j : Nat) (hj : 1 ≤ j) {x : Int} (hx : x ≠ 0) :
    (∀ c ∈ clJ (beginAt next k i) (prevB next k i) (prevM k i) x j, cval s c = true) ↔
      ((!s (regV next k i j) || pv s next k i j || sval s x) = true ∧ (1 < j → (!s (regV next k i j) || pv s next k i j || pv s next k i (j - 1)) = true)) := by
  have e1 : cval s (nz [-(beginAt next k i + j - 1), regR (prevB next k i) (prevM k i) j, x]) = (!s (regV next k i j) || pv s next k i j || sval s x) := by
    rw [cval_nz]
    simp only [List.any_cons, List.any_nil, Bool.or_false]
    rw [neg_val h k i j hj, reg_val h k i j, Bool.or_assoc]
    have : (!(x == 0)) = true := by simpa using hx
    rw [this, Bool.true_and]
  have e2 : 1 < j → cval s (nz [-(beginAt next k i + j - 1), regR (prevB next k i) (prevM k i) j, regR (prevB next k i) (prevM k i) ((j : Int) - 1)]) = (!s (regV next k i j) || pv s next k i j || pv s next k i (j - 1)) := fun hj1 => by
    rw [cval_nz]
    simp only [List.any_cons, List.any_nil, Bool.or_false]
    rw [show (j : Int) - 1 = ((j - 1 : Nat) : Int) by omega, neg_val h k i j hj, reg_val h k i j, reg_val h k i (j - 1), Bool.or_assoc]
  unfold clJ
  by_cases hj1 : 1 < j
  · rw [if_pos hj1]
    constructor
    · intro hc
      refine ⟨?_, fun _ => ?_⟩
      · rw [← e1]; exact hc _ (by simp)
      · rw [← e2 hj1]; exact hc _ (by simp)
    · rintro ⟨h1, h2⟩ c hc
      simp only [List.mem_append, List.mem_singleton] at hc
      rcases hc with rfl | rfl
      · rw [e1]; exact h1
      · rw [e2 hj1]; exact h2 hj1
  · rw [if_neg hj1]
    constructor
    · intro hc
      exact ⟨by rw [← e1]; exact hc _ (by simp), fun q => absurd q hj1⟩
    · rintro ⟨h1, _⟩ c hc
      simp only [List.append_nil, List.mem_singleton] at hc
      subst hc
      rw [e1]; exact h1

theorem rowL_all {s : Nat → Bool} {b pb pm x : Int} : ∀ {m : Nat}, (∀ c ∈ rowL b pb pm x m, cval s c = true) ↔ ∀ j, 1 ≤ j → j ≤ m → ∀ c ∈ clJ b pb pm x j, cval s c = true
  | 0 => by
    constructor
    · intro _ j h1 h2; omega
    · intro _ c hc; cases hc
  | m + 1 => by
    have ih := rowL_all (s := s) (b := b) (pb := pb) (pm := pm) (x := x) (m := m)
    constructor
    · intro h j h1 h2
      rcases Nat.lt_or_ge j (m + 1) with h3 | h3
      · exact ih.1 (fun c hc => h c (by rw [rowL]; exact List.mem_append_left _ hc)) j h1 (by omega)
      · obtain rfl : j = m + 1 := by omega
        exact fun c hc => h c (by rw [rowL]; exact List.mem_append_right _ hc)
    · intro h c hc
      rw [rowL] at hc
      rcases List.mem_append.1 hc with hc | hc
      · exact ih.2 (fun j h1 h2 => h j h1 (by omega)) c hc
      · exact h (m + 1) (by omega) (by omega) c hc
theorem allL_all {s : Nat → Bool} {l : List Int} {next : Int} {k : Nat} : ∀ {n : Nat}, (∀ c ∈ allL l next k n, cval s c = true) ↔ ∀ i, i < n → ∀ j, 1 ≤ j → j ≤ manyAt k i → ∀ c ∈ clJ (beginAt next k i) (prevB next k i) (prevM k i) (l.getD i 0) j, cval s c = true
  | 0 => by
    constructor
    · intro _ i h; omega
    · intro _ c hc; cases hc
  | n + 1 => by
    have ih := allL_all (s := s) (l := l) (next := next) (k := k) (n := n)
    constructor
    · intro h i hi
      rcases Nat.lt_or_ge i n with h3 | h3
      · exact ih.1 (fun c hc => h c (by rw [allL]; exact List.mem_append_left _ hc)) i h3
      · obtain rfl : i = n := by omega
        exact rowL_all.1 (fun c hc => h c (by rw [allL]; exact List.mem_append_right _ hc))
    · intro h c hc
      rw [allL] at hc
      rcases List.mem_append.1 hc with hc | hc
      · exact ih.2 (fun i hi => h i (by omega)) c hc
      · exact rowL_all.2 (h n (by omega)) c hc

/-- ONLY IF: where all counter clauses hold, a true register counts. -/
theorem seq_sound {s : Nat → Bool} {l : List Int} {next : Int} {k : Nat} (hn : 1 ≤ next) (hz : ∀ x ∈ l, x ≠ 0) (h : ∀ c ∈ allL l next k l.length, cval s c = true) :
    ∀ i, i < l.length → ∀ j, 1 ≤ j → j ≤ manyAt k i → s (regV next k i j) = true → j ≤ cntS s l (i + 1) := by
  have hh := allL_all.1 h
  intro i
  induction i with
  | zero =>
    intro hi j h1 h2 ht
    have := (clJ_val hn k 0 j h1 (getD_ne hz hi)).1 (hh 0 hi j h1 h2)
    rw [ht] at this
    have hm : manyAt k 0 ≤ 1 := by unfold manyAt; omega
    have hx : sval s (l.getD 0 0) = true := by have := this.1; simpa [pv] using this
    rw [cntS_succ hi, if_pos hx]; omega
  | succ i ih =>
    intro hi j h1 h2 ht
    have hc := (clJ_val hn k (i + 1) j h1 (getD_ne hz hi)).1 (hh (i + 1) hi j h1 h2)
    rw [ht] at hc
    have ihi := ih (by omega)
    rw [cntS_succ hi]
    by_cases hp : pv s next k (i + 1) j = true
    · have : 1 ≤ j ∧ j ≤ manyAt k i ∧ s (regV next k i j) = true := by
        simp only [pv, Bool.and_eq_true, decide_eq_true_eq] at hp
        exact ⟨hp.1.1, hp.1.2, hp.2⟩
      have := ihi j this.1 this.2.1 this.2.2
      omega
    · have hp' : pv s next k (i + 1) j = false := by simpa using hp
      rw [hp'] at hc
      have hx : sval s (l.getD (i + 1) 0) = true := by have := hc.1; simpa using this
      rw [if_pos hx]
      by_cases hj1 : 1 < j
      · have hq := hc.2 hj1
        have hq' : pv s next k (i + 1) (j - 1) = true := by simpa using hq
        simp only [pv, Bool.and_eq_true, decide_eq_true_eq] at hq'
        have := ihi (j - 1) hq'.1.1 hq'.1.2 hq'.2
        omega
      · omega

/-- The registers hold the counts. -/
def RegOK (s : Nat → Bool) (l : List Int) (next : Int) (k : Nat) : Prop := ∀ i, i < l.length → ∀ j, 1 ≤ j → j ≤ manyAt k i → s (regV next k i j) = decide (j ≤ cntS s l (i + 1))

/-- IF: where the registers hold the counts, all counter clauses hold. -/
theorem seq_complete {s : Nat → Bool} {l : List Int} {next : Int} {k : Nat} (hn : 1 ≤ next) (hz : ∀ x ∈ l, x ≠ 0) (hr : RegOK s l next k) : ∀ c ∈ allL l next k l.length, cval s c = true := by
  refine allL_all.2 fun i hi j h1 h2 => (clJ_val hn k i j h1 (getD_ne hz hi)).2 ?_
  have e := hr i hi j h1 h2
  have hpv : ∀ j', 1 ≤ j' → j' ≤ cntS s l i → j' ≤ k → pv s next k i j' = true := by
    intro j' q1 q2 q3
    cases i with
    | zero => rw [cntS_zero] at q2; omega
    | succ i =>
      have hle := cntS_le s l (i + 1)
      have hm : j' ≤ manyAt k i := by unfold manyAt; omega
      simp only [pv, Bool.and_eq_true, decide_eq_true_eq]
      exact ⟨⟨q1, hm⟩, by rw [hr i (by omega) j' q1 hm]; simpa using q2⟩
  have hjk : j ≤ k := by have : manyAt k i ≤ k := by unfold manyAt; omega
                         omega
  by_cases hc : j ≤ cntS s l (i + 1)
  · have hs := cntS_succ (s := s) hi
    refine ⟨?_, fun hj1 => ?_⟩
    · by_cases hx : sval s (l.getD i 0) = true
      · rw [hx]; simp
      · rw [if_neg hx] at hs
        rw [hpv j h1 (by omega) hjk]; simp
    · rw [hpv (j - 1) (by omega) (by split at hs <;> omega) (by omega)]; simp
  · rw [e, decide_eq_false hc]
    simp

theorem last_val {s : Nat → Bool} {l : List Int} {next : Int} {k : Nat} (hn : 1 ≤ next) (hk1 : 1 ≤ k) (hk2 : k ≤ l.length) : cval s (lastC next k l.length) = s (regV next k (l.length - 1) k) := by
  unfold lastC
  rw [cval_nz]
  simp only [List.any_cons, List.any_nil, Bool.or_false]
  rw [reg_val hn]
  obtain ⟨m, hm⟩ : ∃ m, l.length = m + 1 := ⟨l.length - 1, by omega⟩
  rw [hm]
  have : k ≤ manyAt k m := by unfold manyAt; omega
  simp only [pv, Nat.add_sub_cancel]
  rw [decide_eq_true ⟨hk1, this⟩, Bool.true_and]
/-- All clauses together. -/
theorem least_sound {s : Nat → Bool} {l : List Int} {next : Int} {k : Nat} (hn : 1 ≤ next) (hz : ∀ x ∈ l, x ≠ 0) (hk1 : 1 ≤ k) (hk2 : k ≤ l.length) (h : ∀ c ∈ leastC l next k, cval s c = true) : k ≤ l.countP (sval s) := by
  have h1 := seq_sound hn hz (fun c hc => h c (by unfold leastC; exact List.mem_append_left _ hc))
  have h2 := h (lastC next k l.length) (by unfold leastC; exact List.mem_append_right _ (by simp))
  rw [last_val hn hk1 hk2] at h2
  have h3 := h1 (l.length - 1) (by omega) k hk1 (by unfold manyAt; omega) h2
  rw [show l.length - 1 + 1 = l.length by omega, cntS_all] at h3
  exact h3
theorem least_complete {s : Nat → Bool} {l : List Int} {next : Int} {k : Nat} (hn : 1 ≤ next) (hz : ∀ x ∈ l, x ≠ 0) (hk1 : 1 ≤ k) (hk2 : k ≤ l.length) (hr : RegOK s l next k) :
    (∀ c ∈ allL l next k l.length, cval s c = true) ∧ cval s (lastC next k l.length) = decide (k ≤ l.countP (sval s)) := by
  refine ⟨seq_complete hn hz hr, ?_⟩
  rw [last_val hn hk1 hk2, hr (l.length - 1) (by omega) k hk1 (by unfold manyAt; omega), show l.length - 1 + 1 = l.length by omega, cntS_all]
end Go.Proofs.Ytanbkdfffojpnaa
