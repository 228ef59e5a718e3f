/-
  PLAIN LAW: every assignment of the old variables has exactly one extension to the new ones that satisfies all clauses.
-/
import Derived.Test.YtanbkdfffojpnaaCountLaw
namespace Go.Proofs.Ytanbkdfffojpnaa

theorem sval_congr {s t : Nat → Bool} {x : Int} (h : s x.natAbs = t x.natAbs) : sval s x = sval t x := by unfold sval; rw [h]
theorem cval_congr {s t : Nat → Bool} {c : List Int} (h : ∀ x ∈ c, s x.natAbs = t x.natAbs) : cval s c = cval t c := by
  unfold cval
  rw [Bool.eq_iff_iff, List.any_eq_true, List.any_eq_true]
  exact ⟨fun ⟨x, hx, hv⟩ => ⟨x, hx, by rw [← sval_congr (h x hx)]; exact hv⟩, fun ⟨x, hx, hv⟩ => ⟨x, hx, by rw [sval_congr (h x hx)]; exact hv⟩⟩
theorem countP_congr' {s t : Nat → Bool} {l : List Int} (h : ∀ x ∈ l, s x.natAbs = t x.natAbs) : l.countP (sval s) = l.countP (sval t) :=
  List.countP_congr fun x hx => by rw [sval_congr (h x hx)]

theorem fresh_get (next : Int) (many i : Nat) (h : i < many) : (fresh next many).getD i 0 = next + i := by
  rw [List.getD_eq_getElem?_getD, fresh, List.getElem?_map, List.getElem?_range h]; rfl
theorem sval_nat {s : Nat → Bool} {v : Nat} (h : 1 ≤ v) : sval s (v : Int) = s v := by
  unfold sval
  have : decide (0 < (v : Int)) = true := by simp; omega
  rw [Int.natAbs_natCast, this, beq_true]
/-! ### the clauses hold where the outputs count -/
theorem up_true {s : Nat → Bool} {a : List Int} {p i : Nat} (ha : Unary s a p) (hz : ∀ x ∈ a, x ≠ 0) (hi : p < i) (hl : i ≤ a.length) : cval s (notL (atL a ((i : Int) - 1))) = true := by
  obtain ⟨j, rfl⟩ : ∃ j, i = j + 1 := ⟨i - 1, by omega⟩
  rw [show ((j + 1 : Nat) : Int) - 1 = (j : Int) by omega, atL_get (by omega), notL_one]
  simp only [cval, List.any_cons, List.any_nil, Bool.or_false]
  rw [sval_neg s (getD_ne hz (by omega)), ha j (by omega)]
  have : ¬ j < p := by omega
  simp [this]
theorem down_true {s : Nat → Bool} {a : List Int} {p i : Nat} (ha : Unary s a p) (hi : i < p) (hl : i < a.length) : cval s (atL a i) = true := by
  rw [atL_get hl]
  simp only [cval, List.any_cons, List.any_nil, Bool.or_false]
  rw [ha i hl]
  simpa using hi
theorem pair_true {s : Nat → Bool} {a b o : List Int} {p q : Nat} (ha : Unary s a p) (hb : Unary s b q) (ho : Unary s o (p + q)) (hza : ∀ x ∈ a, x ≠ 0) (hzb : ∀ x ∈ b, x ≠ 0) (hzo : ∀ x ∈ o, x ≠ 0)
    {i k : Nat} (hi : i ≤ a.length) (hk : k ≤ b.length) (hpa : p ≤ a.length ∨ o.length ≤ a.length) (hqb : q ≤ b.length ∨ o.length ≤ b.length) : ∀ c ∈ pairC a b o i k, cval s c = true := by
  intro c hc
  unfold pairC at hc
  rcases List.mem_append.1 hc with hc | hc
  · split at hc
    · rename_i hn
      obtain rfl := List.mem_singleton.1 hc
      unfold upC
      rw [cval_append, cval_append]
      by_cases h1 : p < i
      · rw [up_true ha hza h1 hi]; simp
      · by_cases h2 : q < k
        · rw [up_true hb hzb h2 hk]; simp
        · have e : (i : Int) + (k : Int) - 1 = ((i + k - 1 : Nat) : Int) := by omega
          rw [e, down_true ho (by omega) (by omega)]; simp
    · cases hc
  · split at hc
    · rename_i hn
      obtain rfl := List.mem_singleton.1 hc
      unfold downC
      rw [cval_append, cval_append]
      by_cases h1 : i < p ∧ i < a.length
      · rw [down_true ha h1.1 h1.2]; simp
      · by_cases h2 : k < q ∧ k < b.length
        · rw [down_true hb h2.1 h2.2]; simp
        · have e : (i : Int) + (k : Int) = ((i + k + 1 : Nat) : Int) - 1 := by omega
          rw [e, up_true ho hzo (by omega) (by omega)]; simp
    · cases hc
theorem rowC_elim {a b o : List Int} {i : Nat} {c : List Int} : ∀ {m : Nat}, c ∈ rowC a b o i m → ∃ k, k < m ∧ c ∈ pairC a b o i k
  | 0, h => by cases h
  | m + 1, h => by
    rcases List.mem_append.1 h with h | h
    · obtain ⟨k, hk, hc⟩ := rowC_elim h
      exact ⟨k, by omega, hc⟩
    · exact ⟨m, by omega, h⟩
theorem allC_elim {a b o : List Int} {c : List Int} : ∀ {m : Nat}, c ∈ allC a b o m → ∃ i k, i < m ∧ k ≤ b.length ∧ c ∈ pairC a b o i k
  | 0, h => by cases h
  | m + 1, h => by
    rcases List.mem_append.1 h with h | h
    · obtain ⟨i, k, hi, hk, hc⟩ := allC_elim h
      exact ⟨i, k, by omega, hk, hc⟩
    · obtain ⟨k, hk, hc⟩ := rowC_elim h
      exact ⟨m, k, by omega, by omega, hc⟩

/-! ### the extension -/
/-- The value of a new variable. -/
def sol (most : Nat) (xs : List Int) (next : Nat) (s : Nat → Bool) : Nat → Bool :=
  if xs.length ≤ 1 then s else
    let s2 := sol most (xs.drop (xs.length / 2)) (next + vars most (xs.length / 2)) (sol most (xs.take (xs.length / 2)) next s)
    fun v => if next + vars most (xs.length / 2) + vars most (xs.length - xs.length / 2) ≤ v ∧ v < next + vars most xs.length then decide (v - (next + vars most (xs.length / 2) + vars most (xs.length - xs.length / 2)) < xs.countP (sval s)) else s2 v
termination_by xs.length
decreasing_by all_goals simp; omega
theorem sol_one {most : Nat} {xs : List Int} {next : Nat} {s : Nat → Bool} (h : xs.length ≤ 1) : sol most xs next s = s := by rw [sol, if_pos h]
theorem sol_two {most : Nat} {xs : List Int} {next : Nat} {s : Nat → Bool} (h : ¬ xs.length ≤ 1) (v : Nat) : sol most xs next s v =
    if next + vars most (xs.length / 2) + vars most (xs.length - xs.length / 2) ≤ v ∧ v < next + vars most xs.length then decide (v - (next + vars most (xs.length / 2) + vars most (xs.length - xs.length / 2)) < xs.countP (sval s))
    else sol most (xs.drop (xs.length / 2)) (next + vars most (xs.length / 2)) (sol most (xs.take (xs.length / 2)) next s) v := by
  rw [sol, if_neg h]

theorem sol_out (most : Nat) : ∀ (n : Nat) (xs : List Int) (next : Nat) (s : Nat → Bool) (v : Nat), xs.length ≤ n → (v < next ∨ next + vars most xs.length ≤ v) → sol most xs next s v = s v := by
  intro n
  induction n with
  | zero => intro xs next s v hl _; rw [sol_one (by omega)]
  | succ n ih =>
    intro xs next s v hl hv
    by_cases hc : xs.length ≤ 1
    · rw [sol_one hc]
    · have e1 : (xs.take (xs.length / 2)).length = xs.length / 2 := by simp; omega
      have e2 : (xs.drop (xs.length / 2)).length = xs.length - xs.length / 2 := by simp
      have hvv := vars_two (most := most) hc
      rw [sol_two hc, if_neg (by omega)]
      rw [ih (xs.drop (xs.length / 2)) _ _ v (by omega) (by rw [e2]; omega), ih (xs.take (xs.length / 2)) _ _ v (by omega) (by rw [e1]; omega)]

theorem natAbs_lt {m : Nat} {x : Int} (h : LitBelow m x) : x.natAbs < m := by have := h.2; omega

/-- The old literals count as they did. -/
theorem countP_sol {most : Nat} {xs ys : List Int} {next : Nat} {s : Nat → Bool} (h : ∀ x ∈ ys, x.natAbs < next) : ys.countP (sval (sol most xs next s)) = ys.countP (sval s) :=
  countP_congr' fun x hx => sol_out most xs.length xs next s _ (Nat.le_refl _) (.inl (h x hx))

/-- EXISTENCE: the extension satisfies all clauses, and its outputs count. -/
theorem sol_good {most : Nat} (hm : 1 ≤ most) : ∀ (n : Nat) (xs : List Int) (next : Nat) (s : Nat → Bool), xs.length ≤ n → 1 ≤ xs.length → (∀ x ∈ xs, x ≠ 0 ∧ x.natAbs < next) → 1 ≤ next →
    (∀ c ∈ (cnt most xs next).2, cval (sol most xs next s) c = true) ∧ Unary (sol most xs next s) (cnt most xs next).1 (xs.countP (sval s)) := by
  intro n
  induction n with
  | zero => intro xs next s h1 h2; omega
  | succ n ih =>
    intro xs next s hl h1 hx hn
    by_cases hc : xs.length ≤ 1
    · rw [cnt_one hc, sol_one hc]
      refine ⟨(fun c h => by cases h), ?_⟩
      match xs, h1, hc with
      | [x], _, _ =>
        intro i hi
        have : i = 0 := by simp at hi; omega
        subst this
        simp only [List.getD_cons_zero, List.countP_cons, List.countP_nil]
        cases sval s x <;> simp
      | _ :: _ :: _, _, h => simp at h
    · have e1 : (xs.take (xs.length / 2)).length = xs.length / 2 := by simp; omega
      have e2 : (xs.drop (xs.length / 2)).length = xs.length - xs.length / 2 := by simp
      have hvv := vars_two (most := most) hc
      have x1 : ∀ x ∈ xs.take (xs.length / 2), x ≠ 0 ∧ x.natAbs < next := fun x h => hx x (List.mem_of_mem_take h)
      have x2 : ∀ x ∈ xs.drop (xs.length / 2), x ≠ 0 ∧ x.natAbs < next := fun x h => hx x (List.mem_of_mem_drop h)
      have ia := ih (xs.take (xs.length / 2)) next s (by omega) (by omega) x1 hn
      have ib := ih (xs.drop (xs.length / 2)) (next + vars most (xs.length / 2)) (sol most (xs.take (xs.length / 2)) next s) (by omega) (by omega) (fun x h => ⟨(x2 x h).1, by have := (x2 x h).2; omega⟩) (by omega)
      have hcount : xs.countP (sval s) = (xs.take (xs.length / 2)).countP (sval s) + (xs.drop (xs.length / 2)).countP (sval s) := by rw [← List.countP_append, List.take_append_drop]
      have hcb : (xs.drop (xs.length / 2)).countP (sval (sol most (xs.take (xs.length / 2)) next s)) = (xs.drop (xs.length / 2)).countP (sval s) := countP_sol fun x h => (x2 x h).2
      rw [hcb] at ib
      have la := cnt_among (most := most) (m := ((next + vars most (xs.length / 2) : Nat) : Int)) (xs.take (xs.length / 2)).length (xs.take (xs.length / 2)) next (Nat.le_refl _) (fun x h => ⟨(x1 x h).1, by have := (x1 x h).2; omega⟩) (by omega) (by rw [e1]; omega)
      have lb := cnt_among (most := most) (m := ((next + vars most (xs.length / 2) + vars most (xs.length - xs.length / 2) : Nat) : Int)) (xs.drop (xs.length / 2)).length (xs.drop (xs.length / 2)) ((next + vars most (xs.length / 2) : Nat) : Int) (Nat.le_refl _) (fun x h => ⟨(x2 x h).1, by have := (x2 x h).2; omega⟩) (by omega) (by rw [e2]; omega)
      have ka : (cnt most (xs.take (xs.length / 2)) (next : Int)).1.length = min (xs.length / 2) most := by rw [cnt_length hm _ _ (by omega), e1]
      have kb : (cnt most (xs.drop (xs.length / 2)) ((next + vars most (xs.length / 2) : Nat) : Int)).1.length = min (xs.length - xs.length / 2) most := by rw [cnt_length hm _ _ (by omega), e2]
      have c1 : (xs.take (xs.length / 2)).countP (sval s) ≤ (xs.take (xs.length / 2)).length := List.countP_le_length
      have c2 : (xs.drop (xs.length / 2)).countP (sval s) ≤ (xs.drop (xs.length / 2)).length := List.countP_le_length
      rw [e1] at c1
      rw [e2] at c2
      have hsame : ∀ v, v < next + vars most (xs.length / 2) → sol most xs next s v = sol most (xs.take (xs.length / 2)) next s v := fun v hv => by
        rw [sol_two hc, if_neg (by omega), sol_out most (xs.drop (xs.length / 2)).length _ _ _ _ (Nat.le_refl _) (.inl hv)]
      have hsame2 : ∀ v, v < next + vars most (xs.length / 2) + vars most (xs.length - xs.length / 2) → sol most xs next s v = sol most (xs.drop (xs.length / 2)) (next + vars most (xs.length / 2)) (sol most (xs.take (xs.length / 2)) next s) v := fun v hv => by
        rw [sol_two hc, if_neg (by omega)]
      rw [cnt_two hc]
      have eb : (next : Int) + (vars most (xs.length / 2) : Int) = ((next + vars most (xs.length / 2) : Nat) : Int) := by omega
      rw [eb]
      have eo : ((next + vars most (xs.length / 2) : Nat) : Int) + (vars most (xs.length - xs.length / 2) : Int) = ((next + vars most (xs.length / 2) + vars most (xs.length - xs.length / 2) : Nat) : Int) := by omega
      rw [eo]
      have ha : Unary (sol most xs next s) (cnt most (xs.take (xs.length / 2)) (next : Int)).1 ((xs.take (xs.length / 2)).countP (sval s)) := fun i hi => by
        rw [← ia.2 i hi]
        exact sval_congr (hsame _ (natAbs_lt (la.1 _ (by rw [List.getD_eq_getElem?_getD, List.getElem?_eq_getElem hi]; simp))))
      have hb : Unary (sol most xs next s) (cnt most (xs.drop (xs.length / 2)) ((next + vars most (xs.length / 2) : Nat) : Int)).1 ((xs.drop (xs.length / 2)).countP (sval s)) := fun i hi => by
        rw [← ib.2 i hi]
        exact sval_congr (hsame2 _ (natAbs_lt (lb.1 _ (by rw [List.getD_eq_getElem?_getD, List.getElem?_eq_getElem hi]; simp))))
      have ho : Unary (sol most xs next s) (fresh ((next + vars most (xs.length / 2) + vars most (xs.length - xs.length / 2) : Nat) : Int) (min xs.length most)) (xs.countP (sval s)) := fun i hi => by
        rw [fresh_len] at hi
        have e : (fresh ((next + vars most (xs.length / 2) + vars most (xs.length - xs.length / 2) : Nat) : Int) (min xs.length most)).getD i 0 = ((next + vars most (xs.length / 2) + vars most (xs.length - xs.length / 2) + i : Nat) : Int) := by
          rw [fresh_get _ _ _ hi]; omega
        rw [e, sval_nat (by omega), sol_two hc, if_pos (by omega), Nat.add_sub_cancel_left]
      refine ⟨fun c hcm => ?_, ho⟩
      rcases List.mem_append.1 hcm with hcm | hcm
      · rcases List.mem_append.1 hcm with hcm | hcm
        · rw [cval_congr (t := sol most (xs.take (xs.length / 2)) next s) (fun x hxx => hsame _ (natAbs_lt (la.2 c hcm x hxx)))]
          exact ia.1 c hcm
        · rw [cval_congr (t := sol most (xs.drop (xs.length / 2)) (next + vars most (xs.length / 2)) (sol most (xs.take (xs.length / 2)) next s)) (fun x hxx => hsame2 _ (natAbs_lt (lb.2 c hcm x hxx)))]
          exact ib.1 c hcm
      · obtain ⟨i, k, hi, hk, hp⟩ := allC_elim hcm
        rw [hcount] at ho
        refine pair_true ha hb ho (fun x h => (la.1 x h).1) (fun x h => (lb.1 x h).1) (fresh_nonzero (by omega)) (by omega) hk ?_ ?_ c hp
        · rw [ka, fresh_len]; omega
        · rw [kb, fresh_len]; omega

/-- UNIQUENESS: whoever satisfies all clauses is that extension. -/
theorem sol_unique {most : Nat} (hm : 1 ≤ most) {t : Nat → Bool} : ∀ (n : Nat) (xs : List Int) (next : Nat) (s : Nat → Bool), xs.length ≤ n → 1 ≤ xs.length → (∀ x ∈ xs, x ≠ 0 ∧ x.natAbs < next) → 1 ≤ next → (∀ v, v < next → t v = s v) →
    (∀ c ∈ (cnt most xs next).2, cval t c = true) → ∀ v, v < next + vars most xs.length → t v = sol most xs next s v := by
  intro n
  induction n with
  | zero => intro xs next s h1 h2; omega
  | succ n ih =>
    intro xs next s hl h1 hx hn hts hall v hv
    by_cases hc : xs.length ≤ 1
    · rw [sol_one hc]
      rw [vars_one hc] at hv
      exact hts v (by omega)
    · have e1 : (xs.take (xs.length / 2)).length = xs.length / 2 := by simp; omega
      have e2 : (xs.drop (xs.length / 2)).length = xs.length - xs.length / 2 := by simp
      have hvv := vars_two (most := most) hc
      have x1 : ∀ x ∈ xs.take (xs.length / 2), x ≠ 0 ∧ x.natAbs < next := fun x h => hx x (List.mem_of_mem_take h)
      have x2 : ∀ x ∈ xs.drop (xs.length / 2), x ≠ 0 ∧ x.natAbs < next := fun x h => hx x (List.mem_of_mem_drop h)
      have hun := cnt_unary (s := t) hm xs.length xs next (Nat.le_refl _) h1 (fun x h => (hx x h).1) (by omega) hall
      rw [cnt_two hc] at hall
      have eb : (next : Int) + (vars most (xs.length / 2) : Int) = ((next + vars most (xs.length / 2) : Nat) : Int) := by omega
      rw [eb] at hall
      have ia := ih (xs.take (xs.length / 2)) next s (by omega) (by omega) x1 hn hts (fun c h => hall c (List.mem_append_left _ (List.mem_append_left _ h)))
      rw [e1] at ia
      have ib := ih (xs.drop (xs.length / 2)) (next + vars most (xs.length / 2)) (sol most (xs.take (xs.length / 2)) next s) (by omega) (by omega) (fun x h => ⟨(x2 x h).1, by have := (x2 x h).2; omega⟩) (by omega) ia
        (fun c h => hall c (List.mem_append_left _ (List.mem_append_right _ h)))
      rw [e2] at ib
      rw [sol_two hc]
      by_cases h2 : next + vars most (xs.length / 2) + vars most (xs.length - xs.length / 2) ≤ v
      · rw [if_pos ⟨h2, hv⟩]
        rw [cnt_two hc] at hun
        obtain ⟨i, rfl⟩ : ∃ i, v = next + vars most (xs.length / 2) + vars most (xs.length - xs.length / 2) + i := ⟨v - (next + vars most (xs.length / 2) + vars most (xs.length - xs.length / 2)), by omega⟩
        have hi : i < min xs.length most := by omega
        have hu := hun i (by rw [fresh_len]; exact hi)
        have e : (fresh ((next : Int) + (vars most (xs.length / 2) : Int) + (vars most (xs.length - xs.length / 2) : Int)) (min xs.length most)).getD i 0 = ((next + vars most (xs.length / 2) + vars most (xs.length - xs.length / 2) + i : Nat) : Int) := by
          rw [fresh_get _ _ _ hi]; omega
        rw [e] at hu
        rw [sval_nat (by omega)] at hu
        rw [hu, Nat.add_sub_cancel_left]
        have : xs.countP (sval t) = xs.countP (sval s) := countP_congr' fun x h => hts _ (hx x h).2
        rw [this]
      · rw [if_neg (by omega)]
        exact ib v (by omega)
end Go.Proofs.Ytanbkdfffojpnaa
