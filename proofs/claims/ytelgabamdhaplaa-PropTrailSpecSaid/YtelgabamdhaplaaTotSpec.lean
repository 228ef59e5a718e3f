/-
  What the totalizer computes: plain functions, no program in sight.
-/
namespace Go.Proofs.Ytelgabamdhaplaa

/-- The element of xs at k, as a list of one, or none. -/
def atL (xs : List Int) (k : Int) : List Int := if 0 ≤ k ∧ k < xs.length then [xs.getD k.toNat 0] else []
/-- The negation of the first element, as a list of one, or none. -/
def notL (xs : List Int) : List Int := (xs.take 1).map (fun x => -x)
/-- Small numbers: no negation wraps. -/
def Small (xs : List Int) : Prop := ∀ x ∈ xs, -70000 ≤ x ∧ x ≤ 70000

theorem atL_mem {xs : List Int} {k : Int} {x : Int} (h : x ∈ atL xs k) : x ∈ xs := by
  unfold atL at h
  split at h
  · rename_i hk
    simp only [List.mem_singleton] at h
    subst h
    rw [List.getD_eq_getElem?_getD, List.getElem?_eq_getElem (by omega)]
    simp
  · cases h
theorem Small.atL {xs : List Int} (h : Small xs) (k : Int) : Small (atL xs k) := fun x hx => h x (atL_mem hx)
theorem Small.notL {xs : List Int} (h : Small xs) : Small (notL xs) := by
  intro x hx
  simp only [Proofs.Ytelgabamdhaplaa.notL, List.mem_map] at hx
  obtain ⟨y, hy, rfl⟩ := hx
  have := h y (List.mem_of_mem_take hy)
  omega
theorem atL_len (xs : List Int) (k : Int) : (atL xs k).length ≤ 1 := by unfold atL; split <;> simp
theorem notL_len (xs : List Int) : (notL xs).length ≤ 1 := by simp [notL]; omega

/-- The literals have pairwise distinct variables from 1 to next - 1 ('seen': variables that are taken). -/
def apartG (next : Int) (seen : List Int) : List Int → Bool
  | [] => true
  | x :: r => if (x.natAbs : Int) = 0 ∨ next ≤ x.natAbs ∨ (x.natAbs : Int) ∈ seen then false else apartG next ((x.natAbs : Int) :: seen) r
def apartB (next : Int) (l : List Int) : Bool := apartG next [] l
theorem apartG_yes {next x : Int} {seen r : List Int} (h0 : ¬ (x.natAbs : Int) = 0) (h1 : (x.natAbs : Int) < next) (h2 : (x.natAbs : Int) ∉ seen) : apartG next seen (x :: r) = apartG next ((x.natAbs : Int) :: seen) r := by
  rw [apartG, if_neg (by rintro (h | h | h); exact h0 h; omega; exact h2 h)]
theorem apartG_no {next x : Int} {seen r : List Int} (h : (x.natAbs : Int) = 0 ∨ next ≤ x.natAbs ∨ (x.natAbs : Int) ∈ seen) : apartG next seen (x :: r) = false := by
  rw [apartG, if_pos h]

/-- The clauses for i true literals on the left and k on the right. -/
def upC (a b outs : List Int) (i k : Nat) : List Int := notL (atL a ((i : Int) - 1)) ++ notL (atL b ((k : Int) - 1)) ++ atL outs ((i : Int) + k - 1)
def downC (a b outs : List Int) (i k : Nat) : List Int := atL a i ++ atL b k ++ notL (atL outs ((i : Int) + k))
def pairC (a b outs : List Int) (i k : Nat) : List (List Int) :=
  (if 0 < i + k ∧ i + k ≤ outs.length then [upC a b outs i k] else []) ++ (if i + k < outs.length then [downC a b outs i k] else [])
def rowC (a b outs : List Int) (i : Nat) : Nat → List (List Int)
  | 0 => []
  | k + 1 => rowC a b outs i k ++ pairC a b outs i k
def allC (a b outs : List Int) : Nat → List (List Int)
  | 0 => []
  | i + 1 => allC a b outs i ++ rowC a b outs i (b.length + 1)

/-- The number of new variables. -/
def vars (most n : Nat) : Nat := if n ≤ 1 then 0 else vars most (n / 2) + vars most (n - n / 2) + min n most
termination_by n
decreasing_by all_goals omega

/-- The new variables in order. -/
def fresh (next : Int) (many : Nat) : List Int := (List.range many).map fun (i : Nat) => next + i

/-- The outputs and the clauses. -/
def cnt (most : Nat) (xs : List Int) (next : Int) : List Int × List (List Int) :=
  if xs.length ≤ 1 then (xs, []) else
    let a := cnt most (xs.take (xs.length / 2)) next
    let b := cnt most (xs.drop (xs.length / 2)) (next + vars most (xs.length / 2))
    let outs := fresh (next + vars most (xs.length / 2) + vars most (xs.length - xs.length / 2)) (min xs.length most)
    (outs, a.2 ++ b.2 ++ allC a.1 b.1 outs (a.1.length + 1))
termination_by xs.length
decreasing_by all_goals simp; omega

theorem vars_one {most n : Nat} (h : n ≤ 1) : vars most n = 0 := by rw [vars, if_pos h]
theorem vars_two {most n : Nat} (h : ¬ n ≤ 1) : vars most n = vars most (n / 2) + vars most (n - n / 2) + min n most := by rw [vars, if_neg h]
theorem cnt_one {most : Nat} {xs : List Int} {next : Int} (h : xs.length ≤ 1) : cnt most xs next = (xs, []) := by rw [cnt, if_pos h]
theorem cnt_two {most : Nat} {xs : List Int} {next : Int} (h : ¬ xs.length ≤ 1) : cnt most xs next =
    (fresh (next + vars most (xs.length / 2) + vars most (xs.length - xs.length / 2)) (min xs.length most),
      (cnt most (xs.take (xs.length / 2)) next).2 ++ (cnt most (xs.drop (xs.length / 2)) (next + vars most (xs.length / 2))).2 ++
      allC (cnt most (xs.take (xs.length / 2)) next).1 (cnt most (xs.drop (xs.length / 2)) (next + vars most (xs.length / 2))).1
        (fresh (next + vars most (xs.length / 2) + vars most (xs.length - xs.length / 2)) (min xs.length most)) ((cnt most (xs.take (xs.length / 2)) next).1.length + 1)) := by
  rw [cnt, if_neg h]

theorem fresh_len (next : Int) (many : Nat) : (fresh next many).length = many := by simp [fresh]
theorem fresh_succ (next : Int) (many : Nat) : fresh next (many + 1) = fresh next many ++ [next + many] := by simp [fresh, List.range_succ]
theorem fresh_mem {next x : Int} {many : Nat} (h : x ∈ fresh next many) : next ≤ x ∧ x < next + many := by
  simp only [fresh, List.mem_map, List.mem_range] at h
  obtain ⟨i, hi, rfl⟩ := h
  omega

theorem cnt_len (most : Nat) (xs : List Int) (next : Int) : (cnt most xs next).1.length ≤ xs.length := by
  by_cases h : xs.length ≤ 1
  · rw [cnt_one h]; exact Nat.le_refl _
  · rw [cnt_two h, fresh_len]; omega

theorem cnt_mem {most : Nat} {xs : List Int} {next x : Int} (h : x ∈ (cnt most xs next).1) : x ∈ xs ∨ (next ≤ x ∧ x < next + vars most xs.length) := by
  by_cases h1 : xs.length ≤ 1
  · rw [cnt_one h1] at h; exact .inl h
  · rw [cnt_two h1] at h
    have := fresh_mem h
    rw [vars_two h1]
    right; omega
theorem cnt_small {most : Nat} {xs : List Int} {next : Int} (hs : Small xs) (h1 : 1 ≤ next) (h2 : next + vars most xs.length ≤ 65537) : Small (cnt most xs next).1 := by
  intro x hx
  rcases cnt_mem hx with h | h
  · exact hs x h
  · omega
theorem fresh_small {next : Int} {many : Nat} (h1 : 1 ≤ next) (h2 : next + many ≤ 65537) : Small (fresh next many) := by
  intro x hx
  have := fresh_mem hx
  omega
theorem pairC_both {a b outs : List Int} {i k many : Nat} (h : outs.length = many) (h0 : 0 < i + k) (h2 : i + k < many) : pairC a b outs i k = [upC a b outs i k] ++ [downC a b outs i k] := by
  unfold pairC; rw [if_pos (by omega), if_pos (by omega)]
theorem pairC_up {a b outs : List Int} {i k many : Nat} (h : outs.length = many) (h0 : 0 < i + k) (h1 : i + k ≤ many) (h2 : ¬ i + k < many) : pairC a b outs i k = [upC a b outs i k] := by
  unfold pairC; rw [if_pos (by omega), if_neg (by omega)]; rfl
theorem pairC_down {a b outs : List Int} {i k many : Nat} (h : outs.length = many) (h0 : ¬ 0 < i + k) (h2 : i + k < many) : pairC a b outs i k = [downC a b outs i k] := by
  unfold pairC; rw [if_neg (by omega), if_pos (by omega)]; rfl
theorem pairC_none {a b outs : List Int} {i k many : Nat} (h : outs.length = many) (h1 : ¬ i + k ≤ many) : pairC a b outs i k = [] := by
  unfold pairC; rw [if_neg (by omega), if_neg (by omega)]; rfl
theorem pairC_len (a b outs : List Int) (i k : Nat) : (pairC a b outs i k).length ≤ 2 := by unfold pairC; split <;> split <;> simp
theorem rowC_len (a b outs : List Int) (i : Nat) : ∀ k, (rowC a b outs i k).length ≤ 2 * k
  | 0 => by simp [rowC]
  | k + 1 => by have h1 := rowC_len a b outs i k; have h2 := pairC_len a b outs i k; simp only [rowC, List.length_append]; omega
theorem allC_len (a b outs : List Int) : ∀ i, (allC a b outs i).length ≤ 2 * (b.length + 1) * i
  | 0 => by simp [allC]
  | i + 1 => by
    have h1 := allC_len a b outs i
    have h2 := rowC_len a b outs i (b.length + 1)
    rw [Nat.mul_succ]; simp only [allC, List.length_append]; omega

theorem loop_len (a b outs : List Int) {i k : Nat} (hi : i ≤ a.length) (hk : k ≤ b.length + 1) : (allC a b outs i).length + (rowC a b outs i k).length ≤ 2 * (b.length + 1) * (a.length + 1) := by
  have h1 := allC_len a b outs i
  have h2 := rowC_len a b outs i k
  have h3 : 2 * (b.length + 1) * i + 2 * (b.length + 1) ≤ 2 * (b.length + 1) * (a.length + 1) := by
    rw [← Nat.mul_succ]; exact Nat.mul_le_mul_left _ (by omega)
  omega
theorem sq_step (p q : Nat) (hp : 1 ≤ p) (hq : 1 ≤ q) : 4 * p * p + 4 * q * q + 2 * (q + 1) * (p + 1) ≤ 4 * (p + q) * (p + q) := by
  obtain ⟨p, rfl⟩ := Nat.exists_eq_add_of_le hp
  obtain ⟨q, rfl⟩ := Nat.exists_eq_add_of_le hq
  have e : 4 * (1 + p + (1 + q)) * (1 + p + (1 + q)) = 4 * (1 + p) * (1 + p) + 4 * (1 + q) * (1 + q) + 2 * (1 + q + 1) * (1 + p + 1) + (6 * (p * q) + 4 * p + 4 * q) := by
    simp only [Nat.mul_add, Nat.add_mul, Nat.mul_comm q p, Nat.mul_assoc, Nat.one_mul]
    omega
  omega

theorem cnt_many (most : Nat) : ∀ (n : Nat) (xs : List Int) (next : Int), xs.length ≤ n → (cnt most xs next).2.length ≤ 4 * xs.length * xs.length := by
  intro n
  induction n with
  | zero => intro xs next h; rw [cnt_one (by omega)]; simp
  | succ n ih =>
    intro xs next h
    by_cases h1 : xs.length ≤ 1
    · rw [cnt_one h1]; simp
    · rw [cnt_two h1]
      have ha := ih (xs.take (xs.length / 2)) next (by simp; omega)
      have hb := ih (xs.drop (xs.length / 2)) (next + vars most (xs.length / 2)) (by simp; omega)
      have la := cnt_len most (xs.take (xs.length / 2)) next
      have lb := cnt_len most (xs.drop (xs.length / 2)) (next + vars most (xs.length / 2))
      generalize cnt most (xs.take (xs.length / 2)) next = A at *
      generalize cnt most (xs.drop (xs.length / 2)) (next + vars most (xs.length / 2)) = B at *
      generalize fresh (next + vars most (xs.length / 2) + vars most (xs.length - xs.length / 2)) (min xs.length most) = O
      have hc := allC_len A.1 B.1 O (A.1.length + 1)
      have e1 : (xs.take (xs.length / 2)).length = xs.length / 2 := by simp; omega
      have e2 : (xs.drop (xs.length / 2)).length = xs.length - xs.length / 2 := by simp
      rw [e1] at ha la
      rw [e2] at hb lb
      have hq := sq_step (xs.length / 2) (xs.length - xs.length / 2) (by omega) (by omega)
      have e3 : xs.length / 2 + (xs.length - xs.length / 2) = xs.length := by omega
      rw [e3] at hq
      have hm : 2 * (B.1.length + 1) * (A.1.length + 1) ≤ 2 * (xs.length - xs.length / 2 + 1) * (xs.length / 2 + 1) := Nat.mul_le_mul (by omega) (by omega)
      simp only [List.length_append]
      omega
/-- What Total hands back: outputs, clauses, the first free variable, the error. -/
structure TotalOut where
  outs : List Int
  cs : List (List Int)
  after : Int
  err : Int
def totalR (l : List Int) (most next : Int) : TotalOut :=
  if next < 1 ∨ 65537 < next ∨ most < 0 ∨ 1099511627776 < most ∨ 4096 < l.length then ⟨[], [], 0, 1⟩
  else if apartB next l = false then ⟨[], [], 0, 140⟩
  else if l.length = 0 ∨ most = 0 then ⟨[], [], next, 0⟩
  else if 65537 < next + vars most.toNat l.length then ⟨[], [], 0, 2⟩
  else ⟨(cnt most.toNat l next).1, (cnt most.toNat l next).2, next + vars most.toNat l.length, 0⟩
theorem totalR_arg {l : List Int} {most next : Int} (h : next < 1 ∨ 65537 < next ∨ most < 0 ∨ 1099511627776 < most ∨ 4096 < l.length) : totalR l most next = ⟨[], [], 0, 1⟩ := by rw [totalR, if_pos h]
theorem totalR_lit {l : List Int} {most next : Int} (h : ¬ (next < 1 ∨ 65537 < next ∨ most < 0 ∨ 1099511627776 < most ∨ 4096 < l.length)) (h2 : apartB next l = false) : totalR l most next = ⟨[], [], 0, 140⟩ := by rw [totalR, if_neg h, if_pos h2]
theorem totalR_zero {l : List Int} {most next : Int} (h : ¬ (next < 1 ∨ 65537 < next ∨ most < 0 ∨ 1099511627776 < most ∨ 4096 < l.length)) (h2 : apartB next l = true) (h3 : l.length = 0 ∨ most = 0) : totalR l most next = ⟨[], [], next, 0⟩ := by
  rw [totalR, if_neg h, if_neg (by simp [h2]), if_pos h3]
theorem totalR_bound {l : List Int} {most next : Int} (h : ¬ (next < 1 ∨ 65537 < next ∨ most < 0 ∨ 1099511627776 < most ∨ 4096 < l.length)) (h2 : apartB next l = true) (h3 : ¬ (l.length = 0 ∨ most = 0)) (h4 : 65537 < next + vars most.toNat l.length) :
    totalR l most next = ⟨[], [], 0, 2⟩ := by rw [totalR, if_neg h, if_neg (by simp [h2]), if_neg h3, if_pos h4]
theorem totalR_ok {l : List Int} {most next : Int} (h : ¬ (next < 1 ∨ 65537 < next ∨ most < 0 ∨ 1099511627776 < most ∨ 4096 < l.length)) (h2 : apartB next l = true) (h3 : ¬ (l.length = 0 ∨ most = 0)) (h4 : ¬ 65537 < next + vars most.toNat l.length) :
    totalR l most next = ⟨(cnt most.toNat l next).1, (cnt most.toNat l next).2, next + vars most.toNat l.length, 0⟩ := by rw [totalR, if_neg h, if_neg (by simp [h2]), if_neg h3, if_neg h4]
end Go.Proofs.Ytelgabamdhaplaa
