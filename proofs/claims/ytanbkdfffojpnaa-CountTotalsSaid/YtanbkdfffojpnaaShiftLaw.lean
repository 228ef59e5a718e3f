/-
  PLAIN LAW: the numbering of the new variables is translation invariant.
-/
import Derived.Test.YtanbkdfffojpnaaTotSpec
namespace Go.Proofs.Ytanbkdfffojpnaa

/-- A literal, its variable shifted by 'by' if it is one from 'next' on. -/
def mv (next sh x : Int) : Int := if next ≤ x then x + sh else if next ≤ -x then x - sh else x
theorem mv_neg {next sh x : Int} (h : 1 ≤ next) : mv next sh (-x) = -mv next sh x := by
  unfold mv
  by_cases h1 : next ≤ x
  · rw [if_neg (by omega), if_pos (by omega), if_pos h1]; omega
  · by_cases h2 : next ≤ -x
    · rw [if_pos h2, if_neg h1, if_pos h2]; omega
    · rw [if_neg h2, if_neg (by omega), if_neg h1, if_neg h2]
theorem mv_old {next sh x : Int} (h : (x.natAbs : Int) < next) : mv next sh x = x := by
  unfold mv
  rw [if_neg (by omega), if_neg (by omega)]

theorem vars_le (most : Nat) : ∀ (m n : Nat), n ≤ m → vars most n ≤ n * n := by
  intro m
  induction m with
  | zero => intro n h; rw [vars_one (by omega)]; omega
  | succ m ih =>
    intro n h
    by_cases h1 : n ≤ 1
    · rw [vars_one h1]; omega
    · rw [vars_two h1]
      have a := ih (n / 2) (by omega)
      have b := ih (n - n / 2) (by omega)
      have e : n * n = (n / 2 + (n - n / 2)) * (n / 2 + (n - n / 2)) := by rw [show n / 2 + (n - n / 2) = n by omega]
      have hpq : n / 2 + (n - n / 2) = n := by omega
      have hmin : min n most ≤ n := Nat.min_le_left _ _
      have p1 : 1 ≤ n / 2 := by omega
      have p2 : 1 ≤ n - n / 2 := by omega
      generalize n / 2 = p at *
      generalize n - p = q at *
      rw [e]
      have e2 : (p + q) * (p + q) = p * p + q * q + 2 * (p * q) := by simp only [Nat.mul_add, Nat.add_mul, Nat.mul_comm q p]; omega
      rw [e2]
      have e3 : p + q ≤ 2 * (p * q) := by
        have h1 : p * 1 ≤ p * q := Nat.mul_le_mul_left _ p2
        have h2 : 1 * q ≤ p * q := Nat.mul_le_mul_right _ p1
        omega
      generalize min n most = mm at *
      omega

section
variable {f : Int → Int}
theorem atL_map (xs : List Int) (k : Int) : atL (xs.map f) k = (atL xs k).map f := by
  unfold atL
  rw [List.length_map]
  split
  · rename_i h
    simp only [List.map_cons, List.map_nil]
    rw [List.getD_eq_getElem?_getD, List.getD_eq_getElem?_getD, List.getElem?_map, List.getElem?_eq_getElem (by omega)]
    rfl
  · rfl
theorem notL_map (hf : ∀ x, f (-x) = -f x) (xs : List Int) : notL (xs.map f) = (notL xs).map f := by
  unfold notL
  rw [← List.map_take, List.map_map, List.map_map]
  exact List.map_congr_left fun x _ => (hf x).symm
theorem pairC_map (hf : ∀ x, f (-x) = -f x) (a b o : List Int) (i k : Nat) : pairC (a.map f) (b.map f) (o.map f) i k = (pairC a b o i k).map (List.map f) := by
  unfold pairC
  rw [List.length_map, List.map_append]
  congr 1
  · split
    · simp only [List.map_cons, List.map_nil, upC, atL_map, notL_map hf, List.map_append]
    · rfl
  · split
    · simp only [List.map_cons, List.map_nil, downC, atL_map, notL_map hf, List.map_append]
    · rfl
theorem rowC_map (hf : ∀ x, f (-x) = -f x) (a b o : List Int) (i : Nat) : ∀ k, rowC (a.map f) (b.map f) (o.map f) i k = (rowC a b o i k).map (List.map f)
  | 0 => rfl
  | k + 1 => by rw [rowC, rowC, rowC_map hf a b o i k, pairC_map hf, List.map_append]
theorem allC_map (hf : ∀ x, f (-x) = -f x) (a b o : List Int) : ∀ i, allC (a.map f) (b.map f) (o.map f) i = (allC a b o i).map (List.map f)
  | 0 => rfl
  | i + 1 => by rw [allC, allC, allC_map hf a b o i, rowC_map hf, List.length_map, List.map_append]
end

theorem fresh_mv {base sh next : Int} (hb : base ≤ next) (many : Nat) : fresh (next + sh) many = (fresh next many).map (mv base sh) := by
  unfold fresh
  rw [List.map_map]
  refine List.map_congr_left fun i _ => ?_
  simp only [Function.comp]
  unfold mv
  rw [if_pos (by omega)]
  omega

theorem cnt_mv (most : Nat) {base sh : Int} (h1 : 1 ≤ base) : ∀ (n : Nat) (xs : List Int) (next : Int), xs.length ≤ n → (∀ x ∈ xs, (x.natAbs : Int) < base) → base ≤ next →
    cnt most xs (next + sh) = ((cnt most xs next).1.map (mv base sh), (cnt most xs next).2.map (List.map (mv base sh))) := by
  have old : ∀ xs : List Int, (∀ x ∈ xs, (x.natAbs : Int) < base) → xs.map (mv base sh) = xs := fun xs hx => by
    conv => rhs; rw [← List.map_id xs]
    exact List.map_congr_left fun x h => mv_old (hx x h)
  intro n
  induction n with
  | zero => intro xs next hl hx _; rw [cnt_one (by omega), cnt_one (by omega)]; simp [old xs hx]
  | succ n ih =>
    intro xs next hl hx hb
    by_cases hc : xs.length ≤ 1
    · rw [cnt_one hc, cnt_one hc]; simp [old xs hx]
    · rw [cnt_two hc, cnt_two hc]
      have ia := ih (xs.take (xs.length / 2)) next (by simp; omega) (fun x h => hx x (List.mem_of_mem_take h)) hb
      have ib := ih (xs.drop (xs.length / 2)) (next + vars most (xs.length / 2)) (by simp; omega) (fun x h => hx x (List.mem_of_mem_drop h)) (by omega)
      rw [ia, show next + sh + (vars most (xs.length / 2) : Int) = next + vars most (xs.length / 2) + sh by omega, ib]
      rw [show next + (vars most (xs.length / 2) : Int) + sh + (vars most (xs.length - xs.length / 2) : Int) = next + vars most (xs.length / 2) + vars most (xs.length - xs.length / 2) + sh by omega]
      rw [fresh_mv (base := base) (by omega)]
      simp only [List.map_append, List.length_map]
      rw [allC_map (fun x => mv_neg h1)]

theorem apartG_more {next next' : Int} (h : next ≤ next') : ∀ (l seen : List Int), apartG next seen l = true → apartG next' seen l = true
  | [], _, _ => rfl
  | x :: r, seen, ha => by
    rw [apartG] at ha ⊢
    split at ha
    · cases ha
    · rename_i hc
      rw [if_neg (by rintro (q | q | q); exact hc (.inl q); exact hc (.inr (.inl (by omega))); exact hc (.inr (.inr q)))]
      exact apartG_more h r _ ha
theorem apartG_old {next : Int} : ∀ {l seen : List Int}, apartG next seen l = true → ∀ x ∈ l, (x.natAbs : Int) < next
  | [], _, _, x, hx => by cases hx
  | y :: r, seen, h, x, hx => by
    rw [apartG] at h
    split at h
    · cases h
    · rename_i hc
      rcases List.mem_cons.1 hx with rfl | hx
      · have := fun q => hc (.inr (.inl q)); omega
      · exact apartG_old h x hx

/-- THE LAW. -/
theorem totalR_mv {l : List Int} {most next sh : Int} (h0 : (totalR l most next).err = 0) (h1 : 1 ≤ next) (h2 : next ≤ 2000) (hs0 : 0 ≤ sh) (hs1 : sh ≤ 255) (hl : l.length ≤ 20) :
    totalR l most (next + sh) = ⟨(totalR l most next).outs.map (mv next sh), (totalR l most next).cs.map (List.map (mv next sh)), (totalR l most next).after + sh, 0⟩ := by
  by_cases g : next < 1 ∨ 65537 < next ∨ most < 0 ∨ 1099511627776 < most ∨ 4096 < l.length
  · rw [totalR_arg g] at h0; cases h0
  have g' : ¬ (next + sh < 1 ∨ 65537 < next + sh ∨ most < 0 ∨ 1099511627776 < most ∨ 4096 < l.length) := by omega
  cases ha : apartB next l with
  | false => rw [totalR_lit g ha] at h0; cases h0
  | true =>
    have ha' : apartB (next + sh) l = true := apartG_more (by omega) l [] ha
    by_cases hz : l.length = 0 ∨ most = 0
    · rw [totalR_zero g ha hz, totalR_zero g' ha' hz]; rfl
    · have hv := vars_le most.toNat l.length l.length (Nat.le_refl _)
      have hv2 : l.length * l.length ≤ 20 * 20 := Nat.mul_le_mul hl hl
      have hb : ¬ 65537 < next + (vars most.toNat l.length : Int) := by omega
      have hb' : ¬ 65537 < next + sh + (vars most.toNat l.length : Int) := by omega
      rw [totalR_ok g ha hz hb, totalR_ok g' ha' hz hb']
      have hc := cnt_mv most.toNat (base := next) (sh := sh) h1 l.length l next (Nat.le_refl _) (apartG_old ha) (Int.le_refl _)
      rw [hc]
      simp only [TotalOut.mk.injEq, true_and, and_true]
      omega
/-- Without a fault the arguments are in range. -/
theorem totalR_err0 {l : List Int} {most next : Int} (h0 : (totalR l most next).err = 0) : next ≤ (totalR l most next).after ∧ (totalR l most next).after ≤ 65537 := by
  by_cases g : next < 1 ∨ 65537 < next ∨ most < 0 ∨ 1099511627776 < most ∨ 4096 < l.length
  · rw [totalR_arg g] at h0; cases h0
  cases ha : apartB next l with
  | false => rw [totalR_lit g ha] at h0; cases h0
  | true =>
    by_cases hz : l.length = 0 ∨ most = 0
    · rw [totalR_zero g ha hz]; exact ⟨Int.le_refl _, by show next ≤ 65537; omega⟩
    · by_cases hb : 65537 < next + (vars most.toNat l.length : Int)
      · rw [totalR_bound g ha hz hb] at h0; cases h0
      · rw [totalR_ok g ha hz hb]; exact ⟨by show next ≤ next + _; omega, by show next + _ ≤ 65537; omega⟩
/-! ### all literals are small -/
theorem Small.append {a b : List Int} (ha : Small a) (hb : Small b) : Small (a ++ b) := fun x hx => by
  rcases List.mem_append.1 hx with h | h
  · exact ha x h
  · exact hb x h
theorem pairC_small {a b o : List Int} (ha : Small a) (hb : Small b) (ho : Small o) (i k : Nat) : ∀ cl ∈ pairC a b o i k, Small cl := by
  intro cl h
  unfold pairC at h
  rcases List.mem_append.1 h with h | h
  · split at h
    · obtain rfl := List.mem_singleton.1 h
      exact (((ha.atL _).notL).append ((hb.atL _).notL)).append (ho.atL _)
    · cases h
  · split at h
    · obtain rfl := List.mem_singleton.1 h
      exact ((ha.atL _).append (hb.atL _)).append ((ho.atL _).notL)
    · cases h
theorem rowC_small {a b o : List Int} (ha : Small a) (hb : Small b) (ho : Small o) (i : Nat) : ∀ k, ∀ cl ∈ rowC a b o i k, Small cl
  | 0, cl, h => by cases h
  | k + 1, cl, h => by
    rcases List.mem_append.1 h with h | h
    · exact rowC_small ha hb ho i k cl h
    · exact pairC_small ha hb ho i k cl h
theorem allC_small {a b o : List Int} (ha : Small a) (hb : Small b) (ho : Small o) : ∀ i, ∀ cl ∈ allC a b o i, Small cl
  | 0, cl, h => by cases h
  | i + 1, cl, h => by
    rcases List.mem_append.1 h with h | h
    · exact allC_small ha hb ho i cl h
    · exact rowC_small ha hb ho i _ cl h
theorem cnt_small2 (most : Nat) : ∀ (n : Nat) (xs : List Int) (next : Int), xs.length ≤ n → Small xs → 1 ≤ next → next + vars most xs.length ≤ 65537 → ∀ cl ∈ (cnt most xs next).2, Small cl := by
  intro n
  induction n with
  | zero => intro xs next hl _ _ _ cl h; rw [cnt_one (by omega)] at h; cases h
  | succ n ih =>
    intro xs next hl hs h1 hv cl h
    by_cases hc : xs.length ≤ 1
    · rw [cnt_one hc] at h; cases h
    · rw [cnt_two hc] at h
      rw [vars_two hc] at hv
      have e1 : (xs.take (xs.length / 2)).length = xs.length / 2 := by simp; omega
      have e2 : (xs.drop (xs.length / 2)).length = xs.length - xs.length / 2 := by simp
      have s1 : Small (xs.take (xs.length / 2)) := fun x hx => hs x (List.mem_of_mem_take hx)
      have s2 : Small (xs.drop (xs.length / 2)) := fun x hx => hs x (List.mem_of_mem_drop hx)
      rcases List.mem_append.1 h with h | h
      · rcases List.mem_append.1 h with h | h
        · exact ih _ _ (by omega) s1 h1 (by rw [e1]; omega) cl h
        · exact ih _ _ (by omega) s2 (by omega) (by rw [e2]; omega) cl h
      · exact allC_small (cnt_small s1 h1 (by rw [e1]; omega)) (cnt_small s2 (by omega) (by rw [e2]; omega)) (fresh_small (by omega) (by omega)) _ cl h
theorem totalR_small {l : List Int} {most next : Int} (h0 : (totalR l most next).err = 0) : Small (totalR l most next).outs ∧ ∀ cl ∈ (totalR l most next).cs, Small cl := by
  by_cases g : next < 1 ∨ 65537 < next ∨ most < 0 ∨ 1099511627776 < most ∨ 4096 < l.length
  · rw [totalR_arg g] at h0; cases h0
  cases ha : apartB next l with
  | false => rw [totalR_lit g ha] at h0; cases h0
  | true =>
    have hs : Small l := fun x hx => by have := apartG_old ha x hx; omega
    by_cases hz : l.length = 0 ∨ most = 0
    · rw [totalR_zero g ha hz]; exact ⟨(fun x h => by cases h), (fun x h => by cases h)⟩
    · by_cases hb : 65537 < next + (vars most.toNat l.length : Int)
      · rw [totalR_bound g ha hz hb] at h0; cases h0
      · rw [totalR_ok g ha hz hb]
        exact ⟨cnt_small hs (by omega) (by omega), cnt_small2 _ l.length l next (Nat.le_refl _) hs (by omega) (by omega)⟩
end Go.Proofs.Ytanbkdfffojpnaa
