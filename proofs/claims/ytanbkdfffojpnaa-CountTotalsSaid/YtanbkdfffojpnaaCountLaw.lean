/-
  PLAIN LAW: in every model of the clauses the outputs are the unary count of the true literals.
-/
import Derived.Test.YtanbkdfffojpnaaShiftLaw
namespace Go.Proofs.Ytanbkdfffojpnaa

/-- The truth of a literal under an assignment of the variables. -/
def sval (s : Nat → Bool) (x : Int) : Bool := s x.natAbs == decide (0 < x)
theorem sval_neg (s : Nat → Bool) {x : Int} (h : x ≠ 0) : sval s (-x) = !sval s x := by
  unfold sval
  rw [Int.natAbs_neg]
  by_cases h0 : 0 < x
  · have h1 : decide (0 < x) = true := by simpa using h0
    have h2 : decide (0 < -x) = false := by simp; omega
    rw [h1, h2]
    cases s x.natAbs <;> rfl
  · have h1 : decide (0 < x) = false := by simpa using h0
    have h2 : decide (0 < -x) = true := by simp; omega
    rw [h1, h2]
    cases s x.natAbs <;> rfl
def cval (s : Nat → Bool) (c : List Int) : Bool := c.any (sval s)

theorem atL_get {xs : List Int} {i : Nat} (h : i < xs.length) : atL xs i = [xs.getD i 0] := by
  unfold atL
  rw [if_pos (by omega), Int.toNat_natCast]
theorem atL_out {xs : List Int} {k : Int} (h : k < 0 ∨ (xs.length : Int) ≤ k) : atL xs k = [] := by
  unfold atL
  rw [if_neg (by omega)]
theorem notL_one (x : Int) : notL [x] = [-x] := rfl
theorem notL_nil : notL [] = [] := rfl

theorem rowC_mem {a b o : List Int} {i : Nat} {c : List Int} : ∀ {m k : Nat}, k < m → c ∈ pairC a b o i k → c ∈ rowC a b o i m
  | 0, k, h, _ => absurd h (by omega)
  | m + 1, k, h, hc => by
    rw [rowC, List.mem_append]
    by_cases hk : k = m
    · subst hk; exact .inr hc
    · exact .inl (rowC_mem (by omega) hc)
theorem allC_mem {a b o : List Int} {c : List Int} : ∀ {m i k : Nat}, i < m → k ≤ b.length → c ∈ pairC a b o i k → c ∈ allC a b o m
  | 0, i, k, h, _, _ => absurd h (by omega)
  | m + 1, i, k, h, hk, hc => by
    rw [allC, List.mem_append]
    by_cases hi : i = m
    · subst hi; exact .inr (rowC_mem (by omega) hc)
    · exact .inl (allC_mem (by omega) hk hc)

/-- A list of literals that counts to p: the first p are true, the others false. -/
def Unary (s : Nat → Bool) (a : List Int) (p : Nat) : Prop := ∀ i, i < a.length → sval s (a.getD i 0) = decide (i < p)

theorem getD_ne {xs : List Int} (h : ∀ x ∈ xs, x ≠ 0) {i : Nat} (hi : i < xs.length) : xs.getD i 0 ≠ 0 :=
  h _ (by rw [List.getD_eq_getElem?_getD, List.getElem?_eq_getElem hi]; simp)

/-- The parts of the clauses. -/
theorem up_false {s : Nat → Bool} {a : List Int} {p i : Nat} (ha : Unary s a p) (hz : ∀ x ∈ a, x ≠ 0) (hi : i ≤ p) : cval s (notL (atL a ((i : Int) - 1))) = false := by
  rcases Nat.eq_zero_or_pos i with h | h
  · subst h; rw [atL_out (by omega)]; rfl
  · obtain ⟨j, rfl⟩ : ∃ j, i = j + 1 := ⟨i - 1, by omega⟩
    rw [show ((j + 1 : Nat) : Int) - 1 = (j : Int) by omega]
    by_cases hl : j < a.length
    · rw [atL_get hl, notL_one]
      simp only [cval, List.any_cons, List.any_nil, Bool.or_false]
      rw [sval_neg s (getD_ne hz hl), ha j hl]
      have : j < p := by omega
      simp [this]
    · rw [atL_out (by omega)]; rfl
theorem down_false {s : Nat → Bool} {a : List Int} {p i : Nat} (ha : Unary s a p) (hi : p ≤ i ∨ a.length ≤ i) : cval s (atL a i) = false := by
  by_cases hl : i < a.length
  · rw [atL_get hl]
    simp only [cval, List.any_cons, List.any_nil, Bool.or_false]
    rw [ha i hl]
    have : ¬ i < p := by omega
    simpa using this
  · rw [atL_out (by omega)]; rfl
theorem cval_append (s : Nat → Bool) (a b : List Int) : cval s (a ++ b) = (cval s a || cval s b) := by simp [cval]

theorem merge {s : Nat → Bool} {a b o : List Int} {p q lp lq most : Nat} (ha : Unary s a p) (hb : Unary s b q) (hza : ∀ x ∈ a, x ≠ 0) (hzb : ∀ x ∈ b, x ≠ 0) (hzo : ∀ x ∈ o, x ≠ 0)
    (la : a.length = min lp most) (lb : b.length = min lq most) (lo : o.length = min (lp + lq) most) (hp : p ≤ lp) (hq : q ≤ lq) (hall : ∀ c ∈ allC a b o (a.length + 1), cval s c = true) : Unary s o (p + q) := by
  intro n hn
  by_cases h : n < p + q
  · -- up
    have hd : decide (n < p + q) = true := by simpa using h
    rw [hd]
    obtain ⟨i, k, hik, hip, hkq, hia, hkb⟩ : ∃ i k : Nat, i + k = n + 1 ∧ i ≤ p ∧ k ≤ q ∧ i ≤ a.length ∧ k ≤ b.length := by
      refine ⟨min (n + 1) (min p a.length), n + 1 - min (n + 1) (min p a.length), by omega, by omega, by omega, by omega, by omega⟩
    have hc : upC a b o i k ∈ allC a b o (a.length + 1) := by
      refine allC_mem (i := i) (k := k) (by omega) hkb ?_
      unfold pairC
      rw [if_pos (by omega)]
      simp
    have hv := hall _ hc
    unfold upC at hv
    rw [cval_append, cval_append, up_false ha hza hip, up_false hb hzb hkq, show (i : Int) + (k : Int) - 1 = (n : Int) by omega, atL_get hn] at hv
    simpa [cval] using hv
  · have hd : decide (n < p + q) = false := by simpa using h
    rw [hd]
    obtain ⟨i, k, hik, hpi, hqk, hia, hkb⟩ : ∃ i k : Nat, i + k = n ∧ p ≤ i ∧ q ≤ k ∧ i ≤ a.length ∧ k ≤ b.length := by
      refine ⟨min (n - q) a.length, n - min (n - q) a.length, by omega, by omega, by omega, by omega, by omega⟩
    have hc : downC a b o i k ∈ allC a b o (a.length + 1) := by
      refine allC_mem (i := i) (k := k) (by omega) hkb ?_
      unfold pairC
      rw [List.mem_append]
      right
      rw [if_pos (by omega)]
      simp
    have hv := hall _ hc
    unfold downC at hv
    rw [cval_append, cval_append, down_false ha (.inl hpi), down_false hb (.inl hqk), show (i : Int) + (k : Int) = (n : Int) by omega, atL_get hn, notL_one] at hv
    simp only [cval, List.any_cons, List.any_nil, Bool.or_false, Bool.false_or] at hv
    rw [sval_neg s (getD_ne hzo hn)] at hv
    simpa using hv

theorem cnt_length {most : Nat} (hm : 1 ≤ most) (xs : List Int) (next : Int) (h1 : 1 ≤ xs.length) : (cnt most xs next).1.length = min xs.length most := by
  by_cases h : xs.length ≤ 1
  · rw [cnt_one h]; show xs.length = _; omega
  · rw [cnt_two h, fresh_len]
theorem cnt_nonzero {most : Nat} {xs : List Int} {next : Int} (hx : ∀ x ∈ xs, x ≠ 0) (hn : 1 ≤ next) : ∀ x ∈ (cnt most xs next).1, x ≠ 0 := fun x h => by
  rcases cnt_mem h with h | h
  · exact hx x h
  · omega
theorem fresh_nonzero {next : Int} {many : Nat} (hn : 1 ≤ next) : ∀ x ∈ fresh next many, x ≠ 0 := fun x h => by have := fresh_mem h; omega

/-- THE LAW. -/
theorem cnt_unary {s : Nat → Bool} {most : Nat} (hm : 1 ≤ most) : ∀ (n : Nat) (xs : List Int) (next : Int), xs.length ≤ n → 1 ≤ xs.length → (∀ x ∈ xs, x ≠ 0) → 1 ≤ next → (∀ c ∈ (cnt most xs next).2, cval s c = true) →
    Unary s (cnt most xs next).1 (xs.countP (sval s)) := by
  intro n
  induction n with
  | zero => intro xs next h1 h2; omega
  | succ n ih =>
    intro xs next hl h1 hx hn hall
    by_cases hc : xs.length ≤ 1
    · match xs, h1, hc with
      | [x], _, _ =>
        rw [cnt_one (by simp)]
        intro i hi
        have : i = 0 := by simp at hi; omega
        subst this
        simp only [List.getD_cons_zero, List.countP_cons, List.countP_nil]
        cases sval s x <;> simp
      | _ :: _ :: _, _, h => simp at h
    · rw [cnt_two hc] at hall ⊢
      have e1 : (xs.take (xs.length / 2)).length = xs.length / 2 := by simp; omega
      have e2 : (xs.drop (xs.length / 2)).length = xs.length - xs.length / 2 := by simp
      have x1 : ∀ x ∈ xs.take (xs.length / 2), x ≠ 0 := fun x h => hx x (List.mem_of_mem_take h)
      have x2 : ∀ x ∈ xs.drop (xs.length / 2), x ≠ 0 := fun x h => hx x (List.mem_of_mem_drop h)
      have ia := ih (xs.take (xs.length / 2)) next (by omega) (by omega) x1 hn (fun c h => hall c (List.mem_append_left _ (List.mem_append_left _ h)))
      have ib := ih (xs.drop (xs.length / 2)) (next + vars most (xs.length / 2)) (by omega) (by omega) x2 (by omega) (fun c h => hall c (List.mem_append_left _ (List.mem_append_right _ h)))
      have hcount : xs.countP (sval s) = (xs.take (xs.length / 2)).countP (sval s) + (xs.drop (xs.length / 2)).countP (sval s) := by rw [← List.countP_append, List.take_append_drop]
      rw [hcount]
      have c1 : (xs.take (xs.length / 2)).countP (sval s) ≤ (xs.take (xs.length / 2)).length := List.countP_le_length
      have c2 : (xs.drop (xs.length / 2)).countP (sval s) ≤ (xs.drop (xs.length / 2)).length := List.countP_le_length
      exact merge ia ib (cnt_nonzero x1 hn) (cnt_nonzero x2 (by omega)) (fresh_nonzero (by omega)) (cnt_length hm _ _ (by omega)) (cnt_length hm _ _ (by omega))
        (by rw [fresh_len, e1, e2]; omega) c1 c2 (fun c h => hall c (List.mem_append_right _ h))

/-! ### where the literals lie -/
def Among (P : Int → Prop) (xs : List Int) : Prop := ∀ x ∈ xs, P x
section
variable {P : Int → Prop} (hP : ∀ x, P x → P (-x))
theorem Among.atL {P : Int → Prop} {xs : List Int} (h : Among P xs) (k : Int) : Among P (atL xs k) := fun x hx => h x (atL_mem hx)
include hP in
theorem Among.notL {xs : List Int} (h : Among P xs) : Among P (notL xs) := by
  intro x hx
  simp only [Proofs.Ytanbkdfffojpnaa.notL, List.mem_map] at hx
  obtain ⟨y, hy, rfl⟩ := hx
  exact hP y (h y (List.mem_of_mem_take hy))
theorem Among.append {P : Int → Prop} {a b : List Int} (ha : Among P a) (hb : Among P b) : Among P (a ++ b) := fun x hx => by
  rcases List.mem_append.1 hx with h | h
  · exact ha x h
  · exact hb x h
include hP in
theorem pairC_among {a b o : List Int} (ha : Among P a) (hb : Among P b) (ho : Among P o) (i k : Nat) : ∀ cl ∈ pairC a b o i k, Among P cl := by
  intro cl h
  unfold pairC at h
  rcases List.mem_append.1 h with h | h
  · split at h
    · obtain rfl := List.mem_singleton.1 h
      exact ((Among.notL hP (ha.atL _)).append (Among.notL hP (hb.atL _))).append (ho.atL _)
    · cases h
  · split at h
    · obtain rfl := List.mem_singleton.1 h
      exact ((ha.atL _).append (hb.atL _)).append (Among.notL hP (ho.atL _))
    · cases h
include hP in
theorem rowC_among {a b o : List Int} (ha : Among P a) (hb : Among P b) (ho : Among P o) (i : Nat) : ∀ k, ∀ cl ∈ rowC a b o i k, Among P cl
  | 0, cl, h => by cases h
  | k + 1, cl, h => by
    rcases List.mem_append.1 h with h | h
    · exact rowC_among ha hb ho i k cl h
    · exact pairC_among hP ha hb ho i k cl h
include hP in
theorem allC_among {a b o : List Int} (ha : Among P a) (hb : Among P b) (ho : Among P o) : ∀ i, ∀ cl ∈ allC a b o i, Among P cl
  | 0, cl, h => by cases h
  | i + 1, cl, h => by
    rcases List.mem_append.1 h with h | h
    · exact allC_among ha hb ho i cl h
    · exact rowC_among hP ha hb ho i _ cl h
end
/-- A literal of one of the variables 1 to m - 1. -/
def LitBelow (m : Int) (x : Int) : Prop := x ≠ 0 ∧ (x.natAbs : Int) < m
theorem litBelow_neg {m : Int} : ∀ x, LitBelow m x → LitBelow m (-x) := fun x h => ⟨by have := h.1; omega, by rw [Int.natAbs_neg]; exact h.2⟩
theorem cnt_among {most : Nat} {m : Int} : ∀ (n : Nat) (xs : List Int) (next : Int), xs.length ≤ n → Among (LitBelow m) xs → 1 ≤ next → next + vars most xs.length ≤ m → Among (LitBelow m) (cnt most xs next).1 ∧ ∀ cl ∈ (cnt most xs next).2, Among (LitBelow m) cl := by
  have hfr : ∀ (next : Int) (many : Nat), 1 ≤ next → next + many ≤ m → Among (LitBelow m) (fresh next many) := fun next many h1 h2 x hx => by
    have := fresh_mem hx
    exact ⟨by omega, by omega⟩
  intro n
  induction n with
  | zero => intro xs next hl hx _ _; rw [cnt_one (by omega)]; exact ⟨hx, (fun c h => by cases h)⟩
  | succ n ih =>
    intro xs next hl hx h1 hv
    by_cases hc : xs.length ≤ 1
    · rw [cnt_one hc]; exact ⟨hx, (fun c h => by cases h)⟩
    · rw [cnt_two hc]
      rw [vars_two hc] at hv
      have e1 : (xs.take (xs.length / 2)).length = xs.length / 2 := by simp; omega
      have e2 : (xs.drop (xs.length / 2)).length = xs.length - xs.length / 2 := by simp
      have ia := ih (xs.take (xs.length / 2)) next (by omega) (fun x h => hx x (List.mem_of_mem_take h)) h1 (by rw [e1]; omega)
      have ib := ih (xs.drop (xs.length / 2)) (next + vars most (xs.length / 2)) (by omega) (fun x h => hx x (List.mem_of_mem_drop h)) (by omega) (by rw [e2]; omega)
      have hf := hfr (next + vars most (xs.length / 2) + vars most (xs.length - xs.length / 2)) (min xs.length most) (by omega) (by omega)
      refine ⟨hf, fun cl h => ?_⟩
      rcases List.mem_append.1 h with h | h
      · rcases List.mem_append.1 h with h | h
        · exact ia.2 cl h
        · exact ib.2 cl h
      · exact allC_among litBelow_neg ia.1 ib.1 hf _ cl h
theorem apartG_lit {next : Int} : ∀ {l seen : List Int}, apartG next seen l = true → Among (LitBelow next) l
  | [], _, _, x, hx => by cases hx
  | y :: r, seen, h, x, hx => by
    rw [apartG] at h
    split at h
    · cases h
    · rename_i hc
      rcases List.mem_cons.1 hx with rfl | hx
      · exact ⟨fun e => hc (.inl (by simp [e])), by have := fun q => hc (.inr (.inl q)); omega⟩
      · exact apartG_lit h x hx

/-- What Total's answer is good for. -/
structure TotalGood (l : List Int) (most next : Int) : Prop where
  arg : 1 ≤ next ∧ 0 ≤ most
  after : next ≤ (totalR l most next).after ∧ (totalR l most next).after ≤ 65537
  lits : Among (LitBelow next) l
  outs : Among (LitBelow (totalR l most next).after) (totalR l most next).outs
  cs : ∀ cl ∈ (totalR l most next).cs, Among (LitBelow (totalR l most next).after) cl
  len : ((totalR l most next).outs.length : Int) = min (l.length : Int) most
  grow : (totalR l most next).after ≤ next + l.length * l.length
  unary : ∀ s : Nat → Bool, (∀ c ∈ (totalR l most next).cs, cval s c = true) → Unary s (totalR l most next).outs (l.countP (sval s))
theorem totalR_good {l : List Int} {most next : Int} (h0 : (totalR l most next).err = 0) : TotalGood l most next := by
  by_cases g : next < 1 ∨ 65537 < next ∨ most < 0 ∨ 1099511627776 < most ∨ 4096 < l.length
  · rw [totalR_arg g] at h0; cases h0
  cases ha : apartB next l with
  | false => rw [totalR_lit g ha] at h0; cases h0
  | true =>
    have hlit := apartG_lit ha
    by_cases hz : l.length = 0 ∨ most = 0
    · have e := totalR_zero g ha hz
      refine ⟨by omega, by rw [e]; exact ⟨Int.le_refl _, by show next ≤ 65537; omega⟩, hlit, by rw [e]; exact (fun x h => by cases h), by rw [e]; exact (fun x h => by cases h), ?_, ?_, ?_⟩
      · rw [e]; show (0 : Int) = _; omega
      · rw [e]; show next ≤ _; have : (0 : Int) ≤ (l.length : Int) * l.length := Int.mul_nonneg (by omega) (by omega); omega
      · rw [e]; intro s _ i hi; simp at hi
    · by_cases hb : 65537 < next + (vars most.toNat l.length : Int)
      · rw [totalR_bound g ha hz hb] at h0; cases h0
      · have e := totalR_ok g ha hz hb
        have hv := vars_le most.toNat l.length l.length (Nat.le_refl _)
        have hc := cnt_among (most := most.toNat) (m := next + vars most.toNat l.length) l.length l next (Nat.le_refl _) (fun x h => ⟨(hlit x h).1, by have := (hlit x h).2; omega⟩) (by omega) (Int.le_refl _)
        refine ⟨by omega, by rw [e]; exact ⟨by show next ≤ next + _; omega, by show next + _ ≤ 65537; omega⟩, hlit, by rw [e]; exact hc.1, by rw [e]; exact hc.2, ?_, ?_, ?_⟩
        · rw [e]
          show ((cnt most.toNat l next).1.length : Int) = _
          rw [cnt_length (by omega) l next (by omega)]
          omega
        · rw [e]
          show next + (vars most.toNat l.length : Int) ≤ _
          have : ((l.length * l.length : Nat) : Int) = (l.length : Int) * l.length := by simp
          omega
        · rw [e]
          intro s hall
          exact cnt_unary (by omega) l.length l next (Nat.le_refl _) (by omega) (fun x h => (hlit x h).1) (by omega) hall
/-- With a fault there is nothing. -/
theorem totalR_bad {l : List Int} {most next : Int} (h0 : (totalR l most next).err ≠ 0) : (totalR l most next).outs = [] ∧ (totalR l most next).cs = [] ∧ (totalR l most next).after = 0 := by
  by_cases g : next < 1 ∨ 65537 < next ∨ most < 0 ∨ 1099511627776 < most ∨ 4096 < l.length
  · rw [totalR_arg g]; exact ⟨rfl, rfl, rfl⟩
  cases ha : apartB next l with
  | false => rw [totalR_lit g ha]; exact ⟨rfl, rfl, rfl⟩
  | true =>
    by_cases hz : l.length = 0 ∨ most = 0
    · rw [totalR_zero g ha hz] at h0; exact absurd rfl h0
    · by_cases hb : 65537 < next + (vars most.toNat l.length : Int)
      · rw [totalR_bound g ha hz hb]; exact ⟨rfl, rfl, rfl⟩
      · rw [totalR_ok g ha hz hb] at h0; exact absurd rfl h0
end Go.Proofs.Ytanbkdfffojpnaa
