/-
  PLAIN LAW: negated literals complement the count.
-/
import Derived.Test.YtohffgggogdgmaaCountLaw
namespace Go.Proofs.Ytohffgggogdgmaa

theorem apartG_neg {next : Int} : ∀ (l seen : List Int), apartG next seen (l.map (fun x => -x)) = apartG next seen l
  | [], _ => rfl
  | x :: r, seen => by
    simp only [List.map_cons, apartG, Int.natAbs_neg]
    rw [apartG_neg r]
/-- The second encoding is made without a fault. -/
theorem neg_ok {l : List Int} {next : Int} (h0 : (totalR l l.length next).err = 0) (h1 : next ≤ 1000) (hl : l.length ≤ 12) :
    (totalR (l.map (fun x => -x)) l.length (totalR l l.length next).after).err = 0 := by
  have g := totalR_good h0
  have ga := g.after
  have gg := g.grow
  have gr := g.arg
  have hq : l.length * l.length ≤ 12 * 12 := Nat.mul_le_mul hl hl
  have hq' : ((l.length * l.length : Nat) : Int) = (l.length : Int) * l.length := by simp
  generalize (totalR l l.length next).after = af at *
  have ha : apartB next l = true := by
    cases hh : apartB next l with
    | true => rfl
    | false =>
      by_cases g : next < 1 ∨ 65537 < next ∨ (l.length : Int) < 0 ∨ 1099511627776 < (l.length : Int) ∨ 4096 < l.length
      · rw [totalR_arg g] at h0; cases h0
      · rw [totalR_lit g hh] at h0; cases h0
  have ha' : apartB af (l.map (fun x => -x)) = true := by
    unfold apartB
    rw [apartG_neg]
    exact apartG_more ga.1 l [] ha
  have g' : ¬ (af < 1 ∨ 65537 < af ∨ (l.length : Int) < 0 ∨ 1099511627776 < (l.length : Int) ∨ 4096 < (l.map (fun x => -x)).length) := by rw [List.length_map]; omega
  by_cases hz : (l.map (fun x => -x)).length = 0 ∨ (l.length : Int) = 0
  · rw [totalR_zero g' ha' hz]
  · have hv := vars_le (l.length : Int).toNat (l.map (fun x => -x)).length (l.map (fun x => -x)).length (Nat.le_refl _)
    have hb : ¬ 65537 < af + (vars (l.length : Int).toNat (l.map (fun x => -x)).length : Int) := by
      rw [List.length_map] at hv ⊢
      omega
    rw [totalR_ok g' ha' hz hb]
theorem countP_neg {s : Nat → Bool} : ∀ {l : List Int}, (∀ x ∈ l, x ≠ 0) → (l.map (fun x => -x)).countP (sval s) + l.countP (sval s) = l.length
  | [], _ => rfl
  | x :: r, h => by
    have ih := countP_neg (s := s) (l := r) (fun y hy => h y (by simp [hy]))
    have hn := sval_neg s (h x (by simp))
    simp only [List.map_cons, List.countP_cons, List.length_cons, hn]
    have hb : ∀ b : Bool, (if (!b) = true then 1 else 0) + (if b = true then 1 else 0) = 1 := by decide
    have := hb (sval s x)
    omega
end Go.Proofs.Ytohffgggogdgmaa
