/-
  WHAT THE ROW's READING GIVES OF AN ARGUMENT: a formula (api.Cnf), a trail ([]api.Step).
-/
import Derived.Test.YtelgabamdhaplaaOpen
import Derived.Test.YtelgabamdhaplaaSteps
import Derived.Deep.SlicePairs
import Derived.Deep.Matrix
import Derived.Lib.SmallJoins
namespace Go.Proofs.Ytelgabamdhaplaa
open Go.ChangeShapes Go.WideShapes Go.ChangeAt Go.RowKit Go.Joins

/-- A formula that came in. -/
structure InCnf (w : World) (N : Int) (A : Option Addr) (n c : Nat) (cs : List (List Int)) : Prop where
  rows : Rows2 w A n c cs
  fits : ∀ l ∈ cs, Fits l
  wf : (Lit.int .i64 N).wf = true
/-- A trail that came in. -/
structure InSteps (w : World) (A : Option Addr) (n c : Nat) (ts : List TStep) : Prop where
  steps : Steps w A n c ts
  fits : SFits ts

theorem open_rows {H : Type} {enc : TypeId × Value → H} {W : World} {v : Value} {y : DataW H × List MemPlace} {m : Nat}
    (h : DataW.trod enc Try.prog W 0 (fun _ => true) true m 22 [v] = some y) : ∃ A n c cs, v = .slice A n c ∧ Rows2 W A n c cs ∧ ∀ l ∈ cs, Fits l := by
  rcases Deep.open_int_rows Try.underlying22 Try.underlying29 Try.underlying3 (by kernel_rfl) (by kernel_rfl) h with ⟨hcs, _⟩ | ⟨a, len, cap, A, L, C, Z, hcs, _, hl, hm, _, hr⟩
  · simp at hcs
    subst hcs
    exact ⟨none, 0, 0, [], rfl, ⟨rfl, Nat.le_refl _, by simp [maxLen], [], Reads.none_, fun i r h => by simp at h⟩, fun l h => by cases h⟩
  · simp at hcs
    subst hcs
    have hI : ∀ r, r < len → Ints W (Lt W) (A r) (L r) (C r) ((Z r).take (L r)) := fun r hr' => by
      obtain ⟨hc, h1, h2, h3, h4, h5, h6⟩ := hr r (by omega)
      refine ⟨by simp; omega, h1, h2, by simp; omega, fun h0 => ?_⟩
      cases hA : A r with
      | none => have := h5 hA; omega
      | some a' =>
        obtain ⟨_, hcell⟩ := h6 a' hA
        refine ⟨a', rfl, ?_, fun j u hu => ?_⟩
        · have := World.block_lt_of_cell? W _ (hcell 0 (by omega))
          rwa [block_of_add] at this
        · simp only [List.map_take, List.getElem?_take, List.getElem?_map] at hu
          split at hu
          · rename_i hj
            rw [hcell j (by omega)]
            rw [List.getElem?_eq_getElem (by omega)] at hu
            simp at hu
            rw [← hu, List.getD_eq_getElem?_getD, List.getElem?_eq_getElem (by omega)]; rfl
          · cases hu
    refine ⟨some a, len, cap, (List.range len).map (fun r => (Z r).take (L r)), rfl, ⟨by simp, hl, hm, (List.range len).map (fun r => .slice (A r) (L r) (C r)), ⟨by simp, fun h0 => ⟨a, rfl, ?_, fun j u hu => ?_⟩⟩, fun i r hi => ?_⟩, fun l hl' => ?_⟩
    · have := World.block_lt_of_cell? W _ (hr 0 (by omega)).1
      rwa [block_of_add] at this
    · rw [List.getElem?_map] at hu
      by_cases hj : j < len
      · rw [List.getElem?_range hj] at hu
        simp at hu
        rw [(hr j (by omega)).1, hu]
      · rw [List.getElem?_eq_none (by simp; omega)] at hu; cases hu
    · rw [List.getElem?_map] at hi
      by_cases hj : i < len
      · rw [List.getElem?_range hj] at hi
        simp at hi
        exact ⟨_, _, _, (Z i).take (L i), hi.symm, by rw [List.getElem?_map, List.getElem?_range hj]; rfl, hI i hj⟩
      · rw [List.getElem?_eq_none (by simp; omega)] at hi; cases hi
    · obtain ⟨r, hr', rfl⟩ := List.mem_map.1 hl'
      have hr' := List.mem_range.1 hr'
      exact fun x hx => (hr r (by omega)).2.2.2.2.1 x (List.mem_of_mem_take hx)
theorem open_cnf {H : Type} {enc : TypeId × Value → H} {W : World} {r : Reach} {b0 : Nat} {v : Value} {d : DataW H} {ps : List MemPlace} (hv : Value.okWide Try.prog W r b0 24 v)
    (h : DataW.Trod enc Try.prog W 0 (fun _ => true) true 24 v d ps) : ∃ N A n c cs, v = .agg #[.int .i64 N, .slice A n c] ∧ InCnf W N A n c cs := by
  obtain ⟨v0, v1, y0, y1, m, rfl, _, _, h0, h1⟩ := open_agg2 Try.underlying24 (by kernel_rfl) (by kernel_rfl) hv h
  obtain ⟨N, hN, _, hw⟩ := DataW.trod_int Try.underlying3 h0
  obtain ⟨A, n, c, cs, rfl, hR, hF⟩ := open_rows h1
  simp at hN
  subst hN
  exact ⟨N, A, n, c, cs, rfl, hR, hF, hw⟩
theorem open_steps {H : Type} {enc : TypeId × Value → H} {W : World} {a : Option Addr} {len cap : Nat} {d : DataW H} {ps : List MemPlace}
    (h : DataW.Trod enc Try.prog W 0 (fun _ => true) true 25 (.slice a len cap) d ps) : ∃ ts, InSteps W a len cap ts := by
  obtain ⟨fuel, hf⟩ := h
  rcases Deep.open_slice_pairs Try.underlying25 Try.underlying39 (by kernel_rfl) rfl rfl (by kernel_rfl) (by kernel_rfl) hf with ⟨hcs, _⟩ | ⟨x, l, c, m, n, V0, V1, D0, D1, P0, P1, hcs, _, hl, hm, hmm, _, hcell⟩
  · simp [Value.cells] at hcs
    obtain ⟨rfl, rfl, rfl⟩ := hcs
    exact ⟨[], ⟨rfl, Nat.le_refl _, by simp [maxLen], Reads.none_⟩, fun p hp => by cases hp⟩
  · simp [Value.cells] at hcs
    obtain ⟨rfl, rfl, rfl⟩ := hcs
    simp at hmm
    subst hmm
    have hi : ∀ i, i < len → ∃ p : TStep, V0 i = .int .i64 p.1 ∧ V1 i = .int .i64 p.2 ∧ (Lit.int .i64 p.1).wf = true ∧ (Lit.int .i64 p.2).wf = true := fun i hi => by
      obtain ⟨_, _, h0, h1⟩ := hcell i (by omega)
      obtain ⟨a, ha, _, hwa⟩ := DataW.trod_int Try.underlying3 h0
      obtain ⟨b, hb, _, hwb⟩ := DataW.trod_int Try.underlying3 h1
      simp at ha hb
      exact ⟨(a, b), ha, hb, hwa, hwb⟩
    have hex : ∃ f : Nat → TStep, ∀ i, i < len → V0 i = .int .i64 (f i).1 ∧ V1 i = .int .i64 (f i).2 ∧ (Lit.int .i64 (f i).1).wf = true ∧ (Lit.int .i64 (f i).2).wf = true :=
      ⟨fun i => if h : i < len then (hi i h).choose else (0, 0), fun i h => by simp only [dif_pos h]; exact (hi i h).choose_spec⟩
    obtain ⟨f, hf⟩ := hex
    refine ⟨(List.range len).map f, ⟨by simp, hl, hm, by rw [flat_len]; simp, fun h0 => ⟨x, rfl, ?_, fun j u hu => ?_⟩⟩, fun p hp => ?_⟩
    · have := World.block_lt_of_cell? W _ (hcell 0 (by omega)).1
      rwa [block_of_add] at this
    · have hj : j < len * 2 := by
        rcases Nat.lt_or_ge j (len * 2) with h | h
        · exact h
        · rw [List.getElem?_eq_none (by rw [flat_len]; simp; omega)] at hu; cases hu
      have hk : j / 2 < len := by omega
      obtain ⟨g0, g1⟩ := flat_get (ts := (List.range len).map f) (k := j / 2) (by simp; exact hk)
      have hd : ((List.range len).map f).getD (j / 2) (0, 0) = f (j / 2) := by
        rw [List.getD_eq_getElem?_getD, List.getElem?_map, List.getElem?_range hk]; rfl
      rw [hd] at g0 g1
      obtain ⟨k0, k1, _⟩ := hcell (j / 2) (by omega)
      obtain ⟨e0, e1, _⟩ := hf _ hk
      clear hd
      obtain ⟨q, hq⟩ : ∃ q, q = j / 2 := ⟨_, rfl⟩
      rw [← hq] at g0 g1 k0 k1 e0 e1
      rcases (by omega : j = q * 2 ∨ j = q * 2 + 1) with rfl | rfl
      · rw [g0] at hu
        rw [k0, e0, ← hu]
      · rw [g1] at hu
        rw [k1, e1, ← hu]
    · obtain ⟨i, hi', rfl⟩ := List.mem_map.1 hp
      exact (hf i (List.mem_range.1 hi')).2.2
end Go.Proofs.Ytelgabamdhaplaa
