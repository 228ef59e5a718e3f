/-
  The plain laws: propagation is sound; over a total trail it decides.
-/
import Derived.Test.YtelgabamdhaplaaPropLaw
import Derived.Test.YtelgabamdhaplaaValue
namespace Go.Proofs.Ytelgabamdhaplaa
open Go.RowKit

theorem litT_neg {x : Int} {a : List Bool} (h0 : x ≠ 0) (h1 : -65536 ≤ x) (h2 : x ≤ 65536) : litT (-x) a = !litT x a := by
  have m1 : mayB x 65536 = true := by simp only [mayB, decide_eq_true_eq]; omega
  have m2 : mayB (-x) 65536 = true := by simp only [mayB, decide_eq_true_eq]; omega
  unfold litT
  rw [m1, m2, if_pos rfl, if_pos rfl, Int.natAbs_neg]
  by_cases h : 0 < x
  · rw [decide_eq_true h, decide_eq_false (by omega)]
    cases varT a x.natAbs <;> rfl
  · rw [decide_eq_false h, decide_eq_true (by omega)]
    cases varT a x.natAbs <;> rfl
theorem lits_append (a b : List TStep) : lits (a ++ b) = lits a ++ lits b := by unfold lits; rw [List.map_append]

/-- SOUND: whatever satisfies the clauses and the decisions satisfies the trail. -/
theorem trail_sound {N : Int} {cs : List (List Int)} {a : List Bool} (hN : N ≤ 65536) (hcs : ∀ l ∈ cs, ∀ x ∈ l, x ≠ 0 ∧ -N ≤ x ∧ x ≤ N) (hv : ∀ l ∈ cs, holdsT l a = true) :
    ∀ (ts : List TStep) (known : List Int), trailG N cs known ts = true → (∀ x ∈ known, litT x a = true) → (∀ p ∈ ts, p.2 < 0 → litT p.1 a = true) → ∀ x ∈ lits ts, litT x a = true
  | [], _, _, _, _, x, hx => by cases hx
  | p :: r, known, ht, hk, hd, x, hx => by
    simp only [trailG] at ht
    by_cases hs : stepOK N cs known p
    · rw [if_pos hs] at ht
      have hp : litT p.1 a = true := by
        by_cases h0 : p.2 < 0
        · exact hd p (by simp) h0
        · have hb := hs.2 (by omega)
          unfold byOK at hb
          simp only [Bool.and_eq_true, decide_eq_true_eq, Bool.not_eq_true'] at hb
          have hlt : p.2.toNat < cs.length := by have := hs.1.2.2.2.2.2; omega
          have hmem : cs.getD p.2.toNat [] ∈ cs := by rw [List.getD_eq_getElem?_getD, List.getElem?_eq_getElem hlt]; simp
          have hh := hv _ hmem
          unfold holdsT at hh
          obtain ⟨y, hy, hyt⟩ := List.any_eq_true.1 hh
          have ho := List.any_eq_false.1 hb.2 y hy
          unfold openB at ho
          simp only [Bool.and_eq_true, Bool.not_eq_true', beq_eq_false_iff_ne, decide_eq_false_iff_not, not_and, Classical.not_not] at ho
          by_cases hyp : y = p.1
          · rw [← hyp]; exact hyt
          · have := hk _ (ho hyp)
            obtain ⟨q0, q1, q2⟩ := hcs _ hmem y hy
            rw [litT_neg q0 (by omega) (by omega), hyt] at this
            cases this
      rcases List.mem_cons.1 hx with h | h
      · rw [h]; exact hp
      · refine trail_sound hN hcs hv r (p.1 :: known) ht (fun y hy => ?_) (fun q hq => hd q (by simp [hq])) x h
        rcases List.mem_cons.1 hy with h' | h'
        · rw [h']; exact hp
        · exact hk y h'
    · rw [if_neg hs] at ht; cases ht

theorem value_all {N : Int} {cs : List (List Int)} {a : List Bool} (h : valueT N cs a = true) : checkR N cs = 0 ∧ ∀ l ∈ cs, holdsT l a = true := by
  unfold valueT at h
  simp only [Bool.and_eq_true, decide_eq_true_eq, Bool.not_eq_true'] at h
  refine ⟨h.1, fun l hl => ?_⟩
  have := List.any_eq_false.1 h.2 l hl
  simpa using this
theorem prop_sound {N : Int} {cs : List (List Int)} {a : List Bool} {ts x : List TStep} {conflict : Int} (h : PropOut N cs ts x conflict) (hv : valueT N cs a = true) (hd : ∀ p ∈ ts, p.2 < 0 → litT p.1 a = true) :
    conflict = -1 ∧ ∀ y ∈ lits x, litT y a = true := by
  obtain ⟨hc, hall⟩ := value_all hv
  obtain ⟨_, hN, hcs, _⟩ := checkR_zero hc
  obtain ⟨e, he, hpos⟩ := h.ext
  have ht := trail_sound hN hcs hall x [] h.trail (fun y hy => by cases hy) (fun p hp h0 => by
    rw [he] at hp
    rcases List.mem_append.1 hp with hp | hp
    · exact hd p hp h0
    · have := hpos p hp; omega)
  refine ⟨?_, ht⟩
  rcases h.ans with ⟨h1, _⟩ | ⟨i, _, hi, hf⟩
  · exact h1
  · exfalso
    have hmem : cs.getD i [] ∈ cs := by rw [List.getD_eq_getElem?_getD, List.getElem?_eq_getElem hi]; simp
    have hh := hall _ hmem
    unfold holdsT at hh
    obtain ⟨y, hy, hyt⟩ := List.any_eq_true.1 hh
    have := ht _ (hf y hy)
    obtain ⟨q0, q1, q2⟩ := hcs _ hmem y hy
    rw [litT_neg q0 (by omega) (by omega), hyt] at this
    cases this

/-- The total trail of an assignment. -/
def decT (a : List Bool) (v : Nat) : TStep := (if varT a v = true then (v : Int) else -(v : Int), -1)
def trailT (a : List Bool) (k : Nat) : List TStep := (List.range k).map fun i => decT a (i + 1)
theorem trailT_snoc (a : List Bool) (k : Nat) : trailT a (k + 1) = trailT a k ++ [decT a (k + 1)] := by
  unfold trailT; rw [List.range_succ, List.map_append]; rfl
theorem trailT_len (a : List Bool) (k : Nat) : (trailT a k).length = k := by simp [trailT]
theorem decT_abs (a : List Bool) (v : Nat) : (decT a v).1.natAbs = v := by unfold decT; split <;> simp
theorem trailT_mem {a : List Bool} {k : Nat} {x : Int} : x ∈ lits (trailT a k) ↔ ∃ v, 1 ≤ v ∧ v ≤ k ∧ x = (decT a v).1 := by
  unfold lits trailT
  simp only [List.map_map, List.mem_map, List.mem_range, Function.comp]
  constructor
  · rintro ⟨i, hi, rfl⟩; exact ⟨i + 1, by omega, by omega, rfl⟩
  · rintro ⟨v, h1, h2, rfl⟩; exact ⟨v - 1, by omega, by rw [show v - 1 + 1 = v by omega]⟩
theorem trailT_ok {N : Int} {cs : List (List Int)} {a : List Bool} : ∀ (k : Nat), (k : Int) ≤ N → trailG N cs [] (trailT a k) = true
  | 0, _ => rfl
  | k + 1, h => by
    rw [trailT_snoc, trailG_snoc]
    refine ⟨trailT_ok k (by omega), ⟨?_, ?_, ?_, ?_, ?_, ?_⟩, fun h0 => ?_⟩
    · have := decT_abs a (k + 1); omega
    · have := decT_abs a (k + 1); omega
    · have := decT_abs a (k + 1); omega
    · rw [isKnown_mem]
      have ha := decT_abs a (k + 1)
      constructor
      · intro hm
        obtain ⟨v, h1, h2, hv⟩ := trailT_mem.1 (List.mem_reverse.1 hm)
        have := decT_abs a v
        rw [hv] at ha; omega
      · intro hm
        obtain ⟨v, h1, h2, hv⟩ := trailT_mem.1 (List.mem_reverse.1 hm)
        have := decT_abs a v
        rw [← hv] at this; omega
    · exact Int.le_refl _
    · have : (decT a (k + 1)).2 = -1 := rfl
      omega
    · have : (decT a (k + 1)).2 = -1 := rfl
      omega
theorem total_check {N : Int} {cs : List (List Int)} {a : List Bool} (h : checkR N cs = 0) : checkS N cs (trailT a N.toNat) = 0 := by
  have h0 := (checkR_zero h).1
  unfold checkS
  rw [if_neg (by omega), if_pos (trailT_ok _ (by omega))]
theorem total_mem {N : Int} {a : List Bool} {x : Int} (hN : N ≤ 65536) (h0 : x ≠ 0) (h1 : -N ≤ x) (h2 : x ≤ N) : x ∈ lits (trailT a N.toNat) ↔ litT x a = true := by
  have hm : mayB x 65536 = true := by simp only [mayB, decide_eq_true_eq]; omega
  rw [trailT_mem]
  unfold litT
  rw [hm, if_pos rfl]
  constructor
  · rintro ⟨v, g1, g2, rfl⟩
    rw [decT_abs]
    unfold decT
    cases hv : varT a v
    · simp
    · simp; omega
  · intro h
    refine ⟨x.natAbs, by omega, by omega, ?_⟩
    unfold decT
    by_cases hx : 0 < x
    · rw [decide_eq_true hx] at h
      have h' : varT a x.natAbs = true := by simpa using h
      rw [h', if_pos rfl]; omega
    · rw [decide_eq_false hx] at h
      have h' : varT a x.natAbs = false := by simpa using h
      rw [h', if_neg (by simp)]; omega
theorem total_out {N : Int} {cs : List (List Int)} {a : List Bool} {x : List TStep} {conflict : Int} (hc : checkR N cs = 0) (h : PropOut N cs (trailT a N.toNat) x conflict) :
    x.length = N.toNat ∧ (conflict == -1) = valueT N cs a := by
  obtain ⟨hN0, hN, hcs, _⟩ := checkR_zero hc
  obtain ⟨e, he, _⟩ := h.ext
  have hl := trail_len h.trail
  have hx : x = trailT a N.toNat := by
    have : e = [] := List.eq_nil_of_length_eq_zero (by rw [he, List.length_append, trailT_len] at hl; omega)
    rw [he, this, List.append_nil]
  refine ⟨by rw [hx, trailT_len], ?_⟩
  have ans := h.ans
  rw [hx] at ans
  clear h he hl hx
  have hmem : ∀ i, i < cs.length → cs.getD i [] ∈ cs := fun i hi => by rw [List.getD_eq_getElem?_getD, List.getElem?_eq_getElem hi]; simp
  rcases ans with ⟨h1, h2⟩ | ⟨i, h1, hi, hf⟩
  · have : valueT N cs a = true := by
      unfold valueT
      simp only [Bool.and_eq_true, decide_eq_true_eq, Bool.not_eq_true']
      refine ⟨hc, List.any_eq_false.2 fun l hl => ?_⟩
      obtain ⟨i, hi, rfl⟩ := List.mem_iff_getElem.1 hl
      have hd : cs.getD i [] = cs[i] := by rw [List.getD_eq_getElem?_getD, List.getElem?_eq_getElem hi]; rfl
      have h3 := h2 i hi
      rw [hd] at h3
      have hh : holdsT cs[i] a = true := by
        unfold holdsT
        rw [List.any_eq_true]
        rcases h3 with ⟨y, hy, hk⟩ | ⟨y, _, hy, _, _, hk, _⟩
        · obtain ⟨q0, q1, q2⟩ := hcs _ hl y hy
          exact ⟨y, hy, (total_mem hN q0 q1 q2).1 hk⟩
        · obtain ⟨q0, q1, q2⟩ := hcs _ hl y hy
          refine ⟨y, hy, ?_⟩
          have : ¬ litT (-y) a = true := fun h => hk ((total_mem hN (by omega) (by omega) (by omega)).2 h)
          rw [litT_neg q0 (by omega) (by omega)] at this
          simpa using this
      rw [hh]; simp
    rw [this, h1]; rfl
  · have : valueT N cs a = false := by
      cases hv : valueT N cs a
      · rfl
      · exfalso
        have hh := (value_all hv).2 _ (hmem i hi)
        unfold holdsT at hh
        obtain ⟨y, hy, hyt⟩ := List.any_eq_true.1 hh
        obtain ⟨q0, q1, q2⟩ := hcs _ (hmem i hi) y hy
        have := (total_mem hN (by omega) (by omega) (by omega)).1 (hf y hy)
        rw [litT_neg q0 (by omega) (by omega), hyt] at this
        cases this
    rw [this, h1]
    simp
end Go.Proofs.Ytelgabamdhaplaa
