/-
  The chapter's examples: what Prop must answer there.
-/
import Derived.Test.YtelgabamdhaplaaPropLaw
namespace Go.Proofs.Ytelgabamdhaplaa
open Go.RowKit

def calmB (known l : List Int) : Bool := l.any (fun x => decide (x ∈ known)) || l.any (fun x => l.any (fun y => decide (x ≠ y ∧ -x ∉ known ∧ -y ∉ known)))
theorem calm_b {known l : List Int} (h : Calm known l) : calmB known l = true := by
  unfold calmB
  rcases h with ⟨x, hx, hk⟩ | ⟨x, y, hx, hy, h1, h2, h3⟩
  · simp only [Bool.or_eq_true, List.any_eq_true, decide_eq_true_eq]
    exact .inl ⟨x, hx, hk⟩
  · simp only [Bool.or_eq_true, List.any_eq_true, decide_eq_true_eq]
    exact .inr ⟨x, hx, y, hy, h1, h2, h3⟩
def falseB (known l : List Int) : Bool := l.all (fun x => decide (-x ∈ known))
/-- Which implied steps are valid next? -/
def cand (N : Int) (cs : List (List Int)) (known : List Int) : List TStep := ((List.range cs.length).flatMap (fun b => (cs.getD b []).map (fun a => (a, (b : Int))))).filter (fun p => decide (stepOK N cs known p))
theorem cand_mem {N : Int} {cs : List (List Int)} {known : List Int} {p : TStep} (h : stepOK N cs known p) (h0 : 0 ≤ p.2) : p ∈ cand N cs known := by
  unfold cand
  rw [List.mem_filter]
  refine ⟨?_, by simpa using h⟩
  rw [List.mem_flatMap]
  have hb := h.2 h0
  unfold byOK at hb
  simp only [Bool.and_eq_true, decide_eq_true_eq] at hb
  refine ⟨p.2.toNat, by have := h.1.2.2.2.2.2; simp; omega, List.mem_map.2 ⟨p.1, hb.1, ?_⟩⟩
  rw [Int.toNat_of_nonneg h0]
theorem trail_step {N : Int} {cs : List (List Int)} {ts : List TStep} {p : TStep} {e : List TStep} (h : trailG N cs [] (ts ++ p :: e) = true) : stepOK N cs (lits ts).reverse p := by
  have : ts ++ p :: e = (ts ++ [p]) ++ e := by simp
  rw [this, trailG_append] at h
  simp only [Bool.and_eq_true] at h
  exact (trailG_snoc.1 h.1).2
/-- Neither answer fits these literals. -/
def stuckB (cs : List (List Int)) (known : List Int) : Bool := cs.any (fun l => !calmB known l) && cs.all (fun l => !falseB known l)
theorem stuck_no {N : Int} {cs : List (List Int)} {ts x : List TStep} {conflict : Int} (h : PropOut N cs ts x conflict) (hs : stuckB cs (lits x) = true) : False := by
  unfold stuckB at hs
  simp only [Bool.and_eq_true, List.any_eq_true, List.all_eq_true, Bool.not_eq_true'] at hs
  obtain ⟨⟨l, hl, hc⟩, h2⟩ := hs
  rcases h.ans with ⟨_, h1⟩ | ⟨i, _, hi, h1⟩
  · obtain ⟨i, hi, rfl⟩ := List.mem_iff_getElem.1 hl
    have := calm_b (h1 i hi)
    rw [List.getD_eq_getElem?_getD, List.getElem?_eq_getElem hi] at this
    simp at this
    rw [this] at hc
    cases hc
  · have := h2 (cs.getD i []) (by rw [List.getD_eq_getElem?_getD, List.getElem?_eq_getElem hi]; simp)
    unfold falseB at this
    rw [List.all_eq_false] at this
    obtain ⟨y, hy, hn⟩ := this
    exact hn (by simpa using h1 y hy)
theorem conf_no {N : Int} {cs : List (List Int)} {ts x : List TStep} {conflict : Int} (h : PropOut N cs ts x conflict) (hs : cs.all (fun l => !falseB (lits x) l) = true) : conflict = -1 := by
  rcases h.ans with ⟨h0, _⟩ | ⟨i, _, hi, h1⟩
  · exact h0
  · have := (List.all_eq_true.1 hs) (cs.getD i []) (by rw [List.getD_eq_getElem?_getD, List.getElem?_eq_getElem hi]; simp)
    simp only [Bool.not_eq_true'] at this
    unfold falseB at this
    rw [List.all_eq_false] at this
    obtain ⟨y, hy, hn⟩ := this
    exact absurd (by simpa using h1 y hy) hn
theorem conf_yes {N : Int} {cs : List (List Int)} {ts x : List TStep} {conflict : Int} (h : PropOut N cs ts x conflict) (hs : cs.any (fun l => !calmB (lits x) l) = true) : 0 ≤ conflict ∧ conflict < cs.length := by
  rcases h.ans with ⟨_, h1⟩ | ⟨i, h0, hi, _⟩
  · simp only [List.any_eq_true, Bool.not_eq_true'] at hs
    obtain ⟨l, hl, hc⟩ := hs
    obtain ⟨i, hi, rfl⟩ := List.mem_iff_getElem.1 hl
    have := calm_b (h1 i hi)
    rw [List.getD_eq_getElem?_getD, List.getElem?_eq_getElem hi] at this
    simp at this
    rw [this] at hc
    cases hc
  · omega

theorem live_x {x : List TStep} {conflict : Int} (h : PropOut 3 [[-1, 2], [-2, 3]] [(1, -1)] x conflict) : x = [(1, -1), (2, 0), (3, 1)] ∧ conflict = -1 := by
  obtain ⟨e, rfl, he⟩ := h.ext
  have hl := trail_len h.trail
  match e, h, he, hl with
  | [], h, _, _ => exact (stuck_no h (by decide)).elim
  | [p], h, he, _ =>
    have hp := cand_mem (trail_step (ts := [(1, -1)]) (e := []) h.trail) (he p (by simp))
    rw [show cand 3 [[-1, 2], [-2, 3]] (lits [((1 : Int), (-1 : Int))]).reverse = [(2, 0)] from by decide] at hp
    simp at hp
    subst hp
    exact (stuck_no h (by decide)).elim
  | [p, q], h, he, _ =>
    have hp := cand_mem (trail_step (ts := [(1, -1)]) (e := [q]) h.trail) (he p (by simp))
    rw [show cand 3 [[-1, 2], [-2, 3]] (lits [((1 : Int), (-1 : Int))]).reverse = [(2, 0)] from by decide] at hp
    simp at hp
    subst hp
    have hq := cand_mem (trail_step (ts := [(1, -1), (2, 0)]) (e := []) h.trail) (he q (by simp))
    rw [show cand 3 [[-1, 2], [-2, 3]] (lits [((1 : Int), (-1 : Int)), (2, 0)]).reverse = [(3, 1)] from by decide] at hq
    simp at hq
    subst hq
    exact ⟨rfl, conf_no h (by decide)⟩
  | p :: q :: r :: e, _, _, hl => simp at hl
theorem live_y {x : List TStep} {conflict : Int} (h : PropOut 3 [[-1, 2], [-2, 3], [-1, -3]] [(1, -1)] x conflict) : 2 ≤ x.length ∧ 0 ≤ conflict ∧ conflict ≤ 2 := by
  obtain ⟨e, rfl, he⟩ := h.ext
  have hl := trail_len h.trail
  have fin : ∀ {x : List TStep}, PropOut 3 [[-1, 2], [-2, 3], [-1, -3]] [(1, -1)] x conflict → [[(-1 : Int), 2], [-2, 3], [-1, -3]].any (fun l => !calmB (lits x) l) = true → 0 ≤ conflict ∧ conflict ≤ 2 := fun h hs => by
    have := conf_yes h hs
    simp at this
    omega
  match e, h, he, hl with
  | [], h, _, _ => exact (stuck_no h (by decide)).elim
  | [p], h, he, _ =>
    have hp := cand_mem (trail_step (ts := [(1, -1)]) (e := []) h.trail) (he p (by simp))
    rw [show cand 3 [[-1, 2], [-2, 3], [-1, -3]] (lits [((1 : Int), (-1 : Int))]).reverse = [(2, 0), (-3, 2)] from by decide] at hp
    simp at hp
    rcases hp with rfl | rfl
    · exact (stuck_no h (by decide)).elim
    · exact (stuck_no h (by decide)).elim
  | [p, q], h, he, _ =>
    have hp := cand_mem (trail_step (ts := [(1, -1)]) (e := [q]) h.trail) (he p (by simp))
    rw [show cand 3 [[-1, 2], [-2, 3], [-1, -3]] (lits [((1 : Int), (-1 : Int))]).reverse = [(2, 0), (-3, 2)] from by decide] at hp
    simp at hp
    rcases hp with rfl | rfl
    · have hq := cand_mem (trail_step (ts := [(1, -1), (2, 0)]) (e := []) h.trail) (he q (by simp))
      rw [show cand 3 [[-1, 2], [-2, 3], [-1, -3]] (lits [((1 : Int), (-1 : Int)), (2, 0)]).reverse = [(3, 1), (-3, 2)] from by decide] at hq
      simp at hq
      rcases hq with rfl | rfl
      · exact ⟨by simp, fin h (by decide)⟩
      · exact ⟨by simp, fin h (by decide)⟩
    · have hq := cand_mem (trail_step (ts := [(1, -1), (-3, 2)]) (e := []) h.trail) (he q (by simp))
      rw [show cand 3 [[-1, 2], [-2, 3], [-1, -3]] (lits [((1 : Int), (-1 : Int)), (-3, 2)]).reverse = [(2, 0), (-2, 1)] from by decide] at hq
      simp at hq
      rcases hq with rfl | rfl
      · exact ⟨by simp, fin h (by decide)⟩
      · exact ⟨by simp, fin h (by decide)⟩
  | p :: q :: r :: e, _, _, hl => simp at hl
theorem live_z {x : List TStep} {conflict : Int} (h : PropOut 0 [[]] [] x conflict) : conflict = 0 := by
  have hl := trail_len h.trail
  match x, h, hl with
  | [], h, _ =>
    have := conf_yes h (by decide)
    simp at this
    omega
  | p :: e, _, hl => simp at hl
end Go.Proofs.Ytelgabamdhaplaa
