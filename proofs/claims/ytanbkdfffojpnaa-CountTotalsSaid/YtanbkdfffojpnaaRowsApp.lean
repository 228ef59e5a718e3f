/-
  Slices of slices appended: the new slice reads as the joined list.
-/
import Derived.Test.YtanbkdfffojpnaaBase
namespace Go.Proofs.Ytanbkdfffojpnaa
open Go.RowKit

/-- The values rows read as the lists css. -/
def RowsRead (w : World) (rows : List Value) (css : List (List Int)) : Prop :=
  rows.length = css.length ∧ ∀ (i : Nat) (r : Value), rows[i]? = some r → ∃ A' n' c' cs, r = .slice A' n' c' ∧ css[i]? = some cs ∧ Ints w (Lt w) A' n' c' cs
theorem Rows2.parts {w : World} {A : Option Addr} {n c : Nat} {css : List (List Int)} (h : Rows2 w A n c css) : ∃ rows, Reads w (Lt w) 1 A n rows ∧ RowsRead w rows css := by
  obtain ⟨h1, h2, h3, rows, hr, hrr⟩ := h
  exact ⟨rows, hr, by have := hr.1; omega, hrr⟩
theorem RowsRead.belowLt {w w' : World} {rows : List Value} {css : List (List Int)} (h : RowsRead w rows css) (hb : Below w.heap.size w w') : RowsRead w' rows css :=
  ⟨h.1, fun i r hi => by
    obtain ⟨A', n', c', cs, e, hcs, hI⟩ := h.2 i r hi
    exact ⟨A', n', c', cs, e, hcs, hI.belowLt hb⟩⟩
theorem RowsRead.nil_ (w : World) : RowsRead w [] [] := ⟨rfl, fun i r h => by simp at h⟩
theorem RowsRead.append {w : World} {r1 r2 : List Value} {c1 c2 : List (List Int)} (h1 : RowsRead w r1 c1) (h2 : RowsRead w r2 c2) : RowsRead w (r1 ++ r2) (c1 ++ c2) := by
  refine ⟨by rw [List.length_append, List.length_append, h1.1, h2.1], fun i r hi => ?_⟩
  by_cases h : i < r1.length
  · rw [List.getElem?_append_left h] at hi
    obtain ⟨A', n', c', cs, e, hcs, hI⟩ := h1.2 i r hi
    exact ⟨A', n', c', cs, e, by rw [List.getElem?_append_left (by have := h1.1; omega)]; exact hcs, hI⟩
  · rw [List.getElem?_append_right (by omega)] at hi
    obtain ⟨A', n', c', cs, e, hcs, hI⟩ := h2.2 _ r hi
    exact ⟨A', n', c', cs, e, by rw [List.getElem?_append_right (by have := h1.1; omega), ← h1.1]; exact hcs, hI⟩
theorem RowsRead.oneCell {w : World} {rows : List Value} {css : List (List Int)} (h : RowsRead w rows css) : ∀ u ∈ rows, u.oneCell' = true := fun u hu => by
  obtain ⟨i, hi⟩ := List.getElem?_of_mem hu
  obtain ⟨A', n', c', cs, rfl, _⟩ := h.2 i u hi
  rfl
theorem Rows2.of_read {w : World} {base : Nat} {A : Option Addr} {n c : Nat} {rows : List Value} {css : List (List Int)} (h : w.ownsRow base 22 1 (.slice A n c) n rows) (hr : RowsRead w rows css) : Rows2 w A n c css := by
  have hx : n ≤ c ∧ c ≤ maxLen := by
    rcases h.2 with ⟨hv, hn⟩ | ⟨g, cap, cur, hv, _, _, hc, hm, _⟩
    · injection hv with _ _ hcap; subst hn hcap; simp [maxLen]
    · injection hv with _ _ hcap; subst hcap; exact ⟨hc, hm⟩
  have hl : rows.length = n := by have := h.1; omega
  exact ⟨by have := hr.1; omega, hx.1, hx.2, rows, (Reads.of_own h).more fun _ h => h.2, hr.2⟩
end Go.Proofs.Ytanbkdfffojpnaa
