/-
  WHAT THE ROW's READING GIVES OF AN ARGUMENT: a slice of ints.
-/
import Derived.Test.YtelgabamdhaplaaBase
namespace Go.Proofs.Ytelgabamdhaplaa
open Go.ChangeShapes Go.WideShapes Go.ChangeAt Go.RowKit

/-- A slice of ints that came in. -/
structure InInts (w : World) (A : Option Addr) (n c : Nat) (xs : List Int) : Prop where
  ints : Ints w (fun k => k < w.heap.size) A n c xs
  fits : Fits xs
theorem open_ints {H : Type} {enc : TypeId × Value → H} {W : World} {a : Option Addr} {len cap : Nat} {d : DataW H} {ps : List MemPlace}
    (h : DataW.Trod enc Try.prog W 0 (fun _ => true) true 29 (.slice a len cap) d ps) : ∃ xs, InInts W a len cap xs := by
  obtain ⟨fuel, hf⟩ := h
  rcases ChangeShapes.open_ints Try.underlying29 Try.underlying3 (by kernel_rfl) hf with ⟨hcs, _⟩ | ⟨x, l, c, zs, hcs, _, hl, hm, hz, _, hcell, hwz⟩
  · simp [Value.cells] at hcs
    obtain ⟨rfl, rfl, rfl⟩ := hcs
    exact ⟨[], Ints.nil_, fun x hx => by cases hx⟩
  · simp [Value.cells] at hcs
    obtain ⟨rfl, rfl, rfl⟩ := hcs
    have hz' : zs.length = cap := by simpa using hz
    refine ⟨zs.take len, ⟨by simp; omega, hl, hm, by simp; omega, fun hn => ⟨x, rfl, ?_, fun j u hu => ?_⟩⟩, fun y hy => hwz y (List.mem_of_mem_take hy)⟩
    · have := hcell 0 (by omega)
      have h2 := World.block_lt_of_cell? W _ this
      rwa [block_of_add] at h2
    · simp only [List.map_take, List.getElem?_take, List.getElem?_map] at hu
      split at hu
      · rename_i hj
        rw [hcell j (by omega)]
        rw [List.getElem?_eq_getElem (by omega)] at hu
        simp at hu
        rw [← hu, List.getD_eq_getElem?_getD, List.getElem?_eq_getElem (by omega)]; rfl
      · cases hu
end Go.Proofs.Ytelgabamdhaplaa
