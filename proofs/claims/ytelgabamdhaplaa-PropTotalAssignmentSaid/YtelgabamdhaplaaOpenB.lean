/-
  WHAT THE ROW's READING GIVES OF AN ARGUMENT: a slice of bools.
-/
import Derived.Test.YtelgabamdhaplaaOpen
import Derived.Test.YtelgabamdhaplaaCnf
import Derived.Deep.Grids
namespace Go.Proofs.Ytelgabamdhaplaa
open Go.ChangeShapes Go.WideShapes Go.ChangeAt Go.RowKit

theorem open_bools {H : Type} {enc : TypeId × Value → H} {W : World} {a : Option Addr} {len cap : Nat} {d : DataW H} {ps : List MemPlace}
    (h : DataW.Trod enc Try.prog W 0 (fun _ => true) true 48 (.slice a len cap) d ps) : ∃ bs, Bools W a len cap bs := by
  obtain ⟨fuel, hf⟩ := h
  rcases Deep.open_bools Try.underlying48 Try.underlying4 (by kernel_rfl) hf with ⟨hcs, _⟩ | ⟨x, l, c, B, hcs, _, hl, hm, _, hcell⟩
  · simp [Value.cells] at hcs
    obtain ⟨rfl, rfl, rfl⟩ := hcs
    exact ⟨[], rfl, Nat.le_refl _, by simp [maxLen], Reads.none_⟩
  · simp [Value.cells] at hcs
    obtain ⟨rfl, rfl, rfl⟩ := hcs
    refine ⟨(List.range len).map B, by simp, hl, hm, by simp, fun hn => ⟨x, rfl, ?_, fun j u hu => ?_⟩⟩
    · have h2 := World.block_lt_of_cell? W _ (hcell 0 (by omega))
      rwa [block_of_add] at h2
    · simp only [List.map_map, List.getElem?_map, List.getElem?_range] at hu
      by_cases hj : j < len
      · rw [hcell j (by omega)]
        rw [List.getElem?_range hj] at hu
        simpa using hu
      · rw [List.getElem?_eq_none (by simp; omega)] at hu
        cases hu
end Go.Proofs.Ytelgabamdhaplaa
