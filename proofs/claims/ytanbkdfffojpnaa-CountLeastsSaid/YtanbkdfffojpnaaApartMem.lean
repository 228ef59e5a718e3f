/-
  What 'apart' says of each literal.
-/
import Derived.Test.YtanbkdfffojpnaaTotSpec
namespace Go.Proofs.Ytanbkdfffojpnaa
theorem apartG_mem16 {next : Int} : ∀ {l seen : List Int}, apartG next seen l = true → ∀ x ∈ l, (x.natAbs : Int) < next ∧ x ≠ 0
  | [], _, _, x, hx => by cases hx
  | y :: r, seen, h, x, hx => by
    rw [apartG] at h
    split at h
    · cases h
    · rename_i hc
      rcases List.mem_cons.1 hx with rfl | hx
      · exact ⟨by have := fun q => hc (.inr (.inl q)); omega, fun e => hc (.inl (by simp [e]))⟩
      · exact apartG_mem16 h x hx
end Go.Proofs.Ytanbkdfffojpnaa
