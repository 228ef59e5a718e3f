/-
  A part of the proof of TopCrashRecovery: the row, the ties, the card.
-/
import Derived.Test.YtpncejdamjbnlaaGreatDoorZa
set_option linter.all false
namespace Go.Proofs.YtpncejdamjbnlaaGreatDoor
open Go
set_option maxRecDepth 100000
noncomputable def tieP : List (String × DataW Unit) := tieL.filter fun x => x.2.funcsIn?.isNone
noncomputable def doorFuncs (P : Program) (n f : Nat) (L : List String) (os : Os) (tape : Tape) : Option (List (DataW (List UInt8))) :=
  match runN P n (Machine.entering P (World.unlaid P os) tape (varsId P) ⟨#[], #[], []⟩) with
  | .ended (.done _) w => funcsRun P w.memory f L
  | _ => none
theorem tie_run0 (os : Os) (tape : Tape) : doorLeaves Tryz.prog 448 8 257 tieP os tape = some (tieL.filter fun x => x.2.handleName?.isNone, []) := by kernel_rfl
theorem tie_run1 (os : Os) (tape : Tape) : doorFuncs Tryz.prog 448 8 ((funcsListed tieL).map (·.1)) os tape = some ((funcsListed tieL).map (·.2.funcsOut)) := by kernel_rfl
theorem doorLeaves_of_parts {P : Program} {n f M : Nat} {K L : List (String × DataW Unit)} {os : Os} {tape : Tape} {x : List (String × DataW Unit)} {y : List (DataW (List UInt8))}
    (p : K.filter (·.2.handleName?.isNone) = L.filter (·.2.handleName?.isNone))
    (q : (K.filter fun x => x.2.handleName?.isSome && x.2.funcsIn?.isNone) = L.filter fun x => x.2.handleName?.isSome && x.2.funcsIn?.isNone)
    (h : doorLeaves P n f M K os tape = some (x, [])) (k : doorFuncs P n f ((funcsListed L).map (·.1)) os tape = some y) : doorLeaves P n f M L os tape = some (x, y) := by
  unfold doorLeaves at h ⊢
  unfold doorFuncs at k
  rw [p, q] at h
  split at h
  · rename_i e
    rw [e] at k
    simp only [Option.bind_eq_some_iff] at h ⊢
    obtain ⟨z, i, h⟩ := h
    split at h
    · obtain ⟨_, _, h⟩ := Option.map_eq_some_iff.1 h
      cases h
      exact ⟨z, i, by simp_all⟩
    · cases h
  · cases h
theorem tie_run (os : Os) (tape : Tape) : doorLeaves Tryz.prog 448 8 257 tieL os tape = some (tieL.filter fun x => x.2.handleName?.isNone, (funcsListed tieL).map (·.2.funcsOut)) :=
  doorLeaves_of_parts (by kernel_rfl) (by kernel_rfl) (tie_run0 os tape) (tie_run1 os tape)
end Go.Proofs.YtpncejdamjbnlaaGreatDoor
