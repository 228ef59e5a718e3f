/-
  A part of the proof of TopCrashRecovery: the row, the ties, the card.
-/
import Derived.Test.YtpncejdamjbnlaaGreatDoorZa
import Derived.Test.YtpncejdamjbnlaaGreatDoorRows
import GoSem.ClaimSeven
set_option linter.all false
section
namespace Go.Proofs.YtpncejdamjbnlaaGreatDoor
open Go
set_option maxRecDepth 100000
theorem tie_pin : ((Rows.topCrashRecoveryRow.laid.drop 16).all fun x => Tryz.pinned.checked.prog.pinnedFits x.1) = true := by kernel_rfl
theorem tie_datum (x : String × DataW Unit) (h : x ∈ Rows.topCrashRecoveryRow.laid.drop 16) : Pinned.datum x.1 = some x.2 := by
  simp only [Rows.topCrashRecoveryRow, List.drop_succ_cons, List.drop_zero, List.mem_singleton] at h
  subst h
  kernel_rfl
theorem zip_pinned {a b : List (String × DataW Unit)} : ∀ (k : List LaidKind), k.length = a.length → (∀ z ∈ k, z ≠ .pinned) → ∀ y ∈ (a ++ b).zip (k ++ b.map fun _ => LaidKind.pinned), y.2 = .pinned → y.1 ∈ b := by
  intro k hk hn y hy he
  rw [List.zip_append hk.symm] at hy
  rcases List.mem_append.1 hy with h | h
  · have h2 := (List.of_mem_zip (a := y.1) (b := y.2) h).2
    exact absurd he (hn _ h2)
  · exact (List.of_mem_zip (a := y.1) (b := y.2) h).1
theorem tie_pins : ∀ y ∈ Rows.topCrashRecoveryRow.laid.zip [.data, .data, .data, .data, .data, .sentinel, .sentinel, .listed, .data, .mapped, .mapped, .mapped, .widerDeep, .data, .funcs, .funcs, .pinned], y.2 = LaidKind.pinned →
    Tryz.pinned.checked.prog.pinnedFits y.1.1 = true ∧ Pinned.datum y.1.1 = some y.1.2 := fun y hy he => by
  have h := zip_pinned (a := tieL) (b := Rows.topCrashRecoveryRow.laid.drop 16) tieK rfl (fun z hz e => by subst e; simp [tieK] at hz) y hy he
  exact ⟨List.all_eq_true.1 tie_pin _ h, tie_datum _ h⟩
theorem tie_noUnsafe : Tryz.pinned.checked.prog.headLifts.contains "ownunsafe" = false := by kernel_rfl
theorem tie_fits : Tryz.pinned.checked.prog.listedFits Rows.topCrashRecoveryRow.laid = true := by
  unfold Program.listedFits
  rw [tie_noUnsafe]
  kernel_rfl
end Go.Proofs.YtpncejdamjbnlaaGreatDoor
end
section
namespace Go.Proofs.YtpncejdamjbnlaaGreatDoor
open Go
set_option maxRecDepth 100000
theorem goes_none : Tryz.prog.funcs.any Func.goes = false := by kernel_rfl
theorem goes_any {P : Program} (h : P.funcs.any Func.goes = false) (f : FuncId) : P.goes f = false := by
  unfold Program.goes
  rw [h, Bool.and_false, Bool.or_false]
  refine List.any_eq_false.2 fun g _ hg => ?_
  cases hf : P.funcs[g]? with
  | none => rw [hf] at hg; cases hg
  | some fn =>
    rw [hf] at hg
    obtain ⟨hlt, rfl⟩ := Array.getElem?_eq_some_iff.1 hf
    have := (Array.any_eq_false.1 h) g hlt
    exact this hg
theorem goes_row {P : Program} (h : P.funcs.any Func.goes = false) (func : String) : P.goesAt .entering func = false := by
  unfold Program.goesAt Program.goesFrom
  cases P.funcNamed func with
  | none => rfl
  | some f => show (P.goes f || false) = false; rw [goes_any h]; rfl
end Go.Proofs.YtpncejdamjbnlaaGreatDoor
end
