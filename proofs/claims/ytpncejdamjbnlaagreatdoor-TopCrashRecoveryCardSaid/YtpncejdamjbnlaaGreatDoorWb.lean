/-
  A part of the proof of TopCrashRecovery: a world that meets the condition of the row.
-/
import Derived.Test.YtpncejdamjbnlaaGreatDoorWa
set_option linter.all false
namespace Go.Proofs.YtpncejdamjbnlaaGreatDoor
open Go
noncomputable def wCall (os : Os) (args : Array Value) : World := ((wWorld os).forCall (fun _ _ => 0) ⟨#[], args, []⟩)
noncomputable def wMem (os : Os) (args : Array Value) : World := (wCall os args).memory
theorem memory_heap (w : World) (args : Array Value) : (w.forCall (fun _ _ => 0) ⟨#[], args, []⟩).memory.heap = w.heap := by simp [World.memory, World.forCall, Input.heap]
theorem wMem_heap (os : Os) (args : Array Value) : (wMem os args).heap = (wWorld os).heap := memory_heap _ _
theorem layVars_keeps {P : Program} {w : World} {l : List (String × DataW Unit)} {B : List Nat} (h : w.layFits P l B = true) : ∀ k ∈ B, (w.layVars P l).heap[k]? = w.heap[k]? := by
  intro k m
  unfold World.layFits at h
  unfold World.layVars
  split at h
  · rename_i y _
    simp only [Bool.and_eq_true, List.all_eq_true, decide_eq_true_eq, Bool.not_eq_true'] at h
    have n : k ∉ y.1.map (·.1) := by
      intro e
      obtain ⟨r, hr, e⟩ := List.mem_map.1 e
      have := (h.1.2 r hr).2
      simp_all
    have t := h.2 k m
    simp only [List.getElem?_toArray]
    rw [List.getElem?_append_left (by rw [Lay.setRows_length]; simpa), Lay.setRows_other _ _ _ n]
    simp
  · cases h
def funcsKept (P : Program) (w : World) (n : Nat) (B : List Nat) : List String → Option (List (DataW (List UInt8)))
  | [] => some []
  | s :: l => (P.globalNamed s).bind fun g => ((P.globals[g]?).map (·.type)).bind fun t => (w.var? P s).bind fun c => (DataW.trod (funcToken P) P w 0 (fun _ => true) true n t c.toList).bind fun x =>
      if B.contains g && x.2.all (B.contains ·.block) then (funcsKept P w n B l).map (x.1 :: ·) else none
theorem funcsKept_run {P : Program} {w v : World} {n : Nat} {B : List Nat} (h : ∀ k ∈ B, v.heap[k]? = w.heap[k]?) : ∀ {l : List String} {y}, funcsKept P w n B l = some y → funcsRun P v n l = some y
  | [], _, e => e
  | s :: l, y, e => by
    simp only [funcsKept, Option.bind_eq_some_iff] at e
    obtain ⟨g, e1, t, e2, c, e3, x, e4, e⟩ := e
    split at e
    · rename_i q
      simp only [Bool.and_eq_true, List.all_eq_true, List.contains_iff_mem] at q
      obtain ⟨z, e5, rfl⟩ := Option.map_eq_some_iff.1 e
      have e6 : v.var? P s = some c := by
        rw [← e3]
        simp only [World.var?, e1, Option.bind_some, h g q.1]
      have e7 := DataW.trod_carry (w' := v) _ _ _ _ e4 fun
        | .cell d o, p => by
          have z : v.heap[d]? = w.heap[d]? := h d (q.2 _ p)
          simp only [World.sameAt, World.cell?, z]
        | .map d, p => h d (q.2 _ p)
      simp only [funcsRun, e1, e2, e6, e7, funcsKept_run h e5]
    · cases e
theorem wIfaces (os : Os) (args : Array Value) : (wBase os).layIfaces Tryz.prog (wPlain.filter fun x => wGreat.contains x.1) (wMem os args) = true := by kernel_rfl
def wRest : List (String × DataW Unit) := wPlain.filter fun x => !wGreat.contains x.1
theorem wRest_in (os : Os) (args : Array Value) : LaidIn Tryz.prog (wMem os args) wRest wKept :=
  LaidIn.of_run _ 8 (by kernel_rfl) (by kernel_rfl) (by kernel_rfl) (by kernel_rfl)
theorem wLaid (os : Os) (args : Array Value) : laidMet Tryz.prog wPlain (wMem os args) :=
  laidMet_layVars (w0 := wBase os) wGreat wKept (wMem_heap os args) (wFits os) (wIfaces os args) (wRest_in os args)
theorem wFuncs0 (os : Os) : funcsKept Tryz.prog (wBase os) 8 wKept ((funcsListed Rows.topCrashRecoveryRow.laid).map (·.1)) = some ((funcsListed Rows.topCrashRecoveryRow.laid).map (·.2.funcsOut)) := by kernel_rfl
theorem wFuncs (os : Os) (args : Array Value) : funcsRun Tryz.prog (wMem os args) 8 ((funcsListed Rows.topCrashRecoveryRow.laid).map (·.1)) = some ((funcsListed Rows.topCrashRecoveryRow.laid).map (·.2.funcsOut)) :=
  funcsKept_run (fun k m => by rw [wMem_heap]; exact layVars_keeps (wFits os) k m) (wFuncs0 os)
theorem wHandles (os : Os) (args : Array Value) : (Rows.topCrashRecoveryRow.laid.filter fun x => x.2.handleName?.isSome && x.2.funcsIn?.isNone).all (handleAtB Tryz.prog (wMem os args)) = true := by kernel_rfl
theorem wMet (os : Os) (args : Array Value) : laidMetH Tryz.prog Rows.topCrashRecoveryRow.laid (wMem os args) :=
  laidMetH_of_parts3 (wLaid os args) (wHandles os args) (wFuncs os args)
end Go.Proofs.YtpncejdamjbnlaaGreatDoor
