/-
  count.row: a function that gives the registers of a row.
-/
import Derived.Test.YtanbkdfffojpnaaRight
import Derived.Laws.EntriesVeiled
namespace Go.Proofs.Ytanbkdfffojpnaa
open Go.RowKit

/-- A function value that gives the registers of a row: it was made by row, and its variables lie below B. -/
def RowFn (w : World) (v : Value) (b m : Int) : Prop :=
  ∃ g1 g2, v = .func (.func 49) #[] #[.pointer (some ⟨g1, 0, none⟩), .pointer (some ⟨g2, 0, none⟩)] ∧ w.heap[g1]? = some (.cells #[.int .i64 m] 3 (0, 0)) ∧ w.heap[g2]? = some (.cells #[.int .i64 b] 3 (0, 0))

set_option maxHeartbeats 1000000 in
theorem row_any (w : World) (b m : Int) : Calls Try.prog 29 #[.int .i64 b, .int .i64 m] w (fun e w' => ∃ g1 g2, e = .returned (.func (.func 49) #[] #[.pointer (some ⟨g1, 0, none⟩), .pointer (some ⟨g2, 0, none⟩)]) ∧
    w'.heap[g1]? = some (.cells #[.int .i64 m] 3 (0, 0)) ∧ w'.heap[g2]? = some (.cells #[.int .i64 b] 3 (0, 0)) ∧ w.heap.size ≤ g1 ∧ w.heap.size ≤ g2 ∧ Below w.heap.size w w') := by
  go_enter Try.func29, Try.ntmps29
  go_wp2
  go_ret
  refine ⟨w.heap.size + 1, w.heap.size, rfl, ?_, ?_, by omega, by omega, ?_⟩
  · have := heap_alloc_new (w.alloc (.cells #[.int .i64 b] 3)) (.cells #[.int .i64 m] 3)
    simpa using this
  · rw [Below.heap_alloc _ _ _ (by simp)]; exact heap_alloc_new w _
  · exact below_then (alloc_lt _) (alloc_lt _)

set_option maxHeartbeats 1000000 in
theorem reg_any (w : World) (g1 g2 : Nat) (b m j : Int) (h1 : w.heap[g1]? = some (.cells #[.int .i64 m] 3 (0, 0))) (h2 : w.heap[g2]? = some (.cells #[.int .i64 b] 3 (0, 0)))
    (hb0 : 0 ≤ b) (hb1 : b ≤ 70000) (_ : 0 ≤ m) (_ : m ≤ 70000) (hj0 : -1 ≤ j) (hj1 : j ≤ 70000) :
    Calls Try.prog 49 #[.int .i64 j, .pointer (some ⟨g1, 0, none⟩), .pointer (some ⟨g2, 0, none⟩)] w (fun e w' => e = .returned (.int .i64 (regR b m j)) ∧ w = w') := by
  have c1 := cell_of_one h1
  have c2 := cell_of_one h2
  clear h1 h2
  by_cases q1 : j < 1
  · have e : regR b m j = 0 := by unfold regR; rw [if_pos (.inl q1)]
    rw [e]; clear e
    go_enter Try.func49, Try.ntmps49
    go_wp2
    go_ret
    exact ⟨rfl, rfl⟩
  by_cases q2 : m < j
  · have e : regR b m j = 0 := by unfold regR; rw [if_pos (.inr q2)]
    rw [e]; clear e
    go_enter Try.func49, Try.ntmps49
    go_wp2
    go_ret
    exact ⟨rfl, rfl⟩
  · have e : regR b m j = b + j - 1 := by unfold regR; rw [if_neg (by omega)]
    rw [e]; clear e
    go_enter Try.func49, Try.ntmps49
    go_wp2
    go_ret
    exact ⟨rfl, rfl⟩
end Go.Proofs.Ytanbkdfffojpnaa
