/-
  prop.Prop where the trail is not valid: the error of Check.
-/
import Derived.Test.YtelgabamdhaplaaTrailCheck
import Derived.WalkMore
namespace Go.Proofs.Ytelgabamdhaplaa
open Go.RowKit

def RetBad (w : World) (er : Int) (e : Ending) (w' : World) : Prop := e = .returned (.tuple #[.slice none 0 0, .int .i64 0, .int .i64 er]) ∧ Below w.heap.size w w'
set_option maxHeartbeats 4000000 in
set_option maxRecDepth 100000 in
theorem prop_bad (w : World) (N : Int) (A : Option Addr) (n c : Nat) (cs : List (List Int)) (A' : Option Addr) (m c' : Nat) (ts : List TStep) (hR : Rows2 w A n c cs) (hS : Steps w A' m c' ts) (hm : m ≤ 100000) (h0 : checkS N cs ts ≠ 0) :
    Calls Try.prog 21 #[.agg #[.int .i64 N, .slice A n c], .slice A' m c'] w (RetBad w (checkS N cs ts)) := by
  obtain ⟨W, hW⟩ : ∃ W, W = w.alloc (.cells #[.int .i64 N, .slice A n c] 24) := ⟨_, rfl⟩
  have hb : Below w.heap.size w W := by rw [hW]; exact alloc_lt _
  have b1 : W.heap[w.heap.size]? = some (.cells #[.int .i64 N, .slice A n c] 24 (0, 0)) := by rw [hW]; exact heap_alloc_new w _
  have call := trailCheck_any W N A n c cs A' m c' ts (hR.belowLt hb) (hS.belowLt hb) (by omega)
  have c0 : W.cell? ⟨w.heap.size, 0, none⟩ = some (.int .i64 N) := by rw [cell_of_row _ _ _ _ _ _ b1]; rfl
  have c1 : W.cell? ⟨w.heap.size, 1, none⟩ = some (.slice A n c) := by rw [cell_of_row _ _ _ _ _ _ b1]; rfl
  have HB := Lib.hid hb
  have hne : (checkS N cs ts != 0) = true := by simpa using h0
  clear hR hS hb b1 h0
  generalize checkS N cs ts = er at *
  have CALL := Lib.hid call
  clear call
  go_enter Try.func21, Try.ntmps21
  go_wp2_with (fail)
  go_step3
  rw [← hW]
  clear hW
  go_wp2_with (fail)
  (with_reducible refine CALL.out.mono ?_)
  rintro e w1 ⟨rfl, hb1⟩
  go_wp2
  try rw [Exit.noGoto_ret]
  refine bodyPost_ret (v := .tuple #[.slice none 0 0, .int .i64 0, .int .i64 er]) (by simp [results, Try.results21, go_sem]) rfl ?_
  exact ⟨rfl, below_then HB.out hb1⟩
end Go.Proofs.Ytelgabamdhaplaa
