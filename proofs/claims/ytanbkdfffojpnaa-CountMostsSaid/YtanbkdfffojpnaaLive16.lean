/-
  chalklinelaw16.live: the chapter's examples hold.
-/
import Derived.Test.YtanbkdfffojpnaaMost
import Derived.Test.YtanbkdfffojpnaaSame16
namespace Go.Proofs.Ytanbkdfffojpnaa
open Go.RowKit

/-- Least and Most, their clauses as a slice that reads. -/
def RetL (w : World) (cs : List (List Int)) (after err : Int) (e : Ending) (w' : World) : Prop :=
  ∃ A n c, e = .returned (.tuple #[.slice A n c, .int .i64 after, .int .i64 err]) ∧ Rows2 w' A n c cs ∧ Below w.heap.size w w'
theorem least_t (w : World) (n c : Nat) (A : Option Addr) (xs : List Int) (k next : Int) (hI : Ints w (Lt w) A n c xs) (hf : Fits xs) (hk : (Lit.int .i64 k).wf = true) :
    Calls Try.prog 13 #[.slice A n c, .int .i64 k, .int .i64 next] w (RetL w (leastR xs k next).cs (leastR xs k next).after (leastR xs k next).err) :=
  (least_any w n c A xs k next hI hf hk).mono fun _ _ ⟨A, n, c, he, ho, hb⟩ => ⟨A, n, c, he, Rows2.of_own ho, hb⟩
theorem most_t (w : World) (n c : Nat) (A : Option Addr) (xs : List Int) (k next : Int) (hI : Ints w (Lt w) A n c xs) (hf : Fits xs) (hk : (Lit.int .i64 k).wf = true) :
    Calls Try.prog 16 #[.slice A n c, .int .i64 k, .int .i64 next] w (RetL w (mostR xs k next).cs (mostR xs k next).after (mostR xs k next).err) :=
  (most_any w n c A xs k next hI hf hk).mono fun _ _ ⟨A, n, c, he, ho, hb⟩ => ⟨A, n, c, he, Rows2.of_own ho, hb⟩
theorem least_lit (w : World) (xs : List Int) (k next : Int) (r : LeastOut) (hr : leastR xs k next = r) (hf : xs.all (fun x => decide ((Lit.int .i64 x).wf = true)) = true) (hn : xs.length ≤ 64) (hk : (Lit.int .i64 k).wf = true) :
    Calls Try.prog 13 #[.slice (some ⟨w.heap.size, 0, none⟩) xs.length xs.length, .int .i64 k, .int .i64 next] (w.alloc (.cells (xs.map (Value.int .i64)).toArray 3)) (RetL w r.cs r.after r.err) := by
  subst hr
  exact (least_t _ _ _ _ xs k next (lit_ints w xs (by simp only [maxLen]; omega)) (fits_lit hf) hk).mono fun _ _ ⟨A, n, c, he, ho, hb⟩ => ⟨A, n, c, he, ho, below_then (alloc_lt _) hb⟩
theorem most_lit (w : World) (xs : List Int) (k next : Int) (r : LeastOut) (hr : mostR xs k next = r) (hf : xs.all (fun x => decide ((Lit.int .i64 x).wf = true)) = true) (hn : xs.length ≤ 64) (hk : (Lit.int .i64 k).wf = true) :
    Calls Try.prog 16 #[.slice (some ⟨w.heap.size, 0, none⟩) xs.length xs.length, .int .i64 k, .int .i64 next] (w.alloc (.cells (xs.map (Value.int .i64)).toArray 3)) (RetL w r.cs r.after r.err) := by
  subst hr
  exact (most_t _ _ _ _ xs k next (lit_ints w xs (by simp only [maxLen]; omega)) (fits_lit hf) hk).mono fun _ _ ⟨A, n, c, he, ho, hb⟩ => ⟨A, n, c, he, ho, below_then (alloc_lt _) hb⟩
theorem liv1 : leastR [1, 2] 1 3 = ⟨[[-3, 1], [-4, 3, 2], [4]], 5, 0⟩ := by
  have h : leastR [1, 2] (1 : Nat) 3 = _ := leastR_ok (by decide) (by decide) (by decide) (by decide)
  rw [show ((1 : Nat) : Int) = 1 from rfl] at h
  rw [h]
  rfl
theorem liv2 : leastR [1, 2] 3 3 = ⟨[[]], 3, 0⟩ := leastR_over (by decide) (by decide) (by decide)
theorem liv3 : mostR [1, 2] 2 3 = ⟨[], 3, 0⟩ := by
  rw [mostR_ok (by decide)]
  exact leastR_none (by decide) (by decide)

set_option maxHeartbeats 4000000 in
set_option maxRecDepth 100000 in
theorem live_any (w : World) : Calls Try.prog 12 #[] w (RetBoolBelow w true) := by
  have t1 : ∀ w : World, Calls Try.prog 13 #[.slice (some ⟨w.heap.size, 0, none⟩) 2 2, .int .i64 1, .int .i64 3] (w.alloc (.cells #[.int .i64 1, .int .i64 2] 3)) (RetL w [[-3, 1], [-4, 3, 2], [4]] 5 0) := fun w => least_lit w [1, 2] 1 3 _ liv1 (by decide) (by decide) (by decide)
  have t2 : ∀ w : World, Calls Try.prog 13 #[.slice (some ⟨w.heap.size, 0, none⟩) 2 2, .int .i64 3, .int .i64 3] (w.alloc (.cells #[.int .i64 1, .int .i64 2] 3)) (RetL w [[]] 3 0) := fun w => least_lit w [1, 2] 3 3 _ liv2 (by decide) (by decide) (by decide)
  have t3 : ∀ w : World, Calls Try.prog 16 #[.slice (some ⟨w.heap.size, 0, none⟩) 2 2, .int .i64 2, .int .i64 3] (w.alloc (.cells #[.int .i64 1, .int .i64 2] 3)) (RetL w [] 3 0) := fun w => most_lit w [1, 2] 2 3 _ liv3 (by decide) (by decide) (by decide)
  have T1 := Lib.hid t1
  have T2 := Lib.hid t2
  have T3 := Lib.hid t3
  clear t1 t2 t3
  go_enter Try.func12, Try.ntmps12
  go_wp2_with (fail)
  (with_reducible refine (T1.out _).mono ?_)
  rintro e w1 ⟨A1, n1, c1, rfl, hr1, hb1⟩
  have HR1 := Lib.hid hr1
  have HB1 := Lib.hid hb1
  clear hr1 hb1
  go_wp2_with (fail)
  (with_reducible refine (T2.out _).mono ?_)
  rintro e w2 ⟨A2, n2, c2, rfl, hr2, hb2⟩
  obtain rfl : n2 = 1 := hr2.len
  have HR12 := Lib.hid (HR1.out.belowLt hb2)
  have HR2 := Lib.hid hr2
  have HB2 := Lib.hid (below_then HB1.out hb2)
  clear hr2 hb2
  go_wp2_with (fail)
  (with_reducible refine (T3.out _).mono ?_)
  rintro e w3 ⟨A3, n3, c3, rfl, hr3, hb3⟩
  obtain rfl : n3 = 0 := hr3.len
  have HR13 := Lib.hid (HR12.out.belowLt hb3)
  have HR23 := Lib.hid (HR2.out.belowLt hb3)
  have HB3 := Lib.hid (below_then HB2.out hb3)
  clear hr3 hb3 HR1 HR12 HR2 HB1 HB2 T1 T2 T3
  have hW0 := lit_rows w3 [[-3, 1], [-4, 3, 2], [4]] (small_rows (by decide)) (by decide) (w3.heap.size + 1 + 1 + 1) (by simp [allocAll])
  have hBW0 := below_then (allocAll_below [[-3, 1], [-4, 3, 2], [4]] w3) (alloc_lt (.cells (litRows w3.heap.size [[-3, 1], [-4, 3, 2], [4]]).toArray 22))
  have HW0 := Lib.hid hW0
  have HBW0 := Lib.hid hBW0
  clear hW0 hBW0
  go_wp2_with (fail)
  generalize hWW : ((((w3.alloc (.cells #[.int .i64 (-3), .int .i64 1] 3)).alloc (.cells #[.int .i64 (-4), .int .i64 3, .int .i64 2] 3)).alloc (.cells #[.int .i64 4] 3)).alloc
    (.cells #[.slice (some ⟨w3.heap.size, 0, none⟩) 2 2, .slice (some ⟨w3.heap.size + 1, 0, none⟩) 3 3, .slice (some ⟨w3.heap.size + 1 + 1, 0, none⟩) 1 1] 22)) = W6
  have hW : Rows2 W6 (some ⟨w3.heap.size + 1 + 1 + 1, 0, none⟩) 3 3 [[-3, 1], [-4, 3, 2], [4]] := by rw [← hWW]; exact HW0.out
  have hBW : Below w3.heap.size w3 W6 := by rw [← hWW]; exact HBW0.out
  clear hWW HW0 HBW0
  (with_reducible refine (same_any W6 n1 c1 3 3 A1 (some ⟨w3.heap.size + 1 + 1 + 1, 0, none⟩) _ _ (HR13.out.belowLt hBW) hW).mono ?_)
  rintro e w7 ⟨rfl, hb7⟩
  have hr2 := (HR23.out.belowLt hBW).belowLt hb7
  have HB7 := Lib.hid (below_then (below_then HB3.out hBW) hb7)
  obtain ⟨ad, B1, m1, k1, rfl, hadS, hcell, hr⟩ := hr2.at_ (k := 0) (by omega)
  have hm0 : m1 = 0 := hr.len
  subst hm0
  rw [add_zero] at hcell
  rw [show decide ([[(-3 : Int), 1], [-4, 3, 2], [4]] = [[-3, 1], [-4, 3, 2], [4]]) = true from by decide]
  clear hW hBW hb7 hr2 hr hadS HR13 HR23 HB3
  go_wp2_with (fail)
  go_ret
  exact ⟨rfl, HB7.out⟩
end Go.Proofs.Ytanbkdfffojpnaa
