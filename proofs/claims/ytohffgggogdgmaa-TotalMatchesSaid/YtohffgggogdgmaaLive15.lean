/-
  chalklinelaw15.live: the chapter's examples hold.
-/
import Derived.Test.YtohffgggogdgmaaEq
namespace Go.Proofs.Ytohffgggogdgmaa
open Go.RowKit

theorem vars22 : vars 2 2 = 2 := by rw [vars_two (by omega), vars_one (by omega)]; rfl
theorem live1 : totalR [1, 2] 2 3 = ⟨[3, 4], [[1, 2, -3], [-2, 3], [1, -4], [-1, 3], [2, -4], [-1, -2, 4]], 5, 0⟩ := by
  have hc : cnt 2 [1, 2] 3 = ([3, 4], [[1, 2, -3], [-2, 3], [1, -4], [-1, 3], [2, -4], [-1, -2, 4]]) := by
    rw [cnt_two (by decide)]
    show (fresh (3 + (vars 2 1 : Int) + (vars 2 1 : Int)) 2, (cnt 2 [1] 3).2 ++ (cnt 2 [2] (3 + vars 2 1)).2 ++ allC (cnt 2 [1] 3).1 (cnt 2 [2] (3 + vars 2 1)).1 (fresh (3 + (vars 2 1 : Int) + (vars 2 1 : Int)) 2) ((cnt 2 [1] 3).1.length + 1)) = _
    rw [vars_one (by omega), cnt_one (by decide), cnt_one (by decide)]
    decide
  rw [totalR_ok (by decide) (by decide) (by decide) (by rw [show (2 : Int).toNat = 2 from rfl, show [(1 : Int), 2].length = 2 from rfl, vars22]; decide)]
  rw [show (2 : Int).toNat = 2 from rfl, hc, show [(1 : Int), 2].length = 2 from rfl, vars22]
  rfl
theorem live2 : totalR [1, 2] 0 3 = ⟨[], [], 3, 0⟩ := totalR_zero (by decide) (by decide) (by decide)
theorem live3 : totalR [1, -1] 2 3 = ⟨[], [], 0, 140⟩ := totalR_lit (by decide) (by decide)
theorem live4 : totalR [3] 2 3 = ⟨[], [], 0, 140⟩ := totalR_lit (by decide) (by decide)
theorem live5 : totalR [-2] 5 3 = ⟨[-2], [], 3, 0⟩ := by
  rw [totalR_ok (by decide) (by decide) (by decide) (by rw [vars_one (by decide)]; decide)]
  rw [cnt_one (by decide), vars_one (by decide)]
  rfl
/-- Total called on a literal slice. -/
def RetT (w : World) (outs : List Int) (cs : List (List Int)) (after err : Int) (e : Ending) (w' : World) : Prop :=
  ∃ A n c A' n' c', e = .returned (.tuple #[.slice A n c, .slice A' n' c', .int .i64 after, .int .i64 err]) ∧ Ints w' (Lt w') A n c outs ∧ Rows2 w' A' n' c' cs ∧ Below w.heap.size w w'
theorem total_t (w : World) (n c : Nat) (A : Option Addr) (xs : List Int) (most next : Int) (hI : Ints w (Lt w) A n c xs) (hf : Fits xs) (hn6 : n ≤ 64) :
    Calls Try.prog 11 #[.slice A n c, .int .i64 most, .int .i64 next] w (RetT w (totalR xs most next).outs (totalR xs most next).cs (totalR xs most next).after (totalR xs most next).err) :=
  (total_any w n c A xs most next hI hf hn6).mono fun _ _ ⟨A, n, c, A', n', c', he, ho, hr, hb⟩ => ⟨A, n, c, A', n', c', he, Ints.of_ownLt ho, Rows2.of_own hr, hb⟩
theorem total_lit (w : World) (xs : List Int) (most next : Int) (r : TotalOut) (hr : totalR xs most next = r) (hf : xs.all (fun x => decide ((Lit.int .i64 x).wf = true)) = true) (hn : xs.length ≤ 64) :
    Calls Try.prog 11 #[.slice (some ⟨w.heap.size, 0, none⟩) xs.length xs.length, .int .i64 most, .int .i64 next] (w.alloc (.cells (xs.map (Value.int .i64)).toArray 3)) (RetT w r.outs r.cs r.after r.err) := by
  subst hr
  exact (total_t _ _ _ _ xs most next (lit_ints w xs (by simp only [maxLen]; omega)) (fits_lit hf) hn).mono fun _ _ ⟨A, n, c, A', n', c', he, ho, hr, hb⟩ => ⟨A, n, c, A', n', c', he, ho, hr, below_then (alloc_lt _) hb⟩

set_option maxHeartbeats 4000000 in
set_option maxRecDepth 100000 in
theorem live_any (w : World) : Calls Try.prog 10 #[] w (RetBoolBelow w true) := by
  have t1 : ∀ w : World, Calls Try.prog 11 #[.slice (some ⟨w.heap.size, 0, none⟩) 2 2, .int .i64 2, .int .i64 3] (w.alloc (.cells #[.int .i64 1, .int .i64 2] 3)) (RetT w [3, 4] [[1, 2, -3], [-2, 3], [1, -4], [-1, 3], [2, -4], [-1, -2, 4]] 5 0) := fun w => total_lit w [1, 2] 2 3 _ live1 (by decide) (by decide)
  have t2 : ∀ w : World, Calls Try.prog 11 #[.slice (some ⟨w.heap.size, 0, none⟩) 2 2, .int .i64 0, .int .i64 3] (w.alloc (.cells #[.int .i64 1, .int .i64 2] 3)) (RetT w [] [] 3 0) := fun w => total_lit w [1, 2] 0 3 _ live2 (by decide) (by decide)
  have t3 : ∀ w : World, Calls Try.prog 11 #[.slice (some ⟨w.heap.size, 0, none⟩) 2 2, .int .i64 2, .int .i64 3] (w.alloc (.cells #[.int .i64 1, .int .i64 (-1)] 3)) (RetT w [] [] 0 140) := fun w => total_lit w [1, -1] 2 3 _ live3 (by decide) (by decide)
  have t4 : ∀ w : World, Calls Try.prog 11 #[.slice (some ⟨w.heap.size, 0, none⟩) 1 1, .int .i64 2, .int .i64 3] (w.alloc (.cells #[.int .i64 3] 3)) (RetT w [] [] 0 140) := fun w => total_lit w [3] 2 3 _ live4 (by decide) (by decide)
  have t5 : ∀ w : World, Calls Try.prog 11 #[.slice (some ⟨w.heap.size, 0, none⟩) 1 1, .int .i64 5, .int .i64 3] (w.alloc (.cells #[.int .i64 (-2)] 3)) (RetT w [-2] [] 3 0) := fun w => total_lit w [-2] 5 3 _ live5 (by decide) (by decide)
  have T1 := Lib.hid t1
  have T2 := Lib.hid t2
  have T3 := Lib.hid t3
  have T4 := Lib.hid t4
  have T5 := Lib.hid t5
  clear t1 t2 t3 t4 t5
  go_enter Try.func10, Try.ntmps10
  go_wp2_with (fail)
  (with_reducible refine (T1.out _).mono ?_)
  rintro e w1 ⟨A1, n1, c1, A1', n1', c1', rfl, ho1, hr1, hb1⟩
  have HO1 := Lib.hid ho1
  have HR1 := Lib.hid hr1
  have HB1 := Lib.hid hb1
  clear ho1 hr1 hb1
  go_wp2_with (fail)
  (with_reducible refine (T2.out _).mono ?_)
  rintro e w2 ⟨A2, n2, c2, A2', n2', c2', rfl, ho2, hr2, hb2⟩
  obtain rfl : n2 = 0 := ho2.len
  obtain rfl : n2' = 0 := hr2.len
  have HO2 := Lib.hid (HO1.out.belowLt hb2)
  have HR2 := Lib.hid (HR1.out.belowLt hb2)
  have HB2 := Lib.hid (below_then HB1.out hb2)
  clear ho2 hr2 hb2
  go_wp2_with (fail)
  (with_reducible refine (T3.out _).mono ?_)
  rintro e w3 ⟨A3, n3, c3, A3', n3', c3', rfl, ho3, hr3, hb3⟩
  have HO3 := Lib.hid (HO2.out.belowLt hb3)
  have HR3 := Lib.hid (HR2.out.belowLt hb3)
  have HB3 := Lib.hid (below_then HB2.out hb3)
  clear ho3 hr3 hb3
  go_wp2_with (fail)
  (with_reducible refine (T4.out _).mono ?_)
  rintro e w4 ⟨A4, n4, c4, A4', n4', c4', rfl, ho4, hr4, hb4⟩
  have HO4 := Lib.hid (HO3.out.belowLt hb4)
  have HR4 := Lib.hid (HR3.out.belowLt hb4)
  have HB4 := Lib.hid (below_then HB3.out hb4)
  clear ho4 hr4 hb4
  go_wp2_with (fail)
  (with_reducible refine (T5.out _).mono ?_)
  rintro e w5 ⟨A5, n5, c5, A5', n5', c5', rfl, ho5, hr5, hb5⟩
  obtain rfl : n5' = 0 := hr5.len
  have HO5 := Lib.hid (HO4.out.belowLt hb5)
  have HR5 := Lib.hid (HR4.out.belowLt hb5)
  have HB5 := Lib.hid (below_then HB4.out hb5)
  have HT5 := Lib.hid ho5
  clear ho5 hr5 hb5 HO1 HO2 HO3 HO4 HR1 HR2 HR3 HR4 HB1 HB2 HB3 HB4 T1 T2 T3 T4 T5
  have hW0 := lit_rows w5 [[1, 2, -3], [-2, 3], [1, -4], [-1, 3], [2, -4], [-1, -2, 4]] (small_rows (by decide)) (by decide) (w5.heap.size + 1 + 1 + 1 + 1 + 1 + 1) (by simp [allocAll])
  have hBW0 := below_then (allocAll_below [[1, 2, -3], [-2, 3], [1, -4], [-1, 3], [2, -4], [-1, -2, 4]] w5) (alloc_lt (.cells (litRows w5.heap.size [[1, 2, -3], [-2, 3], [1, -4], [-1, 3], [2, -4], [-1, -2, 4]]).toArray 22))
  have HW0 := Lib.hid hW0
  have HBW0 := Lib.hid hBW0
  clear hW0 hBW0
  go_wp2_with (fail)
  generalize hWW : (((((((w5.alloc (.cells #[.int .i64 1, .int .i64 2, .int .i64 (-3)] 3)).alloc (.cells #[.int .i64 (-2), .int .i64 3] 3)).alloc (.cells #[.int .i64 1, .int .i64 (-4)] 3)).alloc (.cells #[.int .i64 (-1), .int .i64 3] 3)).alloc
      (.cells #[.int .i64 2, .int .i64 (-4)] 3)).alloc (.cells #[.int .i64 (-1), .int .i64 (-2), .int .i64 4] 3)).alloc (.cells #[.slice (some ⟨w5.heap.size, 0, none⟩) 3 3, .slice (some ⟨w5.heap.size + 1, 0, none⟩) 2 2, .slice (some ⟨w5.heap.size + 1 + 1, 0, none⟩) 2 2,
      .slice (some ⟨w5.heap.size + 1 + 1 + 1, 0, none⟩) 2 2, .slice (some ⟨w5.heap.size + 1 + 1 + 1 + 1, 0, none⟩) 2 2, .slice (some ⟨w5.heap.size + 1 + 1 + 1 + 1 + 1, 0, none⟩) 3 3] 22)) = W6
  have hW : Rows2 W6 (some ⟨w5.heap.size + 1 + 1 + 1 + 1 + 1 + 1, 0, none⟩) 6 6 [[1, 2, -3], [-2, 3], [1, -4], [-1, 3], [2, -4], [-1, -2, 4]] := by rw [← hWW]; exact HW0.out
  have hBW : Below w5.heap.size w5 W6 := by rw [← hWW]; exact HBW0.out
  have hsz6 : w5.heap.size + 1 + 1 + 1 + 1 + 1 + 1 + 1 = W6.heap.size := by rw [← hWW]; simp
  rw [hsz6]
  have HSZ := Lib.hid hsz6
  clear hsz6 hWW HW0 HBW0
  have h34 : Ints (W6.alloc (.cells #[.int .i64 3, .int .i64 4] 3)) (Lt (W6.alloc (.cells #[.int .i64 3, .int .i64 4] 3))) (some ⟨W6.heap.size, 0, none⟩) 2 2 [3, 4] := lit_ints W6 [3, 4] (by decide)
  have hal := alloc_lt (w := W6) (.cells #[.int .i64 3, .int .i64 4] 3)
  (with_reducible refine (ints_eq _ n1 c1 2 2 A1 (some ⟨W6.heap.size, 0, none⟩) [3, 4] [3, 4] ((HO5.out.belowLt hBW).belowLt hal) h34).mono ?_)
  rintro e w7 ⟨rfl, hb7⟩
  have HW7 := Lib.hid ((hW.belowLt hal).belowLt hb7)
  have HR7 := Lib.hid ((((HR5.out.belowLt hBW).belowLt hal)).belowLt hb7)
  have HT7 := Lib.hid ((((HT5.out.belowLt hBW).belowLt hal)).belowLt hb7)
  have HB7 := Lib.hid (below_then (below_then (below_then HB5.out hBW) hal) hb7)
  clear hW hBW h34 hal hb7 HO5 HR5 HT5 HB5
  have hd1 : decide ([(3 : Int), 4] = [3, 4]) = true := by decide
  rw [hd1]
  clear hd1
  go_wp2_with (fail)
  (with_reducible refine (clauses_eq _ n1' c1' 6 6 A1' _ _ _ HR7.out HW7.out).mono ?_)
  rintro e w8 ⟨rfl, hb8⟩
  have HT8 := Lib.hid (HT7.out.belowLt hb8)
  have HB8 := Lib.hid (below_then HB7.out hb8)
  rw [show decide ([[(1 : Int), 2, -3], [-2, 3], [1, -4], [-1, 3], [2, -4], [-1, -2, 4]] = [[1, 2, -3], [-2, 3], [1, -4], [-1, 3], [2, -4], [-1, -2, 4]]) = true from by decide]
  clear hb8 HW7 HR7 HT7 HB7
  go_wp2_with (fail)
  have h2 : Ints (w8.alloc (.cells #[.int .i64 (-2)] 3)) (Lt (w8.alloc (.cells #[.int .i64 (-2)] 3))) (some ⟨w8.heap.size, 0, none⟩) 1 1 [-2] := lit_ints w8 [-2] (by decide)
  (with_reducible refine (ints_eq _ n5 c5 1 1 A5 _ _ _ (HT8.out.belowLt (alloc_lt _)) h2).mono ?_)
  rintro e w9 ⟨rfl, hb9⟩
  have HB9 := Lib.hid (below_then (below_then HB8.out (alloc_lt _)) hb9)
  rw [show decide ([(-2 : Int)] = [-2]) = true from by decide]
  clear hb9 h2 HT8 HB8
  go_wp2_with (fail)
  go_ret
  exact ⟨rfl, HB9.out⟩
end Go.Proofs.Ytohffgggogdgmaa
