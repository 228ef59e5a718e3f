/-
  A part of the proof of TopCrashRecovery: walks of the functions that the law calls.
-/
import Derived.Test.YtpncejdamjbnlaaGreatDoorJi
set_option linter.all false
section
namespace Go.Proofs.YtpncejdamjbnlaaGreatDoor
open Go.RowKit Jour
theorem crash_disk (w : World) (A A' : Option Addr) (n c n' c' K : Nat) (vs us : List Ver) (h : DiskOf w A n c A' n' c' vs us) (hK : K < 9223372036854775808) :
    Calls Tryz.prog 7 #[.agg #[.slice A n c, .slice A' n' c'], .int .i64 K] w (fun e w' => ∃ j, j ≤ us.length ∧ RetDisk w (vs ++ us.take j) [] e w') := by
  cases A' with
  | none =>
    obtain ⟨rfl, _⟩ := h.open_.nil_of_none
    obtain rfl := h.open_.none_ rfl
    rcases Nat.eq_zero_or_pos K with rfl | h0
    · exact crash_nil_eq w A n c vs us h (by omega)
    · exact crash_nil_gt w A n c K vs us h h0 hK
  | some ad =>
    rcases Nat.lt_trichotomy K n' with h0 | rfl | h0
    · exact crash_lt w A ad n c n' c' K vs us h h0
    · exact crash_eq w A ad n c K c' vs us h hK
    · exact crash_gt w A ad n c n' c' K vs us h h0 hK
def RetArg (w : World) (e : Ending) (w' : World) : Prop := e = .returned (.tuple #[.agg #[.slice none 0 0, .slice none 0 0], .int .i64 1]) ∧ Below w.heap.size w w'
set_option maxHeartbeats 2000000 in
set_option maxRecDepth 100000 in
theorem append_arg (w : World) (A A' Aw : Option Addr) (n c n' c' nw cw : Nat) (vs us : List Ver) (no cost : Int) (h : DiskOf w A n c A' n' c' vs us) (hno : 1 ≤ no ∧ no ≤ 1099511627776) (hco : 0 ≤ cost ∧ cost ≤ 1099511627776) (hw : 64 < nw) :
    Calls Tryz.prog 5 #[.agg #[.slice A n c, .slice A' n' c'], .agg #[.int .i64 no, .slice Aw nw cw, .int .i64 cost, .bool false]] w (RetArg w) := by
  obtain ⟨W0, hW0⟩ : ∃ W0, W0 = (((w.alloc (Obj.cells #[Value.slice A n c, Value.slice A' n' c'] 26)).alloc (Obj.cells #[Value.int IntKind.i64 no, Value.slice Aw nw cw, Value.int IntKind.i64 cost, Value.bool false] 34)).alloc (Obj.cells #[Value.slice none 0 0, Value.slice none 0 0] 26)) := ⟨_, rfl⟩
  have hb1 : W0.heap[w.heap.size + 1]? = some (.cells #[Value.int IntKind.i64 no, Value.slice Aw nw cw, Value.int IntKind.i64 cost, Value.bool false] 34 (0, 0)) := by
    rw [hW0]
    have := heap_alloc_new (w.alloc (Obj.cells #[Value.slice A n c, Value.slice A' n' c'] 26)) (Obj.cells #[Value.int IntKind.i64 no, Value.slice Aw nw cw, Value.int IntKind.i64 cost, Value.bool false] 34)
    rw [World.size_alloc] at this
    exact alloc_keep this _
  have hb2 : W0.heap[w.heap.size + 2]? = some (.cells #[Value.slice none 0 0, Value.slice none 0 0] 26 (0, 0)) := by
    rw [hW0]
    have := heap_alloc_new ((w.alloc (Obj.cells #[Value.slice A n c, Value.slice A' n' c'] 26)).alloc (Obj.cells #[Value.int IntKind.i64 no, Value.slice Aw nw cw, Value.int IntKind.i64 cost, Value.bool false] 34)) (Obj.cells #[Value.slice none 0 0, Value.slice none 0 0] 26)
    rw [World.size_alloc, World.size_alloc] at this
    exact this
  have hal : Below w.heap.size w W0 := by rw [hW0]; exact ((alloc_lt _).alloc (by simp) _).alloc (by simp; omega) _
  have C := read_disk W0 A A' n c n' c' vs us (h.belowLt hal)
  rw [hW0] at C
  have HC := Lib.hid C
  have hl1 : w.heap.size + 1 < W0.heap.size := (Array.getElem?_eq_some_iff.1 hb1).1
  have hl2 : w.heap.size + 2 < W0.heap.size := (Array.getElem?_eq_some_iff.1 hb2).1
  have CM := Lib.hid (fun W => may_any W no cost Aw nw cw false hno hco)
  have hf : decide (nw ≤ 64) = false := by simp; omega
  rw [hf] at CM
  have HB1 := Lib.hid hb1
  have HB2 := Lib.hid hb2
  have HAL := Lib.hid hal
  have HW0 := Lib.hid hW0
  have e2 : w.heap.size + 1 + 1 = w.heap.size + 2 := rfl
  clear h hW0 hb1 hb2 hal C hno hco hw hf
  go_enter Tryz.func5, Tryz.ntmps5
  go_wp2_with (fail)
  (with_reducible refine HC.out.mono ?_)
  rw [← HW0.out]
  rintro e w1 ⟨A1, c1, A2, c2, rfl, _, _, hbl⟩
  have j1 := (hbl.block _ hl1).trans HB1.out
  have j2 := (hbl.block _ hl2).trans HB2.out
  have x0 : w1.cell? ⟨w.heap.size + 1, 0, none⟩ = some (.int .i64 no) := by rw [cell_of_row _ _ _ _ _ _ j1]; rfl
  have x1 : w1.cell? ⟨w.heap.size + 1, 1, none⟩ = some (.slice Aw nw cw) := by rw [cell_of_row _ _ _ _ _ _ j1]; rfl
  have x2 : w1.cell? ⟨w.heap.size + 1, 2, none⟩ = some (.int .i64 cost) := by rw [cell_of_row _ _ _ _ _ _ j1]; rfl
  have x3 : w1.cell? ⟨w.heap.size + 1, 3, none⟩ = some (.bool false) := by rw [cell_of_row _ _ _ _ _ _ j1]; rfl
  have HBW := Lib.hid (below_then HAL.out hbl)
  have J2 := Lib.hid j2
  clear j1 j2 hbl HC
  go_wp2_with (fail)
  (with_reducible refine (CM.out _).mono ?_)
  rintro e w2 ⟨rfl, hb2⟩
  have i2 := (hb2.block _ (Array.getElem?_eq_some_iff.1 J2.out).1).trans J2.out
  have y0 : w2.cell? ⟨w.heap.size + 2, 0, none⟩ = some (.slice none 0 0) := by rw [cell_of_row _ _ _ _ _ _ i2]; rfl
  have y1 : w2.cell? ⟨w.heap.size + 2, 1, none⟩ = some (.slice none 0 0) := by rw [cell_of_row _ _ _ _ _ _ i2]; rfl
  have f0 := frozen_of_row w2 (w.heap.size + 2) 0 _ 26 i2
  have f1 := frozen_of_row w2 (w.heap.size + 2) 1 _ 26 i2
  obtain ⟨F, hF⟩ : ∃ F, F = (w2.setCell ⟨w.heap.size + 2, 0, none⟩ (.slice none 0 0)).setCell ⟨w.heap.size + 2, 1, none⟩ (.slice none 0 0) := ⟨_, rfl⟩
  have hFb : F.heap[w.heap.size + 2]? = some (.cells #[.slice none 0 0, .slice none 0 0] 26 (0, 0)) := by rw [hF]; exact one_put (one_put i2)
  have q0 : F.cell? ⟨w.heap.size + 2, 0, none⟩ = some (.slice none 0 0) := by rw [cell_of_row _ _ _ _ _ _ hFb]; rfl
  have q1 : F.cell? ⟨w.heap.size + 2, 1, none⟩ = some (.slice none 0 0) := by rw [cell_of_row _ _ _ _ _ _ hFb]; rfl
  have FIN : Hid (Below w.heap.size w F) := Lib.hid (by rw [hF]; exact ((below_then HBW.out hb2).setCell (by show w.heap.size ≤ w.heap.size + 2; omega) _).setCell (by show w.heap.size ≤ w.heap.size + 2; omega) _)
  have HF := Lib.hid hF
  clear i2 hb2 hF hFb CM
  go_wp2_with (fail)
  rw [← HF.out]
  exact bodyPost_ret (v := .tuple #[.agg #[.slice none 0 0, .slice none 0 0], .int .i64 1]) (by simp [results, Tryz.results5, go_sem, q0, q1]) rfl ⟨rfl, FIN.out⟩
end Go.Proofs.YtpncejdamjbnlaaGreatDoor
end
section
namespace Go.Proofs.YtpncejdamjbnlaaGreatDoor
open Go.RowKit Jour
def NewDisk (w : World) (vs us : List Ver) (rec : List Byte) (v9 : Value) (wx : World) : Prop := ∃ P A5 n5 c5 A6 n6 c6, v9 = .pointer (some ⟨P, 0, none⟩) ∧ w.heap.size + 2 < P ∧ wx.heap[P]? = some (.cells #[.slice A5 n5 c5, .slice A6 n6 c6] 26 (0, 0)) ∧ wx.heap[w.heap.size + 2]? = some (.cells #[.slice none 0 0, .slice none 0 0] 26 (0, 0)) ∧
  wx.ownsRow w.heap.size 5 1 (.slice A5 n5 c5) n5 (flat (frB vs)) ∧ wx.ownsRow w.heap.size 5 1 (.slice A6 n6 c6) n6 (flat (frB us ++ frameB rec)) ∧ Below w.heap.size w wx
theorem newDisk_set {w w6 : World} {vs us : List Ver} {rec : List Byte} {P n5 c5 n6 c6 : Nat} {A5 A6 : Option Addr} {x : Array Value} (hP : w.heap.size + 2 < P) (hx : x.size = 2) (hb : w6.heap[P]? = some (.cells x 26 (0, 0))) (h2 : w6.heap[w.heap.size + 2]? = some (.cells #[.slice none 0 0, .slice none 0 0] 26 (0, 0)))
    (h5 : w6.ownsRow w.heap.size 5 1 (.slice A5 n5 c5) n5 (flat (frB vs))) (h6 : w6.ownsRow w.heap.size 5 1 (.slice A6 n6 c6) n6 (flat (frB us ++ frameB rec))) (hB : Below w.heap.size w w6) :
    NewDisk w vs us rec (.pointer (some ⟨P, 0, none⟩)) ((w6.setCell ⟨P, 0, none⟩ (.slice A5 n5 c5)).setCell ⟨P, 1, none⟩ (.slice A6 n6 c6)) := by
  have n26 : ∀ (x : Array Value) cs, Obj.cells x 26 (0, 0) ≠ .cells cs 5 (0, 0) := fun x cs e => by injection e; rename_i e1 e2 e3; exact absurd e2 (by decide)
  have o : ∀ {A : Option Addr} {m c : Nat} {xs : List Value}, w6.ownsRow w.heap.size 5 1 (.slice A m c) m xs → ((w6.setCell ⟨P, 0, none⟩ (.slice A5 n5 c5)).setCell ⟨P, 1, none⟩ (.slice A6 n6 c6)).ownsRow w.heap.size 5 1 (.slice A m c) m xs := fun h => by
    have x := own_other h hb (n26 _)
    exact ownsRow_setCell_other (ownsRow_setCell_other h x _) x _
  obtain ⟨a, b, rfl⟩ : ∃ a b, x = #[a, b] := by
    obtain ⟨l⟩ := x
    match l, hx with
    | [a, b], _ => exact ⟨a, b, rfl⟩
  refine ⟨P, A5, n5, c5, A6, n6, c6, rfl, hP, one_put (one_put hb), ?_, o h5, o h6, (hB.setCell (by show w.heap.size ≤ P; omega) _).setCell (by show w.heap.size ≤ P; omega) _⟩
  exact (heap_setCell_other _ _ _ _ (by show w.heap.size + 2 ≠ P; omega)).trans ((heap_setCell_other _ _ _ _ (by show w.heap.size + 2 ≠ P; omega)).trans h2)
theorem keep2 {w6 : World} {P B : Nat} {v v' a b : Value} (hne : B ≠ P) (h0 : w6.cell? ⟨B, 0, none⟩ = some a) (h1 : w6.cell? ⟨B, 1, none⟩ = some b) : ((w6.setCell ⟨P, 0, none⟩ v).setCell ⟨P, 1, none⟩ v').cell? ⟨B, 0, none⟩ = some a ∧ ((w6.setCell ⟨P, 0, none⟩ v).setCell ⟨P, 1, none⟩ v').cell? ⟨B, 1, none⟩ = some b := by
  have hb : ((w6.setCell ⟨P, 0, none⟩ v).setCell ⟨P, 1, none⟩ v').heap[B]? = w6.heap[B]? := (heap_setCell_other _ _ _ _ hne).trans (heap_setCell_other _ _ _ _ hne)
  exact ⟨by rw [World.cell?_of_block (w := w6) hb]; exact h0, by rw [World.cell?_of_block (w := w6) hb]; exact h1⟩
set_option maxHeartbeats 4000000 in
set_option maxRecDepth 100000 in
theorem append_disk (w : World) (A A' Aw : Option Addr) (n c n' c' nw cw : Nat) (vs us : List Ver) (v : Ver) (hbest : v.best = false) (h : DiskOf w A n c A' n' c' vs us) (hP : Arr w Aw nw cw v.week) (hno : v.no = ((vs.length + us.length + 1 : Nat) : Int)) (hco : 0 ≤ v.cost ∧ v.cost ≤ 1099511627776) (h64 : W64s v.week) (hw : nw ≤ 64) (hfew : vs.length + us.length < 16) :
    Calls Tryz.prog 5 #[.agg #[.slice A n c, .slice A' n' c'], .agg #[.int .i64 v.no, .slice Aw nw cw, .int .i64 v.cost, .bool false]] w (RetDisk w vs (us ++ [v])) := by
  have hlw : v.week.length ≤ 64 := by rw [← hP.len]; exact hw
  have hmay : Jour.may v = true := by
    simp only [Jour.may, Bool.and_eq_true, decide_eq_true_eq]
    exact ⟨⟨⟨by omega, by omega⟩, hco.1, hco.2⟩, hlw⟩
  have HOK2 : Hid (OkL (1 + (vs.length : Int)) (us ++ [v])) := Lib.hid (OkL.append h.ok2 (by rw [hno]; omega) hmay h64)
  have hno1 : 1 ≤ v.no ∧ v.no ≤ 1099511627776 := by omega
  have hno64 : W64 v.no := ⟨by omega, by omega⟩
  have hco64 : W64 v.cost := ⟨by omega, by omega⟩
  have hrl := record_len v hno64 hco64 h64 hlw
  obtain ⟨no, week, cost, best⟩ := v
  dsimp only at *
  subst hbest
  obtain ⟨W0, hW0⟩ : ∃ W0, W0 = (((w.alloc (Obj.cells #[Value.slice A n c, Value.slice A' n' c'] 26)).alloc (Obj.cells #[Value.int IntKind.i64 no, Value.slice Aw nw cw, Value.int IntKind.i64 cost, Value.bool false] 34)).alloc (Obj.cells #[Value.slice none 0 0, Value.slice none 0 0] 26)) := ⟨_, rfl⟩
  have hb0 : W0.heap[w.heap.size]? = some (.cells #[Value.slice A n c, Value.slice A' n' c'] 26 (0, 0)) := by rw [hW0]; exact alloc_keep (alloc_keep (heap_alloc_new _ _) _) _
  have hb1 : W0.heap[w.heap.size + 1]? = some (.cells #[Value.int IntKind.i64 no, Value.slice Aw nw cw, Value.int IntKind.i64 cost, Value.bool false] 34 (0, 0)) := by
    rw [hW0]
    have := heap_alloc_new (w.alloc (Obj.cells #[Value.slice A n c, Value.slice A' n' c'] 26)) (Obj.cells #[Value.int IntKind.i64 no, Value.slice Aw nw cw, Value.int IntKind.i64 cost, Value.bool false] 34)
    rw [World.size_alloc] at this
    exact alloc_keep this _
  have hb2 : W0.heap[w.heap.size + 2]? = some (.cells #[Value.slice none 0 0, Value.slice none 0 0] 26 (0, 0)) := by
    rw [hW0]
    have := heap_alloc_new ((w.alloc (Obj.cells #[Value.slice A n c, Value.slice A' n' c'] 26)).alloc (Obj.cells #[Value.int IntKind.i64 no, Value.slice Aw nw cw, Value.int IntKind.i64 cost, Value.bool false] 34)) (Obj.cells #[Value.slice none 0 0, Value.slice none 0 0] 26)
    rw [World.size_alloc, World.size_alloc] at this
    exact this
  have hal : Below w.heap.size w W0 := by rw [hW0]; exact ((alloc_lt _).alloc (by simp) _).alloc (by simp; omega) _
  have C := read_disk W0 A A' n c n' c' vs us (h.belowLt hal)
  rw [hW0] at C
  have HC := Lib.hid C
  have hl0 : w.heap.size < W0.heap.size := (Array.getElem?_eq_some_iff.1 hb0).1
  have hl1 : w.heap.size + 1 < W0.heap.size := (Array.getElem?_eq_some_iff.1 hb1).1
  have hl2 : w.heap.size + 2 < W0.heap.size := (Array.getElem?_eq_some_iff.1 hb2).1
  have CM := Lib.hid (fun W => may_any W no cost Aw nw cw false hno1 hco)
  have hf : decide (nw ≤ 64) = true := by simp; omega
  rw [hf] at CM
  have CR : Hid (∀ W, Below w.heap.size w W → Calls Tryz.prog 21 #[.agg #[.int .i64 no, .slice Aw nw cw, .int .i64 cost, .bool false]] W (RetArr 5 W (recordB ⟨no, week, cost, false⟩))) := Lib.hid fun W hb => record_any W ⟨no, week, cost, false⟩ Aw nw cw (hP.belowLt hb) hw h64 hno64 hco64
  obtain ⟨rec, hrec⟩ : ∃ rec, rec = recordB ⟨no, week, cost, false⟩ := ⟨_, rfl⟩
  rw [← hrec] at CR hrl
  have HREC := Lib.hid hrec
  have HB0 := Lib.hid hb0
  have HB1 := Lib.hid hb1
  have HB2 := Lib.hid hb2
  have HAL := Lib.hid hal
  have HW0 := Lib.hid hW0
  have HD := Lib.hid h
  have hsm := h.small
  have e2 : w.heap.size + 1 + 1 = w.heap.size + 2 := rfl
  have hnq : (no != ((vs.length : Int) + (us.length : Int) + 1)) = false := by simp; omega
  obtain ⟨M1, hM1⟩ : ∃ M1, M1 = vs.length := ⟨_, rfl⟩
  obtain ⟨M2, hM2⟩ : ∃ M2, M2 = us.length := ⟨_, rfl⟩
  rw [← hM1, ← hM2] at hnq hfew
  have HM1 := Lib.hid hM1
  have HM2 := Lib.hid hM2
  clear h hW0 hb0 hb1 hb2 hal C hno hno1 hco hw hf hP h64 hno64 hco64 hlw hmay hrec hM1 hM2
  go_enter Tryz.func5, Tryz.ntmps5
  go_wp2_with (fail)
  (with_reducible refine HC.out.mono ?_)
  rw [← HW0.out]
  rintro e w1 ⟨A1, c1, A2, c2, rfl, _, _, hbl⟩
  rw [← HM1.out, ← HM2.out]
  have j0 := (hbl.block _ hl0).trans HB0.out
  have j1 := (hbl.block _ hl1).trans HB1.out
  have j2 := (hbl.block _ hl2).trans HB2.out
  have x0 : w1.cell? ⟨w.heap.size + 1, 0, none⟩ = some (.int .i64 no) := by rw [cell_of_row _ _ _ _ _ _ j1]; rfl
  have x1 : w1.cell? ⟨w.heap.size + 1, 1, none⟩ = some (.slice Aw nw cw) := by rw [cell_of_row _ _ _ _ _ _ j1]; rfl
  have x2 : w1.cell? ⟨w.heap.size + 1, 2, none⟩ = some (.int .i64 cost) := by rw [cell_of_row _ _ _ _ _ _ j1]; rfl
  have x3 : w1.cell? ⟨w.heap.size + 1, 3, none⟩ = some (.bool false) := by rw [cell_of_row _ _ _ _ _ _ j1]; rfl
  have HBW := Lib.hid (below_then HAL.out hbl)
  have J0 := Lib.hid j0
  have J1 := Lib.hid j1
  have J2 := Lib.hid j2
  clear j0 j1 j2 hbl HC
  go_wp2_with (fail)
  (with_reducible refine (CM.out _).mono ?_)
  rintro e w2 ⟨rfl, hb2⟩
  have j0 := (hb2.block _ (Array.getElem?_eq_some_iff.1 J0.out).1).trans J0.out
  have j1 := (hb2.block _ (Array.getElem?_eq_some_iff.1 J1.out).1).trans J1.out
  have j2 := (hb2.block _ (Array.getElem?_eq_some_iff.1 J2.out).1).trans J2.out
  have y0 : w2.cell? ⟨w.heap.size + 1, 0, none⟩ = some (.int .i64 no) := by rw [cell_of_row _ _ _ _ _ _ j1]; rfl
  have y1 : w2.cell? ⟨w.heap.size + 1, 1, none⟩ = some (.slice Aw nw cw) := by rw [cell_of_row _ _ _ _ _ _ j1]; rfl
  have y2 : w2.cell? ⟨w.heap.size + 1, 2, none⟩ = some (.int .i64 cost) := by rw [cell_of_row _ _ _ _ _ _ j1]; rfl
  have y3 : w2.cell? ⟨w.heap.size + 1, 3, none⟩ = some (.bool false) := by rw [cell_of_row _ _ _ _ _ _ j1]; rfl
  have hbw2 := below_then HBW.out hb2
  have CR2 := Lib.hid (CR.out w2 hbw2)
  have HBW2 := Lib.hid hbw2
  have J0' := Lib.hid j0
  have J2' := Lib.hid j2
  clear j0 j1 j2 hb2 hbw2 x0 x1 x2 x3 CR CM J0 J1 J2
  go_wp2_with (fail)
  (with_reducible refine CR2.out.mono ?_)
  rintro e w3 ⟨A3, n3, c3, rfl, ho3, hb3⟩
  have CFr := Lib.hid (frame_any w3 n3 c3 A3 rec (Arr.of_own ho3) (by have := (Arr.of_own ho3).len; omega))
  have HB3 := Lib.hid hb3
  clear ho3 hb3 CR2
  go_wp2_with (fail)
  (with_reducible refine CFr.out.mono ?_)
  rintro e w4 ⟨A4, n4, c4, rfl, ho4, hb4⟩
  have hb4' := below_then HB3.out hb4
  have j0 := (hb4'.block _ (Array.getElem?_eq_some_iff.1 J0'.out).1).trans J0'.out
  have j2 := (hb4'.block _ (Array.getElem?_eq_some_iff.1 J2'.out).1).trans J2'.out
  have x0 : w4.cell? ⟨w.heap.size, 0, none⟩ = some (.slice A n c) := by rw [cell_of_row _ _ _ _ _ _ j0]; rfl
  have x1 : w4.cell? ⟨w.heap.size, 1, none⟩ = some (.slice A' n' c') := by rw [cell_of_row _ _ _ _ _ _ j0]; rfl
  have HB4 := Lib.hid (below_then HBW2.out hb4')
  have HO4 := Lib.hid ho4
  have I0 := Lib.hid j0
  have I2 := Lib.hid j2
  clear j0 j2 ho4 hb4 hb4' CFr y0 y1 y2 y3
  have hs4 : w.heap.size + 2 < w4.heap.size := (Array.getElem?_eq_some_iff.1 I2.out).1
  have CLg : Hid (∀ W, Below w4.heap.size w4 W → Calls Tryz.prog 22 #[.slice A n c] W (RetArr 5 W (frB vs))) := Lib.hid fun W hb => clone_bytes W n c A (frB vs) (HD.out.safe.belowLt (below_then HB4.out hb)) (by omega)
  have CCg : Hid (∀ W g, W.heap[g]? = some (.cells #[.slice A' n' c', .slice A4 n4 c4] 24 (0, 0)) → Below w4.heap.size w4 W → Calls Tryz.prog 23 #[.slice (some ⟨g, 0, none⟩) 2 2] W (RetArr 5 W (frB us ++ frameB rec))) := Lib.hid fun W g hg hb => by
    have h1 := HD.out.open_.belowLt (below_then HB4.out hb)
    have h2 := (Arr.of_own HO4.out).belowLt hb
    have hr : RowsOf W (some ⟨g, 0, none⟩) 2 2 [frB us, frameB rec] := by
      refine ⟨rfl, Nat.le_refl _, by simp [maxLen], [.slice A' n' c', .slice A4 n4 c4], ⟨rfl, fun _ => ⟨_, rfl, (Array.getElem?_eq_some_iff.1 hg).1, fun j u hu => ?_⟩⟩, fun i r hi => ?_⟩
      · have e : (⟨g, 0, none⟩ : Addr).add j = ⟨g, j, none⟩ := by unfold Addr.add; split <;> simp_all
        rw [e, cell_of_row _ _ _ _ _ _ hg]
        simpa using hu
      · match i, hi with
        | 0, hi => simp at hi; subst hi; exact ⟨A', n', c', frB us, rfl, rfl, h1⟩
        | 1, hi => simp at hi; subst hi; exact ⟨A4, n4, c4, frameB rec, rfl, rfl, h2⟩
        | i + 2, hi => simp at hi
    have := concat_any W _ 2 2 [frB us, frameB rec] hr (by
      have h2 := HD.out.open_.len
      have e : (frameB rec).length = 8 + rec.length := by simp [frameB, be4]; omega
      simp [tot]; omega)
    simpa using this
  have CLa : Hid (Calls Tryz.prog 22 #[.slice A n c] w4.drew (RetArr 5 w4.drew (frB vs))) := Lib.hid (CLg.out _ ((Below.refl w4.heap.size w4).drew))
  have CLb : Hid (Calls Tryz.prog 22 #[.slice A n c] (w4.alloc (Obj.cells #[Value.slice none 0 0, Value.slice none 0 0] 26)).drew (RetArr 5 (w4.alloc (Obj.cells #[Value.slice none 0 0, Value.slice none 0 0] 26)).drew (frB vs))) := Lib.hid (CLg.out _ (((Below.refl w4.heap.size w4).alloc (Nat.le_refl _) (Obj.cells #[Value.slice none 0 0, Value.slice none 0 0] 26)).drew))
  have CLl : Hid (Calls Tryz.prog 22 #[.slice A n c] (w4.alloc (Obj.cells #[Value.slice A' n' c', Value.slice A4 n4 c4] 24)).drew (RetArr 5 (w4.alloc (Obj.cells #[Value.slice A' n' c', Value.slice A4 n4 c4] 24)).drew (frB vs))) := Lib.hid (CLg.out _ (((Below.refl w4.heap.size w4).alloc (Nat.le_refl _) (Obj.cells #[Value.slice A' n' c', Value.slice A4 n4 c4] 24)).drew))
  have CLlb : Hid (Calls Tryz.prog 22 #[.slice A n c] ((w4.alloc (Obj.cells #[Value.slice A' n' c', Value.slice A4 n4 c4] 24)).alloc (Obj.cells #[Value.slice none 0 0, Value.slice none 0 0] 26)).drew (RetArr 5 ((w4.alloc (Obj.cells #[Value.slice A' n' c', Value.slice A4 n4 c4] 24)).alloc (Obj.cells #[Value.slice none 0 0, Value.slice none 0 0] 26)).drew (frB vs))) := Lib.hid (CLg.out _ ((((Below.refl w4.heap.size w4).alloc (Nat.le_refl _) (Obj.cells #[Value.slice A' n' c', Value.slice A4 n4 c4] 24)).alloc (by simp) (Obj.cells #[Value.slice none 0 0, Value.slice none 0 0] 26)).drew))
  have CLbl : Hid (Calls Tryz.prog 22 #[.slice A n c] ((w4.alloc (Obj.cells #[Value.slice none 0 0, Value.slice none 0 0] 26)).alloc (Obj.cells #[Value.slice A' n' c', Value.slice A4 n4 c4] 24)).drew (RetArr 5 ((w4.alloc (Obj.cells #[Value.slice none 0 0, Value.slice none 0 0] 26)).alloc (Obj.cells #[Value.slice A' n' c', Value.slice A4 n4 c4] 24)).drew (frB vs))) := Lib.hid (CLg.out _ ((((Below.refl w4.heap.size w4).alloc (Nat.le_refl _) (Obj.cells #[Value.slice none 0 0, Value.slice none 0 0] 26)).alloc (by simp) (Obj.cells #[Value.slice A' n' c', Value.slice A4 n4 c4] 24)).drew))
  go_upto_region 45 with (fail)
  go_cut [9] (fun v9 wx => NewDisk w vs us rec v9 wx)
  case first =>
    go_region_held3 (fun w' => w'.cell? ⟨w.heap.size, 0, none⟩ = some (.slice A n c) ∧ w'.cell? ⟨w.heap.size, 1, none⟩ = some (.slice A' n' c')) (first | (exact ⟨x0, x1⟩) | (exact ⟨y0, y1⟩) | (exact ⟨z0, z1⟩) | (exact pp) | go_keep)
      (first
        | (go_at_call 22
           (with_reducible refine CLa.out.mono ?_)
           rintro e w5 ⟨A5, n5, c5, rfl, ho5, hb5⟩
           have hb45 : Below w4.heap.size w4 w5 := below_then ((Below.refl w4.heap.size w4).drew) hb5
           have j0 := (hb45.block _ (Array.getElem?_eq_some_iff.1 I0.out).1).trans I0.out
           have j2 := (hb45.block _ (Array.getElem?_eq_some_iff.1 I2.out).1).trans I2.out
           have y0 : w5.cell? ⟨w.heap.size, 0, none⟩ = some (.slice A n c) := by rw [cell_of_row _ _ _ _ _ _ j0]; rfl
           have y1 : w5.cell? ⟨w.heap.size, 1, none⟩ = some (.slice A' n' c') := by rw [cell_of_row _ _ _ _ _ _ j0]; rfl
           have K0 := Lib.hid j0
           have K2 := Lib.hid j2
           have HO5 := Lib.hid (own_base ho5 (show w4.heap.size ≤ _ from (((Below.refl w4.heap.size w4).drew)).size))
           have HB45 := Lib.hid hb45
           have hs5 := hb45.size
           clear j0 j2 ho5 hb5 hb45)
        | (go_at_call 22
           (with_reducible refine CLb.out.mono ?_)
           rintro e w5 ⟨A5, n5, c5, rfl, ho5, hb5⟩
           have hb45 : Below w4.heap.size w4 w5 := below_then (((Below.refl w4.heap.size w4).alloc (Nat.le_refl _) (Obj.cells #[Value.slice none 0 0, Value.slice none 0 0] 26)).drew) hb5
           have j0 := (hb45.block _ (Array.getElem?_eq_some_iff.1 I0.out).1).trans I0.out
           have j2 := (hb45.block _ (Array.getElem?_eq_some_iff.1 I2.out).1).trans I2.out
           have y0 : w5.cell? ⟨w.heap.size, 0, none⟩ = some (.slice A n c) := by rw [cell_of_row _ _ _ _ _ _ j0]; rfl
           have y1 : w5.cell? ⟨w.heap.size, 1, none⟩ = some (.slice A' n' c') := by rw [cell_of_row _ _ _ _ _ _ j0]; rfl
           have K0 := Lib.hid j0
           have K2 := Lib.hid j2
           have HO5 := Lib.hid (own_base ho5 (show w4.heap.size ≤ _ from ((((Below.refl w4.heap.size w4).alloc (Nat.le_refl _) (Obj.cells #[Value.slice none 0 0, Value.slice none 0 0] 26)).drew)).size))
           have HB45 := Lib.hid hb45
           have hs5 := hb45.size
           have HBX5 := Lib.hid ((hb5.block w4.heap.size (by simp <;> omega)).trans (heap_alloc_new w4 (Obj.cells #[Value.slice none 0 0, Value.slice none 0 0] 26)))
           clear j0 j2 ho5 hb5 hb45)
        | (go_at_call 22
           (with_reducible refine CLl.out.mono ?_)
           rintro e w5 ⟨A5, n5, c5, rfl, ho5, hb5⟩
           have hb45 : Below w4.heap.size w4 w5 := below_then (((Below.refl w4.heap.size w4).alloc (Nat.le_refl _) (Obj.cells #[Value.slice A' n' c', Value.slice A4 n4 c4] 24)).drew) hb5
           have j0 := (hb45.block _ (Array.getElem?_eq_some_iff.1 I0.out).1).trans I0.out
           have j2 := (hb45.block _ (Array.getElem?_eq_some_iff.1 I2.out).1).trans I2.out
           have y0 : w5.cell? ⟨w.heap.size, 0, none⟩ = some (.slice A n c) := by rw [cell_of_row _ _ _ _ _ _ j0]; rfl
           have y1 : w5.cell? ⟨w.heap.size, 1, none⟩ = some (.slice A' n' c') := by rw [cell_of_row _ _ _ _ _ _ j0]; rfl
           have K0 := Lib.hid j0
           have K2 := Lib.hid j2
           have HO5 := Lib.hid (own_base ho5 (show w4.heap.size ≤ _ from ((((Below.refl w4.heap.size w4).alloc (Nat.le_refl _) (Obj.cells #[Value.slice A' n' c', Value.slice A4 n4 c4] 24)).drew)).size))
           have HB45 := Lib.hid hb45
           have hs5 := hb45.size
           have HLT5 := Lib.hid ((hb5.block w4.heap.size (by simp <;> omega)).trans (heap_alloc_new w4 (Obj.cells #[Value.slice A' n' c', Value.slice A4 n4 c4] 24)))
           clear j0 j2 ho5 hb5 hb45)
        | (go_at_call 22
           (with_reducible refine CLlb.out.mono ?_)
           rintro e w5 ⟨A5, n5, c5, rfl, ho5, hb5⟩
           have hb45 : Below w4.heap.size w4 w5 := below_then ((((Below.refl w4.heap.size w4).alloc (Nat.le_refl _) (Obj.cells #[Value.slice A' n' c', Value.slice A4 n4 c4] 24)).alloc (by simp) (Obj.cells #[Value.slice none 0 0, Value.slice none 0 0] 26)).drew) hb5
           have j0 := (hb45.block _ (Array.getElem?_eq_some_iff.1 I0.out).1).trans I0.out
           have j2 := (hb45.block _ (Array.getElem?_eq_some_iff.1 I2.out).1).trans I2.out
           have y0 : w5.cell? ⟨w.heap.size, 0, none⟩ = some (.slice A n c) := by rw [cell_of_row _ _ _ _ _ _ j0]; rfl
           have y1 : w5.cell? ⟨w.heap.size, 1, none⟩ = some (.slice A' n' c') := by rw [cell_of_row _ _ _ _ _ _ j0]; rfl
           have K0 := Lib.hid j0
           have K2 := Lib.hid j2
           have HO5 := Lib.hid (own_base ho5 (show w4.heap.size ≤ _ from (((((Below.refl w4.heap.size w4).alloc (Nat.le_refl _) (Obj.cells #[Value.slice A' n' c', Value.slice A4 n4 c4] 24)).alloc (by simp) (Obj.cells #[Value.slice none 0 0, Value.slice none 0 0] 26)).drew)).size))
           have HB45 := Lib.hid hb45
           have hs5 := hb45.size
           have HLT5 := Lib.hid ((hb5.block w4.heap.size (by simp <;> omega)).trans (alloc_keep (heap_alloc_new w4 (Obj.cells #[Value.slice A' n' c', Value.slice A4 n4 c4] 24)) (Obj.cells #[Value.slice none 0 0, Value.slice none 0 0] 26)))
           have HBX5 := Lib.hid ((hb5.block (w4.heap.size + 1) (by simp <;> omega)).trans (heap_alloc2_new w4 (Obj.cells #[Value.slice A' n' c', Value.slice A4 n4 c4] 24) (Obj.cells #[Value.slice none 0 0, Value.slice none 0 0] 26)))
           clear j0 j2 ho5 hb5 hb45)
        | (go_at_call 22
           (with_reducible refine CLbl.out.mono ?_)
           rintro e w5 ⟨A5, n5, c5, rfl, ho5, hb5⟩
           have hb45 : Below w4.heap.size w4 w5 := below_then ((((Below.refl w4.heap.size w4).alloc (Nat.le_refl _) (Obj.cells #[Value.slice none 0 0, Value.slice none 0 0] 26)).alloc (by simp) (Obj.cells #[Value.slice A' n' c', Value.slice A4 n4 c4] 24)).drew) hb5
           have j0 := (hb45.block _ (Array.getElem?_eq_some_iff.1 I0.out).1).trans I0.out
           have j2 := (hb45.block _ (Array.getElem?_eq_some_iff.1 I2.out).1).trans I2.out
           have y0 : w5.cell? ⟨w.heap.size, 0, none⟩ = some (.slice A n c) := by rw [cell_of_row _ _ _ _ _ _ j0]; rfl
           have y1 : w5.cell? ⟨w.heap.size, 1, none⟩ = some (.slice A' n' c') := by rw [cell_of_row _ _ _ _ _ _ j0]; rfl
           have K0 := Lib.hid j0
           have K2 := Lib.hid j2
           have HO5 := Lib.hid (own_base ho5 (show w4.heap.size ≤ _ from (((((Below.refl w4.heap.size w4).alloc (Nat.le_refl _) (Obj.cells #[Value.slice none 0 0, Value.slice none 0 0] 26)).alloc (by simp) (Obj.cells #[Value.slice A' n' c', Value.slice A4 n4 c4] 24)).drew)).size))
           have HB45 := Lib.hid hb45
           have hs5 := hb45.size
           have HBX5 := Lib.hid ((hb5.block w4.heap.size (by simp <;> omega)).trans (alloc_keep (heap_alloc_new w4 (Obj.cells #[Value.slice none 0 0, Value.slice none 0 0] 26)) (Obj.cells #[Value.slice A' n' c', Value.slice A4 n4 c4] 24)))
           have HLT5 := Lib.hid ((hb5.block (w4.heap.size + 1) (by simp <;> omega)).trans (heap_alloc2_new w4 (Obj.cells #[Value.slice none 0 0, Value.slice none 0 0] 26) (Obj.cells #[Value.slice A' n' c', Value.slice A4 n4 c4] 24)))
           clear j0 j2 ho5 hb5 hb45)
        | (go_at_call 23
           have HB5W := ((Below.refl w5.heap.size w5).alloc (Nat.le_refl _) (Obj.cells #[Value.slice A' n' c', Value.slice A4 n4 c4] 24))
           have HB4W := below_then HB45.out HB5W
           (with_reducible refine Calls.mono (CCg.out (w5.alloc (Obj.cells #[Value.slice A' n' c', Value.slice A4 n4 c4] 24)) w5.heap.size (heap_alloc_new w5 (Obj.cells #[Value.slice A' n' c', Value.slice A4 n4 c4] 24)) (below_then HB45.out ((Below.refl w5.heap.size w5).alloc (Nat.le_refl _) (Obj.cells #[Value.slice A' n' c', Value.slice A4 n4 c4] 24)))) ?_)
           rintro e w6 ⟨A6, n6, c6, rfl, ho6, hb6⟩
           have hb46 : Below w4.heap.size w4 w6 := below_then HB4W hb6
           have j0 := (hb46.block _ (Array.getElem?_eq_some_iff.1 I0.out).1).trans I0.out
           have j2 := (hb46.block _ (Array.getElem?_eq_some_iff.1 I2.out).1).trans I2.out
           have z0 : w6.cell? ⟨w.heap.size, 0, none⟩ = some (.slice A n c) := by rw [cell_of_row _ _ _ _ _ _ j0]; rfl
           have z1 : w6.cell? ⟨w.heap.size, 1, none⟩ = some (.slice A' n' c') := by rw [cell_of_row _ _ _ _ _ _ j0]; rfl
           have L2 := Lib.hid j2
           have HO56 := Lib.hid (own_base (own_below (own_below HO5.out HB5W (Nat.le_refl _)) hb6 (Nat.le_refl _)) (show w.heap.size ≤ w4.heap.size by omega))
           have HO6 := Lib.hid (own_base ho6 (show w.heap.size ≤ _ from Nat.le_trans (by omega) HB4W.size))
           have HB6 := Lib.hid (below_then HB4.out hb46)
           have hs6 : w5.heap.size ≤ w6.heap.size := Nat.le_trans HB5W.size hb6.size
           have hbox : w6.heap[w4.heap.size]? = some (.cells #[.slice none 0 0, .slice none 0 0] 26 (0, 0)) := (hb6.block _ ((⟨(alloc_keep HBX5.out (Obj.cells #[Value.slice A' n' c', Value.slice A4 n4 c4] 24)), (Array.getElem?_eq_some_iff.1 (alloc_keep HBX5.out (Obj.cells #[Value.slice A' n' c', Value.slice A4 n4 c4] 24))).1⟩ : _ ∧ _)).2).trans ((⟨(alloc_keep HBX5.out (Obj.cells #[Value.slice A' n' c', Value.slice A4 n4 c4] 24)), (Array.getElem?_eq_some_iff.1 (alloc_keep HBX5.out (Obj.cells #[Value.slice A' n' c', Value.slice A4 n4 c4] 24))).1⟩ : _ ∧ _)).1
           have b0 : w6.cell? ⟨w4.heap.size, 0, none⟩ = some (.slice none 0 0) := by rw [cell_of_row _ _ _ _ _ _ hbox]; rfl
           have b1 : w6.cell? ⟨w4.heap.size, 1, none⟩ = some (.slice none 0 0) := by rw [cell_of_row _ _ _ _ _ _ hbox]; rfl
           have fb0 := frozen_of_row w6 (w4.heap.size) 0 _ 26 hbox
           have fb1 := frozen_of_row w6 (w4.heap.size) 1 _ 26 hbox
           have pp := keep2 (P := w4.heap.size) (v := .slice A5 n5 c5) (v' := .slice A6 n6 c6) (show w.heap.size ≠ w4.heap.size by omega) z0 z1
           have REL := Lib.hid (newDisk_set (P := w4.heap.size) (by omega) rfl hbox j2 HO56.out HO6.out HB6.out)
           clear hbox
           clear j0 j2 ho6 hb6 hb46 HB5W HB4W)
        | (go_at_call 23
           have HB5W := ((Below.refl w5.heap.size w5).alloc (Nat.le_refl _) (Obj.cells #[Value.slice A' n' c', Value.slice A4 n4 c4] 24))
           have HB4W := below_then HB45.out HB5W
           (with_reducible refine Calls.mono (CCg.out (w5.alloc (Obj.cells #[Value.slice A' n' c', Value.slice A4 n4 c4] 24)) w5.heap.size (heap_alloc_new w5 (Obj.cells #[Value.slice A' n' c', Value.slice A4 n4 c4] 24)) (below_then HB45.out ((Below.refl w5.heap.size w5).alloc (Nat.le_refl _) (Obj.cells #[Value.slice A' n' c', Value.slice A4 n4 c4] 24)))) ?_)
           rintro e w6 ⟨A6, n6, c6, rfl, ho6, hb6⟩
           have hb46 : Below w4.heap.size w4 w6 := below_then HB4W hb6
           have j0 := (hb46.block _ (Array.getElem?_eq_some_iff.1 I0.out).1).trans I0.out
           have j2 := (hb46.block _ (Array.getElem?_eq_some_iff.1 I2.out).1).trans I2.out
           have z0 : w6.cell? ⟨w.heap.size, 0, none⟩ = some (.slice A n c) := by rw [cell_of_row _ _ _ _ _ _ j0]; rfl
           have z1 : w6.cell? ⟨w.heap.size, 1, none⟩ = some (.slice A' n' c') := by rw [cell_of_row _ _ _ _ _ _ j0]; rfl
           have L2 := Lib.hid j2
           have HO56 := Lib.hid (own_base (own_below (own_below HO5.out HB5W (Nat.le_refl _)) hb6 (Nat.le_refl _)) (show w.heap.size ≤ w4.heap.size by omega))
           have HO6 := Lib.hid (own_base ho6 (show w.heap.size ≤ _ from Nat.le_trans (by omega) HB4W.size))
           have HB6 := Lib.hid (below_then HB4.out hb46)
           have hs6 : w5.heap.size ≤ w6.heap.size := Nat.le_trans HB5W.size hb6.size
           have REL := Lib.hid (fun (X : World) (hX : X = w6.alloc (.cells #[.slice A5 n5 c5, .slice A6 n6 c6] 26)) => (show NewDisk w vs us rec (.pointer (some ⟨w6.heap.size, 0, none⟩)) X by rw [hX]; exact ⟨w6.heap.size, A5, n5, c5, A6, n6, c6, rfl, by omega, heap_alloc_new _ _, alloc_keep L2.out _, HO56.out.alloc _, HO6.out.alloc _, HB6.out.alloc HB6.out.size _⟩))
           clear j0 j2 ho6 hb6 hb46 HB5W HB4W)
        | (go_at_call 23
           have HB5W := (((Below.refl w5.heap.size w5).alloc (Nat.le_refl _) (Obj.cells #[Value.slice A' n' c', Value.slice A4 n4 c4] 24)).alloc (by simp) (Obj.cells #[Value.slice none 0 0, Value.slice none 0 0] 26))
           have HB4W := below_then HB45.out HB5W
           (with_reducible refine Calls.mono (CCg.out ((w5.alloc (Obj.cells #[Value.slice A' n' c', Value.slice A4 n4 c4] 24)).alloc (Obj.cells #[Value.slice none 0 0, Value.slice none 0 0] 26)) w5.heap.size (alloc_keep (heap_alloc_new w5 (Obj.cells #[Value.slice A' n' c', Value.slice A4 n4 c4] 24)) (Obj.cells #[Value.slice none 0 0, Value.slice none 0 0] 26)) (below_then HB45.out (((Below.refl w5.heap.size w5).alloc (Nat.le_refl _) (Obj.cells #[Value.slice A' n' c', Value.slice A4 n4 c4] 24)).alloc (by simp) (Obj.cells #[Value.slice none 0 0, Value.slice none 0 0] 26)))) ?_)
           rintro e w6 ⟨A6, n6, c6, rfl, ho6, hb6⟩
           have hb46 : Below w4.heap.size w4 w6 := below_then HB4W hb6
           have j0 := (hb46.block _ (Array.getElem?_eq_some_iff.1 I0.out).1).trans I0.out
           have j2 := (hb46.block _ (Array.getElem?_eq_some_iff.1 I2.out).1).trans I2.out
           have z0 : w6.cell? ⟨w.heap.size, 0, none⟩ = some (.slice A n c) := by rw [cell_of_row _ _ _ _ _ _ j0]; rfl
           have z1 : w6.cell? ⟨w.heap.size, 1, none⟩ = some (.slice A' n' c') := by rw [cell_of_row _ _ _ _ _ _ j0]; rfl
           have L2 := Lib.hid j2
           have HO56 := Lib.hid (own_base (own_below (own_below HO5.out HB5W (Nat.le_refl _)) hb6 (Nat.le_refl _)) (show w.heap.size ≤ w4.heap.size by omega))
           have HO6 := Lib.hid (own_base ho6 (show w.heap.size ≤ _ from Nat.le_trans (by omega) HB4W.size))
           have HB6 := Lib.hid (below_then HB4.out hb46)
           have hs6 : w5.heap.size ≤ w6.heap.size := Nat.le_trans HB5W.size hb6.size
           have hbox : w6.heap[(w5.heap.size + 1)]? = some (.cells #[.slice none 0 0, .slice none 0 0] 26 (0, 0)) := (hb6.block _ ((⟨(heap_alloc2_new w5 (Obj.cells #[Value.slice A' n' c', Value.slice A4 n4 c4] 24) (Obj.cells #[Value.slice none 0 0, Value.slice none 0 0] 26)), (Array.getElem?_eq_some_iff.1 (heap_alloc2_new w5 (Obj.cells #[Value.slice A' n' c', Value.slice A4 n4 c4] 24) (Obj.cells #[Value.slice none 0 0, Value.slice none 0 0] 26))).1⟩ : _ ∧ _)).2).trans ((⟨(heap_alloc2_new w5 (Obj.cells #[Value.slice A' n' c', Value.slice A4 n4 c4] 24) (Obj.cells #[Value.slice none 0 0, Value.slice none 0 0] 26)), (Array.getElem?_eq_some_iff.1 (heap_alloc2_new w5 (Obj.cells #[Value.slice A' n' c', Value.slice A4 n4 c4] 24) (Obj.cells #[Value.slice none 0 0, Value.slice none 0 0] 26))).1⟩ : _ ∧ _)).1
           have b0 : w6.cell? ⟨(w5.heap.size + 1), 0, none⟩ = some (.slice none 0 0) := by rw [cell_of_row _ _ _ _ _ _ hbox]; rfl
           have b1 : w6.cell? ⟨(w5.heap.size + 1), 1, none⟩ = some (.slice none 0 0) := by rw [cell_of_row _ _ _ _ _ _ hbox]; rfl
           have fb0 := frozen_of_row w6 ((w5.heap.size + 1)) 0 _ 26 hbox
           have fb1 := frozen_of_row w6 ((w5.heap.size + 1)) 1 _ 26 hbox
           have pp := keep2 (P := (w5.heap.size + 1)) (v := .slice A5 n5 c5) (v' := .slice A6 n6 c6) (show w.heap.size ≠ (w5.heap.size + 1) by omega) z0 z1
           have REL := Lib.hid (newDisk_set (P := (w5.heap.size + 1)) (by omega) rfl hbox j2 HO56.out HO6.out HB6.out)
           clear hbox
           clear j0 j2 ho6 hb6 hb46 HB5W HB4W)
        | (go_at_call 23
           have HB5W := (((Below.refl w5.heap.size w5).alloc (Nat.le_refl _) (Obj.cells #[Value.slice none 0 0, Value.slice none 0 0] 26)).alloc (by simp) (Obj.cells #[Value.slice A' n' c', Value.slice A4 n4 c4] 24))
           have HB4W := below_then HB45.out HB5W
           (with_reducible refine Calls.mono (CCg.out ((w5.alloc (Obj.cells #[Value.slice none 0 0, Value.slice none 0 0] 26)).alloc (Obj.cells #[Value.slice A' n' c', Value.slice A4 n4 c4] 24)) (w5.heap.size + 1) (heap_alloc2_new w5 (Obj.cells #[Value.slice none 0 0, Value.slice none 0 0] 26) (Obj.cells #[Value.slice A' n' c', Value.slice A4 n4 c4] 24)) (below_then HB45.out (((Below.refl w5.heap.size w5).alloc (Nat.le_refl _) (Obj.cells #[Value.slice none 0 0, Value.slice none 0 0] 26)).alloc (by simp) (Obj.cells #[Value.slice A' n' c', Value.slice A4 n4 c4] 24)))) ?_)
           rintro e w6 ⟨A6, n6, c6, rfl, ho6, hb6⟩
           have hb46 : Below w4.heap.size w4 w6 := below_then HB4W hb6
           have j0 := (hb46.block _ (Array.getElem?_eq_some_iff.1 I0.out).1).trans I0.out
           have j2 := (hb46.block _ (Array.getElem?_eq_some_iff.1 I2.out).1).trans I2.out
           have z0 : w6.cell? ⟨w.heap.size, 0, none⟩ = some (.slice A n c) := by rw [cell_of_row _ _ _ _ _ _ j0]; rfl
           have z1 : w6.cell? ⟨w.heap.size, 1, none⟩ = some (.slice A' n' c') := by rw [cell_of_row _ _ _ _ _ _ j0]; rfl
           have L2 := Lib.hid j2
           have HO56 := Lib.hid (own_base (own_below (own_below HO5.out HB5W (Nat.le_refl _)) hb6 (Nat.le_refl _)) (show w.heap.size ≤ w4.heap.size by omega))
           have HO6 := Lib.hid (own_base ho6 (show w.heap.size ≤ _ from Nat.le_trans (by omega) HB4W.size))
           have HB6 := Lib.hid (below_then HB4.out hb46)
           have hs6 : w5.heap.size ≤ w6.heap.size := Nat.le_trans HB5W.size hb6.size
           have hbox : w6.heap[w5.heap.size]? = some (.cells #[.slice none 0 0, .slice none 0 0] 26 (0, 0)) := (hb6.block _ ((⟨(alloc_keep (heap_alloc_new w5 (Obj.cells #[Value.slice none 0 0, Value.slice none 0 0] 26)) (Obj.cells #[Value.slice A' n' c', Value.slice A4 n4 c4] 24)), (Array.getElem?_eq_some_iff.1 (alloc_keep (heap_alloc_new w5 (Obj.cells #[Value.slice none 0 0, Value.slice none 0 0] 26)) (Obj.cells #[Value.slice A' n' c', Value.slice A4 n4 c4] 24))).1⟩ : _ ∧ _)).2).trans ((⟨(alloc_keep (heap_alloc_new w5 (Obj.cells #[Value.slice none 0 0, Value.slice none 0 0] 26)) (Obj.cells #[Value.slice A' n' c', Value.slice A4 n4 c4] 24)), (Array.getElem?_eq_some_iff.1 (alloc_keep (heap_alloc_new w5 (Obj.cells #[Value.slice none 0 0, Value.slice none 0 0] 26)) (Obj.cells #[Value.slice A' n' c', Value.slice A4 n4 c4] 24))).1⟩ : _ ∧ _)).1
           have b0 : w6.cell? ⟨w5.heap.size, 0, none⟩ = some (.slice none 0 0) := by rw [cell_of_row _ _ _ _ _ _ hbox]; rfl
           have b1 : w6.cell? ⟨w5.heap.size, 1, none⟩ = some (.slice none 0 0) := by rw [cell_of_row _ _ _ _ _ _ hbox]; rfl
           have fb0 := frozen_of_row w6 (w5.heap.size) 0 _ 26 hbox
           have fb1 := frozen_of_row w6 (w5.heap.size) 1 _ 26 hbox
           have pp := keep2 (P := w5.heap.size) (v := .slice A5 n5 c5) (v' := .slice A6 n6 c6) (show w.heap.size ≠ w5.heap.size by omega) z0 z1
           have REL := Lib.hid (newDisk_set (P := w5.heap.size) (by omega) rfl hbox j2 HO56.out HO6.out HB6.out)
           clear hbox
           clear j0 j2 ho6 hb6 hb46 HB5W HB4W)
        | (go_at_call 23
           have HB5W := (Below.refl w5.heap.size w5)
           have HB4W := below_then HB45.out HB5W
           (with_reducible refine Calls.mono (CCg.out w5 (w4.heap.size + 1) HLT5.out HB45.out) ?_)
           rintro e w6 ⟨A6, n6, c6, rfl, ho6, hb6⟩
           have hb46 : Below w4.heap.size w4 w6 := below_then HB4W hb6
           have j0 := (hb46.block _ (Array.getElem?_eq_some_iff.1 I0.out).1).trans I0.out
           have j2 := (hb46.block _ (Array.getElem?_eq_some_iff.1 I2.out).1).trans I2.out
           have z0 : w6.cell? ⟨w.heap.size, 0, none⟩ = some (.slice A n c) := by rw [cell_of_row _ _ _ _ _ _ j0]; rfl
           have z1 : w6.cell? ⟨w.heap.size, 1, none⟩ = some (.slice A' n' c') := by rw [cell_of_row _ _ _ _ _ _ j0]; rfl
           have L2 := Lib.hid j2
           have HO56 := Lib.hid (own_base (own_below (own_below HO5.out HB5W (Nat.le_refl _)) hb6 (Nat.le_refl _)) (show w.heap.size ≤ w4.heap.size by omega))
           have HO6 := Lib.hid (own_base ho6 (show w.heap.size ≤ _ from Nat.le_trans (by omega) HB4W.size))
           have HB6 := Lib.hid (below_then HB4.out hb46)
           have hs6 : w5.heap.size ≤ w6.heap.size := Nat.le_trans HB5W.size hb6.size
           have hbox : w6.heap[w4.heap.size]? = some (.cells #[.slice none 0 0, .slice none 0 0] 26 (0, 0)) := (hb6.block _ ((⟨HBX5.out, (Array.getElem?_eq_some_iff.1 HBX5.out).1⟩ : _ ∧ _)).2).trans ((⟨HBX5.out, (Array.getElem?_eq_some_iff.1 HBX5.out).1⟩ : _ ∧ _)).1
           have b0 : w6.cell? ⟨w4.heap.size, 0, none⟩ = some (.slice none 0 0) := by rw [cell_of_row _ _ _ _ _ _ hbox]; rfl
           have b1 : w6.cell? ⟨w4.heap.size, 1, none⟩ = some (.slice none 0 0) := by rw [cell_of_row _ _ _ _ _ _ hbox]; rfl
           have fb0 := frozen_of_row w6 (w4.heap.size) 0 _ 26 hbox
           have fb1 := frozen_of_row w6 (w4.heap.size) 1 _ 26 hbox
           have pp := keep2 (P := w4.heap.size) (v := .slice A5 n5 c5) (v' := .slice A6 n6 c6) (show w.heap.size ≠ w4.heap.size by omega) z0 z1
           have REL := Lib.hid (newDisk_set (P := w4.heap.size) (by omega) rfl hbox j2 HO56.out HO6.out HB6.out)
           clear hbox
           clear j0 j2 ho6 hb6 hb46 HB5W HB4W)
        | (go_at_call 23
           have HB5W := (Below.refl w5.heap.size w5)
           have HB4W := below_then HB45.out HB5W
           (with_reducible refine Calls.mono (CCg.out w5 w4.heap.size HLT5.out HB45.out) ?_)
           rintro e w6 ⟨A6, n6, c6, rfl, ho6, hb6⟩
           have hb46 : Below w4.heap.size w4 w6 := below_then HB4W hb6
           have j0 := (hb46.block _ (Array.getElem?_eq_some_iff.1 I0.out).1).trans I0.out
           have j2 := (hb46.block _ (Array.getElem?_eq_some_iff.1 I2.out).1).trans I2.out
           have z0 : w6.cell? ⟨w.heap.size, 0, none⟩ = some (.slice A n c) := by rw [cell_of_row _ _ _ _ _ _ j0]; rfl
           have z1 : w6.cell? ⟨w.heap.size, 1, none⟩ = some (.slice A' n' c') := by rw [cell_of_row _ _ _ _ _ _ j0]; rfl
           have L2 := Lib.hid j2
           have HO56 := Lib.hid (own_base (own_below (own_below HO5.out HB5W (Nat.le_refl _)) hb6 (Nat.le_refl _)) (show w.heap.size ≤ w4.heap.size by omega))
           have HO6 := Lib.hid (own_base ho6 (show w.heap.size ≤ _ from Nat.le_trans (by omega) HB4W.size))
           have HB6 := Lib.hid (below_then HB4.out hb46)
           have hs6 : w5.heap.size ≤ w6.heap.size := Nat.le_trans HB5W.size hb6.size
           have hbox : w6.heap[(w4.heap.size + 1)]? = some (.cells #[.slice none 0 0, .slice none 0 0] 26 (0, 0)) := (hb6.block _ ((⟨HBX5.out, (Array.getElem?_eq_some_iff.1 HBX5.out).1⟩ : _ ∧ _)).2).trans ((⟨HBX5.out, (Array.getElem?_eq_some_iff.1 HBX5.out).1⟩ : _ ∧ _)).1
           have b0 : w6.cell? ⟨(w4.heap.size + 1), 0, none⟩ = some (.slice none 0 0) := by rw [cell_of_row _ _ _ _ _ _ hbox]; rfl
           have b1 : w6.cell? ⟨(w4.heap.size + 1), 1, none⟩ = some (.slice none 0 0) := by rw [cell_of_row _ _ _ _ _ _ hbox]; rfl
           have fb0 := frozen_of_row w6 ((w4.heap.size + 1)) 0 _ 26 hbox
           have fb1 := frozen_of_row w6 ((w4.heap.size + 1)) 1 _ 26 hbox
           have pp := keep2 (P := (w4.heap.size + 1)) (v := .slice A5 n5 c5) (v' := .slice A6 n6 c6) (show w.heap.size ≠ (w4.heap.size + 1) by omega) z0 z1
           have REL := Lib.hid (newDisk_set (P := (w4.heap.size + 1)) (by omega) rfl hbox j2 HO56.out HO6.out HB6.out)
           clear hbox
           clear j0 j2 ho6 hb6 hb46 HB5W HB4W)
        | (go_at_call 23
           have HB5W := (Below.refl w5.heap.size w5)
           have HB4W := below_then HB45.out HB5W
           (with_reducible refine Calls.mono (CCg.out w5 w4.heap.size HLT5.out HB45.out) ?_)
           rintro e w6 ⟨A6, n6, c6, rfl, ho6, hb6⟩
           have hb46 : Below w4.heap.size w4 w6 := below_then HB4W hb6
           have j0 := (hb46.block _ (Array.getElem?_eq_some_iff.1 I0.out).1).trans I0.out
           have j2 := (hb46.block _ (Array.getElem?_eq_some_iff.1 I2.out).1).trans I2.out
           have z0 : w6.cell? ⟨w.heap.size, 0, none⟩ = some (.slice A n c) := by rw [cell_of_row _ _ _ _ _ _ j0]; rfl
           have z1 : w6.cell? ⟨w.heap.size, 1, none⟩ = some (.slice A' n' c') := by rw [cell_of_row _ _ _ _ _ _ j0]; rfl
           have L2 := Lib.hid j2
           have HO56 := Lib.hid (own_base (own_below (own_below HO5.out HB5W (Nat.le_refl _)) hb6 (Nat.le_refl _)) (show w.heap.size ≤ w4.heap.size by omega))
           have HO6 := Lib.hid (own_base ho6 (show w.heap.size ≤ _ from Nat.le_trans (by omega) HB4W.size))
           have HB6 := Lib.hid (below_then HB4.out hb46)
           have hs6 : w5.heap.size ≤ w6.heap.size := Nat.le_trans HB5W.size hb6.size
           have REL := Lib.hid (fun (X : World) (hX : X = w6.alloc (.cells #[.slice A5 n5 c5, .slice A6 n6 c6] 26)) => (show NewDisk w vs us rec (.pointer (some ⟨w6.heap.size, 0, none⟩)) X by rw [hX]; exact ⟨w6.heap.size, A5, n5, c5, A6, n6, c6, rfl, by omega, heap_alloc_new _ _, alloc_keep L2.out _, HO56.out.alloc _, HO6.out.alloc _, HB6.out.alloc HB6.out.size _⟩))
           clear j0 j2 ho6 hb6 hb46 HB5W HB4W)
        | (go_at_call 23
           have HB5W := ((Below.refl w5.heap.size w5).alloc (Nat.le_refl _) (Obj.cells #[Value.slice none 0 0, Value.slice none 0 0] 26))
           have HB4W := below_then HB45.out HB5W
           (with_reducible refine Calls.mono (CCg.out (w5.alloc (Obj.cells #[Value.slice none 0 0, Value.slice none 0 0] 26)) w4.heap.size (alloc_keep HLT5.out (Obj.cells #[Value.slice none 0 0, Value.slice none 0 0] 26)) (below_then HB45.out ((Below.refl w5.heap.size w5).alloc (Nat.le_refl _) (Obj.cells #[Value.slice none 0 0, Value.slice none 0 0] 26)))) ?_)
           rintro e w6 ⟨A6, n6, c6, rfl, ho6, hb6⟩
           have hb46 : Below w4.heap.size w4 w6 := below_then HB4W hb6
           have j0 := (hb46.block _ (Array.getElem?_eq_some_iff.1 I0.out).1).trans I0.out
           have j2 := (hb46.block _ (Array.getElem?_eq_some_iff.1 I2.out).1).trans I2.out
           have z0 : w6.cell? ⟨w.heap.size, 0, none⟩ = some (.slice A n c) := by rw [cell_of_row _ _ _ _ _ _ j0]; rfl
           have z1 : w6.cell? ⟨w.heap.size, 1, none⟩ = some (.slice A' n' c') := by rw [cell_of_row _ _ _ _ _ _ j0]; rfl
           have L2 := Lib.hid j2
           have HO56 := Lib.hid (own_base (own_below (own_below HO5.out HB5W (Nat.le_refl _)) hb6 (Nat.le_refl _)) (show w.heap.size ≤ w4.heap.size by omega))
           have HO6 := Lib.hid (own_base ho6 (show w.heap.size ≤ _ from Nat.le_trans (by omega) HB4W.size))
           have HB6 := Lib.hid (below_then HB4.out hb46)
           have hs6 : w5.heap.size ≤ w6.heap.size := Nat.le_trans HB5W.size hb6.size
           have hbox : w6.heap[w5.heap.size]? = some (.cells #[.slice none 0 0, .slice none 0 0] 26 (0, 0)) := (hb6.block _ ((⟨(heap_alloc_new w5 (Obj.cells #[Value.slice none 0 0, Value.slice none 0 0] 26)), (Array.getElem?_eq_some_iff.1 (heap_alloc_new w5 (Obj.cells #[Value.slice none 0 0, Value.slice none 0 0] 26))).1⟩ : _ ∧ _)).2).trans ((⟨(heap_alloc_new w5 (Obj.cells #[Value.slice none 0 0, Value.slice none 0 0] 26)), (Array.getElem?_eq_some_iff.1 (heap_alloc_new w5 (Obj.cells #[Value.slice none 0 0, Value.slice none 0 0] 26))).1⟩ : _ ∧ _)).1
           have b0 : w6.cell? ⟨w5.heap.size, 0, none⟩ = some (.slice none 0 0) := by rw [cell_of_row _ _ _ _ _ _ hbox]; rfl
           have b1 : w6.cell? ⟨w5.heap.size, 1, none⟩ = some (.slice none 0 0) := by rw [cell_of_row _ _ _ _ _ _ hbox]; rfl
           have fb0 := frozen_of_row w6 (w5.heap.size) 0 _ 26 hbox
           have fb1 := frozen_of_row w6 (w5.heap.size) 1 _ 26 hbox
           have pp := keep2 (P := w5.heap.size) (v := .slice A5 n5 c5) (v' := .slice A6 n6 c6) (show w.heap.size ≠ w5.heap.size by omega) z0 z1
           have REL := Lib.hid (newDisk_set (P := w5.heap.size) (by omega) rfl hbox j2 HO56.out HO6.out HB6.out)
           clear hbox
           clear j0 j2 ho6 hb6 hb46 HB5W HB4W))
    all_goals
      go_wp2
      go_meet
      case rel => (first | exact REL.out | exact REL.out _ rfl)
  obtain ⟨P, A5, n5, c5, A6, n6, c6, rfl, hP, hPb, h2b, hO5, hO6, hBw⟩ := hcut
  have g0 : wc.cell? ⟨P, 0, none⟩ = some (.slice A5 n5 c5) := by rw [cell_of_row _ _ _ _ _ _ hPb]; rfl
  have g1 : wc.cell? ⟨P, 1, none⟩ = some (.slice A6 n6 c6) := by rw [cell_of_row _ _ _ _ _ _ hPb]; rfl
  have t0 : wc.cell? ⟨w.heap.size + 2, 0, none⟩ = some (.slice none 0 0) := by rw [cell_of_row _ _ _ _ _ _ h2b]; rfl
  have t1 : wc.cell? ⟨w.heap.size + 2, 1, none⟩ = some (.slice none 0 0) := by rw [cell_of_row _ _ _ _ _ _ h2b]; rfl
  have f0 := frozen_of_row wc (w.heap.size + 2) 0 _ 26 h2b
  have f1 := frozen_of_row wc (w.heap.size + 2) 1 _ 26 h2b
  have hn5 : n5 ≤ 30000 := by have := (Arr.of_own hO5).len; have := HD.out.safe.len; omega
  have hn6 : n6 ≤ 40000 := by
    have h := (Arr.of_own hO6).len
    rw [List.length_append] at h
    have h2 := HD.out.open_.len
    have e : (frameB rec).length = 8 + rec.length := by simp [frameB, be4]; omega
    omega
  have hd5 : decide ((1048576 : Int) < (n5 : Int) + (n6 : Int)) = false := by simp; omega
  obtain ⟨F, hF⟩ : ∃ F, F = (wc.setCell ⟨w.heap.size + 2, 0, none⟩ (.slice A5 n5 c5)).setCell ⟨w.heap.size + 2, 1, none⟩ (.slice A6 n6 c6) := ⟨_, rfl⟩
  have n26 : ∀ (x : Array Value) cs, Obj.cells x 26 (0, 0) ≠ .cells cs 5 (0, 0) := fun x cs e => by injection e; rename_i e1 e2 e3; exact absurd e2 (by decide)
  have hFb : F.heap[w.heap.size + 2]? = some (.cells #[.slice A5 n5 c5, .slice A6 n6 c6] 26 (0, 0)) := by rw [hF]; exact one_put (one_put h2b)
  have q0 : F.cell? ⟨w.heap.size + 2, 0, none⟩ = some (.slice A5 n5 c5) := by rw [cell_of_row _ _ _ _ _ _ hFb]; rfl
  have q1 : F.cell? ⟨w.heap.size + 2, 1, none⟩ = some (.slice A6 n6 c6) := by rw [cell_of_row _ _ _ _ _ _ hFb]; rfl
  have o : ∀ {A : Option Addr} {m c : Nat} {xs : List Value}, wc.ownsRow w.heap.size 5 1 (.slice A m c) m xs → F.ownsRow w.heap.size 5 1 (.slice A m c) m xs := fun h => by
    rw [hF]
    have x := own_other h h2b (n26 _)
    exact ownsRow_setCell_other (ownsRow_setCell_other h x _) x _
  have efr : frB (us ++ [⟨no, week, cost, false⟩]) = frB us ++ frameB rec := by rw [frB_append, HREC.out]; simp [frB]
  have FIN : Hid (RetDisk w vs (us ++ [⟨no, week, cost, false⟩]) (.returned (.tuple #[.agg #[.slice A5 n5 c5, .slice A6 n6 c6], .int .i64 0])) F) := Lib.hid ⟨A5, n5, c5, A6, n6, c6, rfl, ⟨Arr.of_own (o hO5), by rw [efr]; exact Arr.of_own (o hO6), HD.out.ok1, HOK2.out, by simp; have := HM1.out; have := HM2.out; omega⟩,
    by rw [hF]; exact (hBw.setCell (by show w.heap.size ≤ w.heap.size + 2; omega) _).setCell (by show w.heap.size ≤ w.heap.size + 2; omega) _⟩
  have HF := Lib.hid hF
  clear hPb h2b hO5 hO6 hBw hF hFb o efr n26 x0 x1
  go_wp2_with (fail)
  rw [← HF.out]
  exact bodyPost_ret (v := .tuple #[.agg #[.slice A5 n5 c5, .slice A6 n6 c6], .int .i64 0]) (by simp [results, Tryz.results5, go_sem, q0, q1]) rfl FIN.out
end Go.Proofs.YtpncejdamjbnlaaGreatDoor
end
