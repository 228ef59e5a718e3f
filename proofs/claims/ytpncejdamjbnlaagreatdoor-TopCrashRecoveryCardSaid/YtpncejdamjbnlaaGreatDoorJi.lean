/-
  A part of the proof of TopCrashRecovery: walks of the functions that the law calls.
-/
import Derived.Test.YtpncejdamjbnlaaGreatDoorJf
set_option linter.all false
section
namespace Go.Proofs.YtpncejdamjbnlaaGreatDoor
open Go.RowKit Jour
structure DiskOf (w : World) (A : Option Addr) (n c : Nat) (A' : Option Addr) (n' c' : Nat) (vs us : List Ver) : Prop where
  safe : Arr w A n c (frB vs)
  open_ : Arr w A' n' c' (frB us)
  ok1 : OkL 1 vs
  ok2 : OkL (1 + (vs.length : Int)) us
  few : vs.length + us.length ≤ 16
theorem frB_len {s : Int} {vs : List Ver} (h : OkL s vs) : (frB vs).length ≤ 1328 * vs.length := by
  induction vs generalizing s with
  | nil => simp [frB]
  | cons v vs ih =>
    have := ih h.2.2.2
    obtain ⟨hno, hco, hl⟩ := may_parts h.2.1
    have hr := record_len v ⟨by omega, by omega⟩ ⟨by omega, by omega⟩ h.2.2.1 hl
    have e : (frB (v :: vs)).length = (frameB (recordB v)).length + (frB vs).length := by simp [frB]
    have e2 : (frameB (recordB v)).length = 8 + (recordB v).length := by simp [frameB, be4]; omega
    rw [e, e2]
    simp only [List.length_cons]
    omega
theorem DiskOf.belowLt {w w' : World} {A A' : Option Addr} {n c n' c' : Nat} {vs us : List Ver} (h : DiskOf w A n c A' n' c' vs us) (hb : Below w.heap.size w w') : DiskOf w' A n c A' n' c' vs us :=
  ⟨h.safe.belowLt hb, h.open_.belowLt hb, h.ok1, h.ok2, h.few⟩
theorem DiskOf.small {w : World} {A A' : Option Addr} {n c n' c' : Nat} {vs us : List Ver} (h : DiskOf w A n c A' n' c' vs us) : n + n' ≤ 30000 := by
  have h1 := frB_len h.ok1
  have h2 := frB_len h.ok2
  have := h.safe.len
  have := h.open_.len
  have := h.few
  omega
def RetRead (w : World) (vs us : List Ver) (e : Ending) (w' : World) : Prop := ∃ A c A' c', e = .returned (.tuple #[.slice A vs.length c, .slice A' us.length c', .int .i64 0]) ∧ OwnV w' w.heap.size (.slice A vs.length c) vs ∧ OwnV w' w.heap.size (.slice A' us.length c') us ∧ Below w.heap.size w w'
set_option maxHeartbeats 2000000 in
set_option maxRecDepth 100000 in
theorem read_disk (w : World) (A A' : Option Addr) (n c n' c' : Nat) (vs us : List Ver) (h : DiskOf w A n c A' n' c' vs us) :
    Calls Tryz.prog 8 #[.agg #[.slice A n c, .slice A' n' c']] w (RetRead w vs us) := by
  have hsm := h.small
  have hcap1 := h.safe.cap
  have hmax1 := h.safe.max
  have hcap2 := h.open_.cap
  have hmax2 := h.open_.max
  unfold maxLen at hmax1 hmax2
  have hd : decide ((1048576 : Int) < (n : Int) + (n' : Int)) = false := by simp; omega
  have hfew := h.few
  have CF := Lib.hid (fun W => from_any W 1)
  have HD := Lib.hid h
  obtain ⟨W0, hW0⟩ : ∃ W0, W0 = (w.alloc (Obj.cells #[Value.slice A n c, Value.slice A' n' c'] 26)) := ⟨_, rfl⟩
  have hbx : W0.heap[w.heap.size]? = some (.cells #[Value.slice A n c, Value.slice A' n' c'] 26 (0, 0)) := by rw [hW0]; exact heap_alloc_new _ _
  have hal : Below w.heap.size w W0 := by rw [hW0]; exact alloc_lt _
  have hs0 : W0.heap.size = w.heap.size + 1 := by rw [hW0]; simp
  obtain ⟨W1, hW1⟩ : ∃ W1, W1 = W0.alloc (.cells #[.int .i64 1] 3) := ⟨_, rfl⟩
  have hs1 : W1.heap.size = w.heap.size + 2 := by rw [hW1]; simp [hs0]
  have hb1 : W1.heap[w.heap.size + 1]? = some (.cells #[.int .i64 ((1 : Nat) : Int)] 3 (0, 0)) := by
    rw [hW1]
    have := heap_alloc_new W0 (.cells #[.int .i64 1] 3)
    rw [hs0] at this
    exact this
  have hbx1 : W1.heap[w.heap.size]? = some (.cells #[Value.slice A n c, Value.slice A' n' c'] 26 (0, 0)) := by rw [hW1]; exact alloc_keep hbx _
  have hal1 : Below w.heap.size w W1 := by rw [hW1]; exact hal.alloc (by omega) _
  have CV1 := Lib.hid (versions_ok W1 n c (w.heap.size + 1) 1 A vs (h.safe.belowLt hal1) (by omega) h.ok1 (by omega) hb1)
  have e0 : W1.cell? ⟨w.heap.size, 0, none⟩ = some (.slice A n c) := by rw [cell_of_row _ _ _ _ _ _ hbx1]; rfl
  have HS1 := Lib.hid hs1
  have HBX1 := Lib.hid hbx1
  have HAL1 := Lib.hid hal1
  have HW0 := Lib.hid hW0
  have HW1 := Lib.hid hW1
  have HS0 := Lib.hid hs0
  clear h hW0 hW1 hs0 hs1 hb1 hbx hbx1 hal hal1
  go_enter Tryz.func8, Tryz.ntmps8
  go_wp2_with (fail)
  rw [← HW0.out]
  (with_reducible refine (CF.out _).mono ?_)
  rintro e w1 ⟨rfl, rfl⟩
  rw [← HW1.out, HS0.out]
  go_wp2_with (fail)
  (with_reducible refine CV1.out.mono ?_)
  rintro e w2 ⟨A1, c1, rfl, ho1, hb2, hg2⟩
  have hbx2 := grown_keep hg2 HBX1.out (fun e => by injection e with e; omega)
  have e1 : w2.cell? ⟨w.heap.size, 1, none⟩ = some (.slice A' n' c') := by rw [cell_of_row _ _ _ _ _ _ hbx2]; rfl
  have hal2 : Below w.heap.size w w2 := HAL1.out.grown hg2 HAL1.out.size (fun k e => by injection e with e; omega)
  have hok2 := HD.out.ok2
  have eok : (1 + (vs.length : Int)) = ((1 + vs.length : Nat) : Int) := by omega
  rw [eok] at hok2
  have CV2 := Lib.hid (versions_ok w2 n' c' (w.heap.size + 1) (1 + vs.length) A' us (HD.out.open_.belowLt hal2) (by omega) hok2 (by omega) hb2)
  have HO1 := Lib.hid ho1
  have HG2 := Lib.hid hg2
  have HAL2 := Lib.hid hal2
  clear ho1 hb2 hg2 hbx2 hal2 hok2 eok CV1
  go_wp2_with (fail)
  (with_reducible refine CV2.out.mono ?_)
  rintro e w3 ⟨A3, c3, rfl, ho3, hb3, hg3⟩
  have HO3 := Lib.hid (ho3.base (HAL2.out.size))
  have HO13 := Lib.hid ((HO1.out.grown hg3 (by rw [HS1.out]; omega)).base (HAL1.out.size))
  have HAL3 : Hid (Below w.heap.size w w3) := Lib.hid (HAL2.out.grown hg3 HAL2.out.size (fun k e => by injection e with e; omega))
  clear ho3 hb3 hg3 CV2
  go_wp2_with (fail)
  go_ret3
  exact ⟨A1, c1, A3, c3, rfl, HO13.out, HO3.out, HAL3.out⟩
def RetOk (w : World) (e : Ending) (w' : World) : Prop := e = .returned (.int .i64 0) ∧ Below w.heap.size w w'
set_option maxHeartbeats 1000000 in
set_option maxRecDepth 100000 in
theorem check_disk (w : World) (A A' : Option Addr) (n c n' c' : Nat) (vs us : List Ver) (h : DiskOf w A n c A' n' c' vs us) :
    Calls Tryz.prog 24 #[.agg #[.slice A n c, .slice A' n' c']] w (RetOk w) := by
  have C := Lib.hid (read_disk (w.alloc (Obj.cells #[Value.slice A n c, Value.slice A' n' c'] 26)) A A' n c n' c' vs us (h.belowLt (alloc_lt _)))
  clear h
  go_enter Tryz.func24, Tryz.ntmps24
  go_wp2_with (fail)
  (with_reducible refine C.out.mono ?_)
  rintro e w2 ⟨A1, c1, A2, c2, rfl, _, _, hb⟩
  have HB := Lib.hid (below_then (alloc_lt _) hb)
  clear hb
  go_wp2_with (fail)
  go_ret
  exact ⟨rfl, HB.out⟩
end Go.Proofs.YtpncejdamjbnlaaGreatDoor
end
section
namespace Go.Proofs.YtpncejdamjbnlaaGreatDoor
open Go.RowKit Jour
def RetDisk (w : World) (vs us : List Ver) (e : Ending) (w' : World) : Prop := ∃ A n c A' n' c', e = .returned (.tuple #[.agg #[.slice A n c, .slice A' n' c'], .int .i64 0]) ∧ DiskOf w' A n c A' n' c' vs us ∧ Below w.heap.size w w'
theorem lit2_rows {w : World} {A A' : Option Addr} {n c n' c' : Nat} {x y : List Byte} (h1 : Arr w A n c x) (h2 : Arr w A' n' c' y) : RowsOf (w.alloc (.cells #[.slice A n c, .slice A' n' c'] 24)) (some ⟨w.heap.size, 0, none⟩) 2 2 [x, y] := by
  have hal := alloc_lt (w := w) (.cells #[.slice A n c, .slice A' n' c'] 24)
  refine ⟨rfl, Nat.le_refl _, by simp [maxLen], [.slice A n c, .slice A' n' c'], (lit_reads w [.slice A n c, .slice A' n' c'] 24 1 2 rfl).more (fun k hk => by simpa using hk), fun i r hi => ?_⟩
  match i, hi with
  | 0, hi => simp at hi; subst hi; exact ⟨A, n, c, x, rfl, rfl, h1.belowLt hal⟩
  | 1, hi => simp at hi; subst hi; exact ⟨A', n', c', y, rfl, rfl, h2.belowLt hal⟩
  | i + 2, hi => simp at hi
theorem frB_append (a b : List Ver) : frB (a ++ b) = frB a ++ frB b := by simp [frB]
theorem OkL.join : ∀ {s : Int} {a b : List Ver}, OkL s a → OkL (s + (a.length : Int)) b → OkL s (a ++ b)
  | s, [], b, _, h => by simpa using h
  | s, v :: a, b, h, hb => ⟨h.1, h.2.1, h.2.2.1, OkL.join h.2.2.2 (by
      have e : s + 1 + (a.length : Int) = s + ((v :: a).length : Int) := by simp only [List.length_cons]; omega
      rw [e]; exact hb)⟩
theorem disk_cells (w : World) (A A' : Option Addr) (n c n' c' : Nat) : (w.alloc (Obj.cells #[Value.slice A n c, Value.slice A' n' c'] 26)).cell? ⟨w.heap.size, 0, none⟩ = some (.slice A n c) ∧ (w.alloc (Obj.cells #[Value.slice A n c, Value.slice A' n' c'] 26)).cell? ⟨w.heap.size, 1, none⟩ = some (.slice A' n' c') := by
  have h := heap_alloc_new w (Obj.cells #[Value.slice A n c, Value.slice A' n' c'] 26)
  refine ⟨?_, ?_⟩ <;> (rw [cell_of_row _ _ _ _ _ _ h]; rfl)
set_option maxHeartbeats 2000000 in
set_option maxRecDepth 100000 in
theorem sync_disk (w : World) (A A' : Option Addr) (n c n' c' : Nat) (vs us : List Ver) (h : DiskOf w A n c A' n' c' vs us) :
    Calls Tryz.prog 6 #[.agg #[.slice A n c, .slice A' n' c']] w (RetDisk w (vs ++ us) []) := by
  obtain ⟨W0, hW0⟩ : ∃ W0, W0 = ((w.alloc (Obj.cells #[Value.slice A n c, Value.slice A' n' c'] 26)).alloc (Obj.cells #[Value.slice none 0 0, Value.slice none 0 0] 26)) := ⟨_, rfl⟩
  have hb0 : W0.heap[w.heap.size]? = some (.cells #[Value.slice A n c, Value.slice A' n' c'] 26 (0, 0)) := by rw [hW0]; exact alloc_keep (heap_alloc_new _ _) _
  have hb1 : W0.heap[w.heap.size + 1]? = some (.cells #[Value.slice none 0 0, Value.slice none 0 0] 26 (0, 0)) := by
    rw [hW0]
    have := heap_alloc_new (w.alloc (Obj.cells #[Value.slice A n c, Value.slice A' n' c'] 26)) (Obj.cells #[Value.slice none 0 0, Value.slice none 0 0] 26)
    rw [World.size_alloc] at this
    exact this
  have hal : Below w.heap.size w W0 := by rw [hW0]; exact (alloc_lt _).alloc (by simp) _
  have C := check_disk W0 A A' n c n' c' vs us (h.belowLt hal)
  rw [hW0] at C
  have HC := Lib.hid C
  have hl0 : w.heap.size < W0.heap.size := (Array.getElem?_eq_some_iff.1 hb0).1
  have hl1 : w.heap.size + 1 < W0.heap.size := (Array.getElem?_eq_some_iff.1 hb1).1
  have HB0 := Lib.hid hb0
  have HB1 := Lib.hid hb1
  have HAL := Lib.hid hal
  have HD := Lib.hid h
  have HW0 := Lib.hid hW0
  clear h hW0 hb0 hb1 hal C
  go_enter Tryz.func6, Tryz.ntmps6
  go_wp2_with (fail)
  (with_reducible refine HC.out.mono ?_)
  rw [← HW0.out]
  rintro e w1 ⟨rfl, hbl⟩
  have j0 := (hbl.block _ hl0).trans HB0.out
  have j1 := (hbl.block _ hl1).trans HB1.out
  have k0 : w1.cell? ⟨w.heap.size, 0, none⟩ = some (.slice A n c) := by rw [cell_of_row _ _ _ _ _ _ j0]; rfl
  have k1 : w1.cell? ⟨w.heap.size, 1, none⟩ = some (.slice A' n' c') := by rw [cell_of_row _ _ _ _ _ _ j0]; rfl
  have hbw := below_then HAL.out hbl
  have CC := Lib.hid (concat_any (w1.alloc (.cells #[.slice A n c, .slice A' n' c'] 24)) _ 2 2 [frB vs, frB us] (lit2_rows (HD.out.safe.belowLt hbw) (HD.out.open_.belowLt hbw)) (by
    have := HD.out.small
    have h1 := HD.out.safe.len
    have h2 := HD.out.open_.len
    simp [tot]; omega))
  have HBW := Lib.hid (hbw.alloc hbw.size (.cells #[.slice A n c, .slice A' n' c'] 24))
  have J1 := Lib.hid (alloc_keep j1 (.cells #[.slice A n c, .slice A' n' c'] 24))
  clear j0 j1 hbw hbl HC
  go_wp2_with (fail)
  (with_reducible refine CC.out.mono ?_)
  rintro e w2 ⟨A2, n2, c2, rfl, ho2, hb2⟩
  have j2 := (hb2.block _ (Array.getElem?_eq_some_iff.1 J1.out).1).trans J1.out
  have z0 : w2.cell? ⟨w.heap.size + 1, 0, none⟩ = some (.slice none 0 0) := by rw [cell_of_row _ _ _ _ _ _ j2]; rfl
  have z1 : w2.cell? ⟨w.heap.size + 1, 1, none⟩ = some (.slice none 0 0) := by rw [cell_of_row _ _ _ _ _ _ j2]; rfl
  have f0 := frozen_of_row w2 (w.heap.size + 1) 0 _ 26 j2
  have f1 := frozen_of_row w2 (w.heap.size + 1) 1 _ 26 j2
  have hB2 := below_then HBW.out hb2
  have n26 : ∀ (x : Array Value) cs, Obj.cells x 26 (0, 0) ≠ .cells cs 5 (0, 0) := fun x cs e => by injection e; rename_i e1 e2 e3; exact absurd e2 (by decide)
  obtain ⟨F, hF⟩ : ∃ F, F = (w2.setCell ⟨w.heap.size + 1, 0, none⟩ (.slice A2 n2 c2)).setCell ⟨w.heap.size + 1, 1, none⟩ (.slice none 0 0) := ⟨_, rfl⟩
  have hFb : F.heap[w.heap.size + 1]? = some (.cells #[.slice A2 n2 c2, .slice none 0 0] 26 (0, 0)) := by rw [hF]; exact one_put (one_put j2)
  have q0 : F.cell? ⟨w.heap.size + 1, 0, none⟩ = some (.slice A2 n2 c2) := by rw [cell_of_row _ _ _ _ _ _ hFb]; rfl
  have q1 : F.cell? ⟨w.heap.size + 1, 1, none⟩ = some (.slice none 0 0) := by rw [cell_of_row _ _ _ _ _ _ hFb]; rfl
  have hFo : F.ownsRow (w.heap.size) 5 1 (.slice A2 n2 c2) n2 (flat (frB (vs ++ us))) := by
    have o : w2.ownsRow w.heap.size 5 1 (.slice A2 n2 c2) n2 (flat (frB (vs ++ us))) := by
      have := own_base ho2 (show w.heap.size ≤ _ from HBW.out.size)
      rw [frB_append]
      simpa [byte_size] using this
    rw [hF]
    have x := own_other o j2 (n26 _)
    exact ownsRow_setCell_other (ownsRow_setCell_other o x _) x _
  have hFB : Below w.heap.size w F := by rw [hF]; exact (hB2.setCell (by show w.heap.size ≤ w.heap.size + 1; omega) _).setCell (by show w.heap.size ≤ w.heap.size + 1; omega) _
  have FIN : Hid (RetDisk w (vs ++ us) [] (.returned (.tuple #[.agg #[.slice A2 n2 c2, .slice none 0 0], .int .i64 0])) F) := Lib.hid ⟨A2, n2, c2, none, 0, 0, rfl, ⟨Arr.of_own hFo, Arr.nil_, OkL.join HD.out.ok1 HD.out.ok2, trivial, by have := HD.out.few; simp; omega⟩, hFB⟩
  have HF := Lib.hid hF
  clear ho2 hb2 j2 hB2 hF hFb hFo hFB n26
  go_wp2_with (fail)
  rw [← HF.out]
  exact bodyPost_ret (v := .tuple #[.agg #[.slice A2 n2 c2, .slice none 0 0], .int .i64 0]) (by simp [results, Tryz.results6, go_sem, q0, q1]) rfl FIN.out
end Go.Proofs.YtpncejdamjbnlaaGreatDoor
end
section
namespace Go.Proofs.YtpncejdamjbnlaaGreatDoor
open Go.RowKit Jour
theorem scanB_le : ∀ (f : Nat) (l : List Byte), (scanB f l).2 ≤ l.length
  | 0, l => by simp [scanB]
  | f + 1, l => by
    simp only [scanB]
    cases h : firstB l with
    | none => simp
    | some p =>
      obtain ⟨b, k⟩ := p
      obtain ⟨_, h2, _⟩ := firstB_ge h
      have := scanB_le f (l.drop k)
      rw [List.length_drop] at this
      simp only
      omega
theorem crashB {s : Int} {us : List Ver} (h : OkL s us) (m : Nat) : ∃ j, j ≤ us.length ∧ ((frB us).take m).take (scanB (((frB us).take m).length + 1) ((frB us).take m)).2 = frB (us.take j) := by
  obtain ⟨j, hj, e⟩ := crash_fr crcN crcN_lt h m
  refine ⟨j, hj, nat8_inj ?_⟩
  have e1 : (Jour.fr crcN us).take m = nat8 ((frB us).take m) := by rw [nat8_take, nat8_frB]
  unfold scanAll at e
  rw [e1, scanB_nat8, nat8_len] at e
  rw [nat8_take, e, nat8_frB]
set_option maxHeartbeats 2000000 in
set_option maxRecDepth 100000 in
theorem crash_lt (w : World) (A : Option Addr) (ad : Addr) (n c n' c' m : Nat) (vs us : List Ver) (h : DiskOf w A n c (some ad) n' c' vs us) (hm : m < n') :
    Calls Tryz.prog 7 #[.agg #[.slice A n c, .slice (some ad) n' c'], .int .i64 m] w (fun e w' => ∃ j, j ≤ us.length ∧ RetDisk w (vs ++ us.take j) [] e w') := by
  obtain ⟨W0, hW0⟩ : ∃ W0, W0 = ((w.alloc (Obj.cells #[Value.slice A n c, Value.slice (some ad) n' c'] 26)).alloc (Obj.cells #[Value.slice none 0 0, Value.slice none 0 0] 26)) := ⟨_, rfl⟩
  have hb0 : W0.heap[w.heap.size]? = some (.cells #[Value.slice A n c, Value.slice (some ad) n' c'] 26 (0, 0)) := by rw [hW0]; exact alloc_keep (heap_alloc_new _ _) _
  have hb1 : W0.heap[w.heap.size + 1]? = some (.cells #[Value.slice none 0 0, Value.slice none 0 0] 26 (0, 0)) := by
    rw [hW0]
    have := heap_alloc_new (w.alloc (Obj.cells #[Value.slice A n c, Value.slice (some ad) n' c'] 26)) (Obj.cells #[Value.slice none 0 0, Value.slice none 0 0] 26)
    rw [World.size_alloc] at this
    exact this
  have hal : Below w.heap.size w W0 := by rw [hW0]; exact (alloc_lt _).alloc (by simp) _
  have C := check_disk W0 A (some ad) n c n' c' vs us (h.belowLt hal)
  rw [hW0] at C
  have HC := Lib.hid C
  have hl0 : w.heap.size < W0.heap.size := (Array.getElem?_eq_some_iff.1 hb0).1
  have hl1 : w.heap.size + 1 < W0.heap.size := (Array.getElem?_eq_some_iff.1 hb1).1
  have hsm := h.small
  have hcap := h.open_.cap
  have hmax := h.open_.max
  unfold maxLen at hmax
  have HB0 := Lib.hid hb0
  have HB1 := Lib.hid hb1
  have HAL := Lib.hid hal
  have HD := Lib.hid h
  have HW0 := Lib.hid hW0
  have hmn : m ≤ n' := by omega
  have hk0 : decide ((m : Int) < 0) = false := by simp
  have hk1 : decide ((m : Int) < (n' : Int)) = true := by simp; omega
  have hk2 : decide (m < n') = true := by simp; omega
  clear h hW0 hb0 hb1 hal C
  go_enter Tryz.func7, Tryz.ntmps7
  go_wp2_with (fail)
  (with_reducible refine HC.out.mono ?_)
  rw [← HW0.out]
  rintro e w1 ⟨rfl, hbl⟩
  have j0 := (hbl.block _ hl0).trans HB0.out
  have j1 := (hbl.block _ hl1).trans HB1.out
  have k0 : w1.cell? ⟨w.heap.size, 0, none⟩ = some (.slice A n c) := by rw [cell_of_row _ _ _ _ _ _ j0]; rfl
  have k1 : w1.cell? ⟨w.heap.size, 1, none⟩ = some (.slice (some ad) n' c') := by rw [cell_of_row _ _ _ _ _ _ j0]; rfl
  have hbw := below_then HAL.out hbl
  have HBW := Lib.hid hbw
  have J0 := Lib.hid j0
  have J1 := Lib.hid j1
  clear j0 j1 hbw hbl HC
  have hpc : Arr w1 (some ad) m c' ((frB us).take m) := by
    have := (HD.out.open_.belowLt HBW.out).piece rfl (i := 0) (j := m) (c' := c') (by omega) hmn (by omega) (by simp only [maxLen]; omega)
    rw [Nat.zero_mul, add_zero, Nat.sub_zero, List.drop_zero] at this
    exact this
  obtain ⟨j, hj, hjt⟩ := crashB HD.out.ok2 m
  have CS := scan_any w1 m c' (some ad) ((frB us).take m) hpc (by omega)
  have hgl := scanB_le (((frB us).take m).length + 1) ((frB us).take m)
  obtain ⟨bodies, good, hsc⟩ : ∃ bodies good, scanB (((frB us).take m).length + 1) ((frB us).take m) = (bodies, good) := ⟨_, _, rfl⟩
  rw [hsc] at CS hjt hgl
  have hgm : good ≤ m := by
    have : good ≤ ((frB us).take m).length := hgl
    rw [List.length_take] at this; omega
  have HJT : Hid ((frB us).take good = frB (us.take j)) := Lib.hid (by
    have h : (((frB us).take m).take good) = frB (us.take j) := hjt
    rw [List.take_take, Nat.min_eq_left hgm] at h
    exact h)
  have HCS := Lib.hid CS
  clear hpc CS hjt hgl hsc
  go_wp2_with (fail)
  (with_reducible refine HCS.out.mono ?_)
  rintro e w2 ⟨L, cL, rfl, _, hb2⟩
  have j0 := (hb2.block _ (Array.getElem?_eq_some_iff.1 J0.out).1).trans J0.out
  have j1 := (hb2.block _ (Array.getElem?_eq_some_iff.1 J1.out).1).trans J1.out
  have x0 : w2.cell? ⟨w.heap.size, 0, none⟩ = some (.slice A n c) := by rw [cell_of_row _ _ _ _ _ _ j0]; rfl
  have x1 : w2.cell? ⟨w.heap.size, 1, none⟩ = some (.slice (some ad) n' c') := by rw [cell_of_row _ _ _ _ _ _ j0]; rfl
  have HB2 := Lib.hid (below_then HBW.out hb2)
  have J0' := Lib.hid j0
  have J1' := Lib.hid j1
  have hgn : good ≤ n' := by omega
  have hgc : good ≤ c' := by omega
  have hg0 : (0 : Int) ≤ (good : Int) := by omega
  have hg1 : (good : Int) ≤ (c' : Int) := by omega
  clear j0 j1 k0 k1 hb2 HCS
  go_upto_region 29 with (fail)
  have hpg : Arr w2 (some ad) good c' (frB (us.take j)) := by
    have := (HD.out.open_.belowLt HB2.out).piece rfl (i := 0) (j := good) (c' := c') (by omega) hgn (by omega) (by simp only [maxLen]; omega)
    rw [Nat.zero_mul, add_zero, Nat.sub_zero, List.drop_zero, HJT.out] at this
    exact this
  have CC : Hid (Calls Tryz.prog 23 #[.slice (some ⟨w2.heap.size, 0, none⟩) 2 2] (w2.alloc (.cells #[.slice A n c, .slice (some ad) good c'] 24)).drew (RetArr 5 (w2.alloc (.cells #[.slice A n c, .slice (some ad) good c'] 24)).drew [frB vs, frB (us.take j)].flatten)) := Lib.hid (by
    refine concat_any _ _ 2 2 [frB vs, frB (us.take j)] ((lit2_rows (HD.out.safe.belowLt HB2.out) hpg).belowLt ((Below.refl _ _).drew)) ?_
    have h1 := HD.out.safe.len
    have h2 := hpg.len
    simp [tot]; omega)
  have HBW2 : Hid (Below w.heap.size w (w2.alloc (.cells #[.slice A n c, .slice (some ad) good c'] 24)).drew) := Lib.hid ((HB2.out.alloc HB2.out.size _).drew)
  have K0 : Hid ((w2.alloc (.cells #[.slice A n c, .slice (some ad) good c'] 24)).drew.heap[w.heap.size]? = _) := Lib.hid (alloc_keep J0'.out _)
  have K1 : Hid ((w2.alloc (.cells #[.slice A n c, .slice (some ad) good c'] 24)).drew.heap[w.heap.size + 1]? = _) := Lib.hid (alloc_keep J1'.out _)
  clear hpg
  go_region_held3 (fun w' => w'.cell? ⟨w.heap.size, 0, none⟩ = some (.slice A n c) ∧ w'.cell? ⟨w.heap.size, 1, none⟩ = some (.slice (some ad) n' c')) (first | (exact ⟨x0, x1⟩) | (exact ⟨y0, y1⟩) | (exact ⟨p0, p1⟩) | go_keep)
    (first
      | (go_at_call 23
         (with_reducible refine CC.out.mono ?_)
         rintro e w3 ⟨A3, n3, c3, rfl, ho3, hb3⟩
         have i0 := (hb3.block _ (Array.getElem?_eq_some_iff.1 K0.out).1).trans K0.out
         have i1 := (hb3.block _ (Array.getElem?_eq_some_iff.1 K1.out).1).trans K1.out
         have y0 : w3.cell? ⟨w.heap.size, 0, none⟩ = some (.slice A n c) := by rw [cell_of_row _ _ _ _ _ _ i0]; rfl
         have y1 : w3.cell? ⟨w.heap.size, 1, none⟩ = some (.slice (some ad) n' c') := by rw [cell_of_row _ _ _ _ _ _ i0]; rfl
         have z0 : w3.cell? ⟨w.heap.size + 1, 0, none⟩ = some (.slice none 0 0) := by rw [cell_of_row _ _ _ _ _ _ i1]; rfl
         have z1 : w3.cell? ⟨w.heap.size + 1, 1, none⟩ = some (.slice none 0 0) := by rw [cell_of_row _ _ _ _ _ _ i1]; rfl
         have f0 := frozen_of_row w3 (w.heap.size + 1) 0 _ 26 i1
         have f1 := frozen_of_row w3 (w.heap.size + 1) 1 _ 26 i1
         have p0 : ((w3.setCell ⟨w.heap.size + 1, 0, none⟩ (.slice A3 n3 c3)).setCell ⟨w.heap.size + 1, 1, none⟩ (.slice none 0 0)).cell? ⟨w.heap.size, 0, none⟩ = some (.slice A n c) := by
           rw [World.cell?_of_block (w := w3) ((heap_setCell_other _ _ _ _ (show w.heap.size ≠ w.heap.size + 1 by omega)).trans (heap_setCell_other _ _ _ _ (show w.heap.size ≠ w.heap.size + 1 by omega)))]; exact y0
         have p1 : ((w3.setCell ⟨w.heap.size + 1, 0, none⟩ (.slice A3 n3 c3)).setCell ⟨w.heap.size + 1, 1, none⟩ (.slice none 0 0)).cell? ⟨w.heap.size, 1, none⟩ = some (.slice (some ad) n' c') := by
           rw [World.cell?_of_block (w := w3) ((heap_setCell_other _ _ _ _ (show w.heap.size ≠ w.heap.size + 1 by omega)).trans (heap_setCell_other _ _ _ _ (show w.heap.size ≠ w.heap.size + 1 by omega)))]; exact y1
         have I1 := Lib.hid i1
         have HO3 := Lib.hid ho3
         have HB3 := Lib.hid hb3
         clear i0 i1 ho3 hb3))
  obtain ⟨F, hF⟩ : ∃ F, F = (w3.setCell ⟨w.heap.size + 1, 0, none⟩ (.slice A3 n3 c3)).setCell ⟨w.heap.size + 1, 1, none⟩ (.slice none 0 0) := ⟨_, rfl⟩
  have n26 : ∀ (x : Array Value) cs, Obj.cells x 26 (0, 0) ≠ .cells cs 5 (0, 0) := fun x cs e => by injection e; rename_i e1 e2 e3; exact absurd e2 (by decide)
  have hFb : F.heap[w.heap.size + 1]? = some (.cells #[.slice A3 n3 c3, .slice none 0 0] 26 (0, 0)) := by rw [hF]; exact one_put (one_put I1.out)
  have q0 : F.cell? ⟨w.heap.size + 1, 0, none⟩ = some (.slice A3 n3 c3) := by rw [cell_of_row _ _ _ _ _ _ hFb]; rfl
  have q1 : F.cell? ⟨w.heap.size + 1, 1, none⟩ = some (.slice none 0 0) := by rw [cell_of_row _ _ _ _ _ _ hFb]; rfl
  have hFo : F.ownsRow (w.heap.size) 5 1 (.slice A3 n3 c3) n3 (flat (frB (vs ++ us.take j))) := by
    have o : w3.ownsRow w.heap.size 5 1 (.slice A3 n3 c3) n3 (flat (frB (vs ++ us.take j))) := by
      have := own_base HO3.out (show w.heap.size ≤ _ from HBW2.out.size)
      rw [frB_append]
      simpa [byte_size] using this
    rw [hF]
    have x := own_other o I1.out (n26 _)
    exact ownsRow_setCell_other (ownsRow_setCell_other o x _) x _
  have hFB : Below w.heap.size w F := by rw [hF]; exact ((below_then HBW2.out HB3.out).setCell (by show w.heap.size ≤ w.heap.size + 1; omega) _).setCell (by show w.heap.size ≤ w.heap.size + 1; omega) _
  have FIN : Hid (RetDisk w (vs ++ us.take j) [] (.returned (.tuple #[.agg #[.slice A3 n3 c3, .slice none 0 0], .int .i64 0])) F) := Lib.hid ⟨A3, n3, c3, none, 0, 0, rfl, ⟨Arr.of_own hFo, Arr.nil_, OkL.join HD.out.ok1 (HD.out.ok2.take j), trivial, by have := HD.out.few; simp; omega⟩, hFB⟩
  have HF := Lib.hid hF
  clear hF hFb hFo hFB n26 x0 x1 y0 y1 z0 z1 f0 f1 p0 p1
  go_wp2_with (fail)
  rw [← HF.out]
  exact bodyPost_ret (v := .tuple #[.agg #[.slice A3 n3 c3, .slice none 0 0], .int .i64 0]) (by simp [results, Tryz.results7, go_sem, q0, q1]) rfl ⟨j, hj, FIN.out⟩
end Go.Proofs.YtpncejdamjbnlaaGreatDoor
end
section
namespace Go.Proofs.YtpncejdamjbnlaaGreatDoor
open Go.RowKit Jour
set_option maxHeartbeats 2000000 in
set_option maxRecDepth 100000 in
theorem crash_gt (w : World) (A : Option Addr) (ad : Addr) (n c m c' K : Nat) (vs us : List Ver) (h : DiskOf w A n c (some ad) m c' vs us) (hm : m < K) (hK : K < 9223372036854775808) :
    Calls Tryz.prog 7 #[.agg #[.slice A n c, .slice (some ad) m c'], .int .i64 K] w (fun e w' => ∃ j, j ≤ us.length ∧ RetDisk w (vs ++ us.take j) [] e w') := by
  obtain ⟨W0, hW0⟩ : ∃ W0, W0 = ((w.alloc (Obj.cells #[Value.slice A n c, Value.slice (some ad) m c'] 26)).alloc (Obj.cells #[Value.slice none 0 0, Value.slice none 0 0] 26)) := ⟨_, rfl⟩
  have hb0 : W0.heap[w.heap.size]? = some (.cells #[Value.slice A n c, Value.slice (some ad) m c'] 26 (0, 0)) := by rw [hW0]; exact alloc_keep (heap_alloc_new _ _) _
  have hb1 : W0.heap[w.heap.size + 1]? = some (.cells #[Value.slice none 0 0, Value.slice none 0 0] 26 (0, 0)) := by
    rw [hW0]
    have := heap_alloc_new (w.alloc (Obj.cells #[Value.slice A n c, Value.slice (some ad) m c'] 26)) (Obj.cells #[Value.slice none 0 0, Value.slice none 0 0] 26)
    rw [World.size_alloc] at this
    exact this
  have hal : Below w.heap.size w W0 := by rw [hW0]; exact (alloc_lt _).alloc (by simp) _
  have C := check_disk W0 A (some ad) n c m c' vs us (h.belowLt hal)
  rw [hW0] at C
  have HC := Lib.hid C
  have hl0 : w.heap.size < W0.heap.size := (Array.getElem?_eq_some_iff.1 hb0).1
  have hl1 : w.heap.size + 1 < W0.heap.size := (Array.getElem?_eq_some_iff.1 hb1).1
  have hsm := h.small
  have hcap := h.open_.cap
  have hmax := h.open_.max
  unfold maxLen at hmax
  have HB0 := Lib.hid hb0
  have HB1 := Lib.hid hb1
  have HAL := Lib.hid hal
  have HD := Lib.hid h
  have HW0 := Lib.hid hW0
  have hmn : m ≤ m := by omega
  have hk0 : decide ((K : Int) < 0) = false := by simp
  have hk1 : decide ((K : Int) < (m : Int)) = false := by simp; omega
  have hk2 : decide (K < m) = false := by simp; omega
  have hk3 : decide ((m : Int) < (K : Int)) = true := by simp; omega
  have hk4 : decide (m < K) = true := by simp; omega
  clear h hW0 hb0 hb1 hal C
  go_enter Tryz.func7, Tryz.ntmps7
  go_wp2_with (fail)
  (with_reducible refine HC.out.mono ?_)
  rw [← HW0.out]
  rintro e w1 ⟨rfl, hbl⟩
  have j0 := (hbl.block _ hl0).trans HB0.out
  have j1 := (hbl.block _ hl1).trans HB1.out
  have k0 : w1.cell? ⟨w.heap.size, 0, none⟩ = some (.slice A n c) := by rw [cell_of_row _ _ _ _ _ _ j0]; rfl
  have k1 : w1.cell? ⟨w.heap.size, 1, none⟩ = some (.slice (some ad) m c') := by rw [cell_of_row _ _ _ _ _ _ j0]; rfl
  have hbw := below_then HAL.out hbl
  have HBW := Lib.hid hbw
  have J0 := Lib.hid j0
  have J1 := Lib.hid j1
  clear j0 j1 hbw hbl HC
  have hpc : Arr w1 (some ad) m c' ((frB us).take m) := by
    have := (HD.out.open_.belowLt HBW.out).piece rfl (i := 0) (j := m) (c' := c') (by omega) hmn (by omega) (by simp only [maxLen]; omega)
    rw [Nat.zero_mul, add_zero, Nat.sub_zero, List.drop_zero] at this
    exact this
  obtain ⟨j, hj, hjt⟩ := crashB HD.out.ok2 m
  have CS := scan_any w1 m c' (some ad) ((frB us).take m) hpc (by omega)
  have hgl := scanB_le (((frB us).take m).length + 1) ((frB us).take m)
  obtain ⟨bodies, good, hsc⟩ : ∃ bodies good, scanB (((frB us).take m).length + 1) ((frB us).take m) = (bodies, good) := ⟨_, _, rfl⟩
  rw [hsc] at CS hjt hgl
  have hgm : good ≤ m := by
    have : good ≤ ((frB us).take m).length := hgl
    rw [List.length_take] at this; omega
  have HJT : Hid ((frB us).take good = frB (us.take j)) := Lib.hid (by
    have h : (((frB us).take m).take good) = frB (us.take j) := hjt
    rw [List.take_take, Nat.min_eq_left hgm] at h
    exact h)
  have HCS := Lib.hid CS
  clear hpc CS hjt hgl hsc
  go_wp2_with (fail)
  (with_reducible refine HCS.out.mono ?_)
  rintro e w2 ⟨L, cL, rfl, _, hb2⟩
  have j0 := (hb2.block _ (Array.getElem?_eq_some_iff.1 J0.out).1).trans J0.out
  have j1 := (hb2.block _ (Array.getElem?_eq_some_iff.1 J1.out).1).trans J1.out
  have x0 : w2.cell? ⟨w.heap.size, 0, none⟩ = some (.slice A n c) := by rw [cell_of_row _ _ _ _ _ _ j0]; rfl
  have x1 : w2.cell? ⟨w.heap.size, 1, none⟩ = some (.slice (some ad) m c') := by rw [cell_of_row _ _ _ _ _ _ j0]; rfl
  have HB2 := Lib.hid (below_then HBW.out hb2)
  have J0' := Lib.hid j0
  have J1' := Lib.hid j1
  have hgn : good ≤ m := by omega
  have hgc : good ≤ c' := by omega
  have hg0 : (0 : Int) ≤ (good : Int) := by omega
  have hg1 : (good : Int) ≤ (c' : Int) := by omega
  clear j0 j1 k0 k1 hb2 HCS
  go_upto_region 29 with (fail)
  have hpg : Arr w2 (some ad) good c' (frB (us.take j)) := by
    have := (HD.out.open_.belowLt HB2.out).piece rfl (i := 0) (j := good) (c' := c') (by omega) hgn (by omega) (by simp only [maxLen]; omega)
    rw [Nat.zero_mul, add_zero, Nat.sub_zero, List.drop_zero, HJT.out] at this
    exact this
  have CC : Hid (Calls Tryz.prog 23 #[.slice (some ⟨w2.heap.size, 0, none⟩) 2 2] (w2.alloc (.cells #[.slice A n c, .slice (some ad) good c'] 24)).drew (RetArr 5 (w2.alloc (.cells #[.slice A n c, .slice (some ad) good c'] 24)).drew [frB vs, frB (us.take j)].flatten)) := Lib.hid (by
    refine concat_any _ _ 2 2 [frB vs, frB (us.take j)] ((lit2_rows (HD.out.safe.belowLt HB2.out) hpg).belowLt ((Below.refl _ _).drew)) ?_
    have h1 := HD.out.safe.len
    have h2 := hpg.len
    simp [tot]; omega)
  have HBW2 : Hid (Below w.heap.size w (w2.alloc (.cells #[.slice A n c, .slice (some ad) good c'] 24)).drew) := Lib.hid ((HB2.out.alloc HB2.out.size _).drew)
  have K0 : Hid ((w2.alloc (.cells #[.slice A n c, .slice (some ad) good c'] 24)).drew.heap[w.heap.size]? = _) := Lib.hid (alloc_keep J0'.out _)
  have K1 : Hid ((w2.alloc (.cells #[.slice A n c, .slice (some ad) good c'] 24)).drew.heap[w.heap.size + 1]? = _) := Lib.hid (alloc_keep J1'.out _)
  clear hpg
  go_region_held3 (fun w' => w'.cell? ⟨w.heap.size, 0, none⟩ = some (.slice A n c) ∧ w'.cell? ⟨w.heap.size, 1, none⟩ = some (.slice (some ad) m c')) (first | (exact ⟨x0, x1⟩) | (exact ⟨y0, y1⟩) | (exact ⟨p0, p1⟩) | go_keep)
    (first
      | (go_at_call 23
         (with_reducible refine CC.out.mono ?_)
         rintro e w3 ⟨A3, n3, c3, rfl, ho3, hb3⟩
         have i0 := (hb3.block _ (Array.getElem?_eq_some_iff.1 K0.out).1).trans K0.out
         have i1 := (hb3.block _ (Array.getElem?_eq_some_iff.1 K1.out).1).trans K1.out
         have y0 : w3.cell? ⟨w.heap.size, 0, none⟩ = some (.slice A n c) := by rw [cell_of_row _ _ _ _ _ _ i0]; rfl
         have y1 : w3.cell? ⟨w.heap.size, 1, none⟩ = some (.slice (some ad) m c') := by rw [cell_of_row _ _ _ _ _ _ i0]; rfl
         have z0 : w3.cell? ⟨w.heap.size + 1, 0, none⟩ = some (.slice none 0 0) := by rw [cell_of_row _ _ _ _ _ _ i1]; rfl
         have z1 : w3.cell? ⟨w.heap.size + 1, 1, none⟩ = some (.slice none 0 0) := by rw [cell_of_row _ _ _ _ _ _ i1]; rfl
         have f0 := frozen_of_row w3 (w.heap.size + 1) 0 _ 26 i1
         have f1 := frozen_of_row w3 (w.heap.size + 1) 1 _ 26 i1
         have p0 : ((w3.setCell ⟨w.heap.size + 1, 0, none⟩ (.slice A3 n3 c3)).setCell ⟨w.heap.size + 1, 1, none⟩ (.slice none 0 0)).cell? ⟨w.heap.size, 0, none⟩ = some (.slice A n c) := by
           rw [World.cell?_of_block (w := w3) ((heap_setCell_other _ _ _ _ (show w.heap.size ≠ w.heap.size + 1 by omega)).trans (heap_setCell_other _ _ _ _ (show w.heap.size ≠ w.heap.size + 1 by omega)))]; exact y0
         have p1 : ((w3.setCell ⟨w.heap.size + 1, 0, none⟩ (.slice A3 n3 c3)).setCell ⟨w.heap.size + 1, 1, none⟩ (.slice none 0 0)).cell? ⟨w.heap.size, 1, none⟩ = some (.slice (some ad) m c') := by
           rw [World.cell?_of_block (w := w3) ((heap_setCell_other _ _ _ _ (show w.heap.size ≠ w.heap.size + 1 by omega)).trans (heap_setCell_other _ _ _ _ (show w.heap.size ≠ w.heap.size + 1 by omega)))]; exact y1
         have I1 := Lib.hid i1
         have HO3 := Lib.hid ho3
         have HB3 := Lib.hid hb3
         clear i0 i1 ho3 hb3))
  obtain ⟨F, hF⟩ : ∃ F, F = (w3.setCell ⟨w.heap.size + 1, 0, none⟩ (.slice A3 n3 c3)).setCell ⟨w.heap.size + 1, 1, none⟩ (.slice none 0 0) := ⟨_, rfl⟩
  have n26 : ∀ (x : Array Value) cs, Obj.cells x 26 (0, 0) ≠ .cells cs 5 (0, 0) := fun x cs e => by injection e; rename_i e1 e2 e3; exact absurd e2 (by decide)
  have hFb : F.heap[w.heap.size + 1]? = some (.cells #[.slice A3 n3 c3, .slice none 0 0] 26 (0, 0)) := by rw [hF]; exact one_put (one_put I1.out)
  have q0 : F.cell? ⟨w.heap.size + 1, 0, none⟩ = some (.slice A3 n3 c3) := by rw [cell_of_row _ _ _ _ _ _ hFb]; rfl
  have q1 : F.cell? ⟨w.heap.size + 1, 1, none⟩ = some (.slice none 0 0) := by rw [cell_of_row _ _ _ _ _ _ hFb]; rfl
  have hFo : F.ownsRow (w.heap.size) 5 1 (.slice A3 n3 c3) n3 (flat (frB (vs ++ us.take j))) := by
    have o : w3.ownsRow w.heap.size 5 1 (.slice A3 n3 c3) n3 (flat (frB (vs ++ us.take j))) := by
      have := own_base HO3.out (show w.heap.size ≤ _ from HBW2.out.size)
      rw [frB_append]
      simpa [byte_size] using this
    rw [hF]
    have x := own_other o I1.out (n26 _)
    exact ownsRow_setCell_other (ownsRow_setCell_other o x _) x _
  have hFB : Below w.heap.size w F := by rw [hF]; exact ((below_then HBW2.out HB3.out).setCell (by show w.heap.size ≤ w.heap.size + 1; omega) _).setCell (by show w.heap.size ≤ w.heap.size + 1; omega) _
  have FIN : Hid (RetDisk w (vs ++ us.take j) [] (.returned (.tuple #[.agg #[.slice A3 n3 c3, .slice none 0 0], .int .i64 0])) F) := Lib.hid ⟨A3, n3, c3, none, 0, 0, rfl, ⟨Arr.of_own hFo, Arr.nil_, OkL.join HD.out.ok1 (HD.out.ok2.take j), trivial, by have := HD.out.few; simp; omega⟩, hFB⟩
  have HF := Lib.hid hF
  clear hF hFb hFo hFB n26 x0 x1 y0 y1 z0 z1 f0 f1 p0 p1
  go_wp2_with (fail)
  rw [← HF.out]
  exact bodyPost_ret (v := .tuple #[.agg #[.slice A3 n3 c3, .slice none 0 0], .int .i64 0]) (by simp [results, Tryz.results7, go_sem, q0, q1]) rfl ⟨j, hj, FIN.out⟩
set_option maxHeartbeats 2000000 in
set_option maxRecDepth 100000 in
theorem crash_eq (w : World) (A : Option Addr) (ad : Addr) (n c m c' : Nat) (vs us : List Ver) (h : DiskOf w A n c (some ad) m c' vs us) (hK : m < 9223372036854775808) :
    Calls Tryz.prog 7 #[.agg #[.slice A n c, .slice (some ad) m c'], .int .i64 m] w (fun e w' => ∃ j, j ≤ us.length ∧ RetDisk w (vs ++ us.take j) [] e w') := by
  obtain ⟨W0, hW0⟩ : ∃ W0, W0 = ((w.alloc (Obj.cells #[Value.slice A n c, Value.slice (some ad) m c'] 26)).alloc (Obj.cells #[Value.slice none 0 0, Value.slice none 0 0] 26)) := ⟨_, rfl⟩
  have hb0 : W0.heap[w.heap.size]? = some (.cells #[Value.slice A n c, Value.slice (some ad) m c'] 26 (0, 0)) := by rw [hW0]; exact alloc_keep (heap_alloc_new _ _) _
  have hb1 : W0.heap[w.heap.size + 1]? = some (.cells #[Value.slice none 0 0, Value.slice none 0 0] 26 (0, 0)) := by
    rw [hW0]
    have := heap_alloc_new (w.alloc (Obj.cells #[Value.slice A n c, Value.slice (some ad) m c'] 26)) (Obj.cells #[Value.slice none 0 0, Value.slice none 0 0] 26)
    rw [World.size_alloc] at this
    exact this
  have hal : Below w.heap.size w W0 := by rw [hW0]; exact (alloc_lt _).alloc (by simp) _
  have C := check_disk W0 A (some ad) n c m c' vs us (h.belowLt hal)
  rw [hW0] at C
  have HC := Lib.hid C
  have hl0 : w.heap.size < W0.heap.size := (Array.getElem?_eq_some_iff.1 hb0).1
  have hl1 : w.heap.size + 1 < W0.heap.size := (Array.getElem?_eq_some_iff.1 hb1).1
  have hsm := h.small
  have hcap := h.open_.cap
  have hmax := h.open_.max
  unfold maxLen at hmax
  have HB0 := Lib.hid hb0
  have HB1 := Lib.hid hb1
  have HAL := Lib.hid hal
  have HD := Lib.hid h
  have HW0 := Lib.hid hW0
  have hmn : m ≤ m := by omega
  have hk0 : decide ((m : Int) < 0) = false := by simp
  clear h hW0 hb0 hb1 hal C
  go_enter Tryz.func7, Tryz.ntmps7
  go_wp2_with (fail)
  (with_reducible refine HC.out.mono ?_)
  rw [← HW0.out]
  rintro e w1 ⟨rfl, hbl⟩
  have j0 := (hbl.block _ hl0).trans HB0.out
  have j1 := (hbl.block _ hl1).trans HB1.out
  have k0 : w1.cell? ⟨w.heap.size, 0, none⟩ = some (.slice A n c) := by rw [cell_of_row _ _ _ _ _ _ j0]; rfl
  have k1 : w1.cell? ⟨w.heap.size, 1, none⟩ = some (.slice (some ad) m c') := by rw [cell_of_row _ _ _ _ _ _ j0]; rfl
  have hbw := below_then HAL.out hbl
  have HBW := Lib.hid hbw
  have J0 := Lib.hid j0
  have J1 := Lib.hid j1
  clear j0 j1 hbw hbl HC
  have hpc : Arr w1 (some ad) m c' ((frB us).take m) := by
    have := (HD.out.open_.belowLt HBW.out).piece rfl (i := 0) (j := m) (c' := c') (by omega) hmn (by omega) (by simp only [maxLen]; omega)
    rw [Nat.zero_mul, add_zero, Nat.sub_zero, List.drop_zero] at this
    exact this
  obtain ⟨j, hj, hjt⟩ := crashB HD.out.ok2 m
  have CS := scan_any w1 m c' (some ad) ((frB us).take m) hpc (by omega)
  have hgl := scanB_le (((frB us).take m).length + 1) ((frB us).take m)
  obtain ⟨bodies, good, hsc⟩ : ∃ bodies good, scanB (((frB us).take m).length + 1) ((frB us).take m) = (bodies, good) := ⟨_, _, rfl⟩
  rw [hsc] at CS hjt hgl
  have hgm : good ≤ m := by
    have : good ≤ ((frB us).take m).length := hgl
    rw [List.length_take] at this; omega
  have HJT : Hid ((frB us).take good = frB (us.take j)) := Lib.hid (by
    have h : (((frB us).take m).take good) = frB (us.take j) := hjt
    rw [List.take_take, Nat.min_eq_left hgm] at h
    exact h)
  have HCS := Lib.hid CS
  clear hpc CS hjt hgl hsc
  go_wp2_with (fail)
  (with_reducible refine HCS.out.mono ?_)
  rintro e w2 ⟨L, cL, rfl, _, hb2⟩
  have j0 := (hb2.block _ (Array.getElem?_eq_some_iff.1 J0.out).1).trans J0.out
  have j1 := (hb2.block _ (Array.getElem?_eq_some_iff.1 J1.out).1).trans J1.out
  have x0 : w2.cell? ⟨w.heap.size, 0, none⟩ = some (.slice A n c) := by rw [cell_of_row _ _ _ _ _ _ j0]; rfl
  have x1 : w2.cell? ⟨w.heap.size, 1, none⟩ = some (.slice (some ad) m c') := by rw [cell_of_row _ _ _ _ _ _ j0]; rfl
  have HB2 := Lib.hid (below_then HBW.out hb2)
  have J0' := Lib.hid j0
  have J1' := Lib.hid j1
  have hgn : good ≤ m := by omega
  have hgc : good ≤ c' := by omega
  have hg0 : (0 : Int) ≤ (good : Int) := by omega
  have hg1 : (good : Int) ≤ (c' : Int) := by omega
  clear j0 j1 k0 k1 hb2 HCS
  go_upto_region 29 with (fail)
  have hpg : Arr w2 (some ad) good c' (frB (us.take j)) := by
    have := (HD.out.open_.belowLt HB2.out).piece rfl (i := 0) (j := good) (c' := c') (by omega) hgn (by omega) (by simp only [maxLen]; omega)
    rw [Nat.zero_mul, add_zero, Nat.sub_zero, List.drop_zero, HJT.out] at this
    exact this
  have CC : Hid (Calls Tryz.prog 23 #[.slice (some ⟨w2.heap.size, 0, none⟩) 2 2] (w2.alloc (.cells #[.slice A n c, .slice (some ad) good c'] 24)).drew (RetArr 5 (w2.alloc (.cells #[.slice A n c, .slice (some ad) good c'] 24)).drew [frB vs, frB (us.take j)].flatten)) := Lib.hid (by
    refine concat_any _ _ 2 2 [frB vs, frB (us.take j)] ((lit2_rows (HD.out.safe.belowLt HB2.out) hpg).belowLt ((Below.refl _ _).drew)) ?_
    have h1 := HD.out.safe.len
    have h2 := hpg.len
    simp [tot]; omega)
  have HBW2 : Hid (Below w.heap.size w (w2.alloc (.cells #[.slice A n c, .slice (some ad) good c'] 24)).drew) := Lib.hid ((HB2.out.alloc HB2.out.size _).drew)
  have K0 : Hid ((w2.alloc (.cells #[.slice A n c, .slice (some ad) good c'] 24)).drew.heap[w.heap.size]? = _) := Lib.hid (alloc_keep J0'.out _)
  have K1 : Hid ((w2.alloc (.cells #[.slice A n c, .slice (some ad) good c'] 24)).drew.heap[w.heap.size + 1]? = _) := Lib.hid (alloc_keep J1'.out _)
  clear hpg
  go_region_held3 (fun w' => w'.cell? ⟨w.heap.size, 0, none⟩ = some (.slice A n c) ∧ w'.cell? ⟨w.heap.size, 1, none⟩ = some (.slice (some ad) m c')) (first | (exact ⟨x0, x1⟩) | (exact ⟨y0, y1⟩) | (exact ⟨p0, p1⟩) | go_keep)
    (first
      | (go_at_call 23
         (with_reducible refine CC.out.mono ?_)
         rintro e w3 ⟨A3, n3, c3, rfl, ho3, hb3⟩
         have i0 := (hb3.block _ (Array.getElem?_eq_some_iff.1 K0.out).1).trans K0.out
         have i1 := (hb3.block _ (Array.getElem?_eq_some_iff.1 K1.out).1).trans K1.out
         have y0 : w3.cell? ⟨w.heap.size, 0, none⟩ = some (.slice A n c) := by rw [cell_of_row _ _ _ _ _ _ i0]; rfl
         have y1 : w3.cell? ⟨w.heap.size, 1, none⟩ = some (.slice (some ad) m c') := by rw [cell_of_row _ _ _ _ _ _ i0]; rfl
         have z0 : w3.cell? ⟨w.heap.size + 1, 0, none⟩ = some (.slice none 0 0) := by rw [cell_of_row _ _ _ _ _ _ i1]; rfl
         have z1 : w3.cell? ⟨w.heap.size + 1, 1, none⟩ = some (.slice none 0 0) := by rw [cell_of_row _ _ _ _ _ _ i1]; rfl
         have f0 := frozen_of_row w3 (w.heap.size + 1) 0 _ 26 i1
         have f1 := frozen_of_row w3 (w.heap.size + 1) 1 _ 26 i1
         have p0 : ((w3.setCell ⟨w.heap.size + 1, 0, none⟩ (.slice A3 n3 c3)).setCell ⟨w.heap.size + 1, 1, none⟩ (.slice none 0 0)).cell? ⟨w.heap.size, 0, none⟩ = some (.slice A n c) := by
           rw [World.cell?_of_block (w := w3) ((heap_setCell_other _ _ _ _ (show w.heap.size ≠ w.heap.size + 1 by omega)).trans (heap_setCell_other _ _ _ _ (show w.heap.size ≠ w.heap.size + 1 by omega)))]; exact y0
         have p1 : ((w3.setCell ⟨w.heap.size + 1, 0, none⟩ (.slice A3 n3 c3)).setCell ⟨w.heap.size + 1, 1, none⟩ (.slice none 0 0)).cell? ⟨w.heap.size, 1, none⟩ = some (.slice (some ad) m c') := by
           rw [World.cell?_of_block (w := w3) ((heap_setCell_other _ _ _ _ (show w.heap.size ≠ w.heap.size + 1 by omega)).trans (heap_setCell_other _ _ _ _ (show w.heap.size ≠ w.heap.size + 1 by omega)))]; exact y1
         have I1 := Lib.hid i1
         have HO3 := Lib.hid ho3
         have HB3 := Lib.hid hb3
         clear i0 i1 ho3 hb3))
  obtain ⟨F, hF⟩ : ∃ F, F = (w3.setCell ⟨w.heap.size + 1, 0, none⟩ (.slice A3 n3 c3)).setCell ⟨w.heap.size + 1, 1, none⟩ (.slice none 0 0) := ⟨_, rfl⟩
  have n26 : ∀ (x : Array Value) cs, Obj.cells x 26 (0, 0) ≠ .cells cs 5 (0, 0) := fun x cs e => by injection e; rename_i e1 e2 e3; exact absurd e2 (by decide)
  have hFb : F.heap[w.heap.size + 1]? = some (.cells #[.slice A3 n3 c3, .slice none 0 0] 26 (0, 0)) := by rw [hF]; exact one_put (one_put I1.out)
  have q0 : F.cell? ⟨w.heap.size + 1, 0, none⟩ = some (.slice A3 n3 c3) := by rw [cell_of_row _ _ _ _ _ _ hFb]; rfl
  have q1 : F.cell? ⟨w.heap.size + 1, 1, none⟩ = some (.slice none 0 0) := by rw [cell_of_row _ _ _ _ _ _ hFb]; rfl
  have hFo : F.ownsRow (w.heap.size) 5 1 (.slice A3 n3 c3) n3 (flat (frB (vs ++ us.take j))) := by
    have o : w3.ownsRow w.heap.size 5 1 (.slice A3 n3 c3) n3 (flat (frB (vs ++ us.take j))) := by
      have := own_base HO3.out (show w.heap.size ≤ _ from HBW2.out.size)
      rw [frB_append]
      simpa [byte_size] using this
    rw [hF]
    have x := own_other o I1.out (n26 _)
    exact ownsRow_setCell_other (ownsRow_setCell_other o x _) x _
  have hFB : Below w.heap.size w F := by rw [hF]; exact ((below_then HBW2.out HB3.out).setCell (by show w.heap.size ≤ w.heap.size + 1; omega) _).setCell (by show w.heap.size ≤ w.heap.size + 1; omega) _
  have FIN : Hid (RetDisk w (vs ++ us.take j) [] (.returned (.tuple #[.agg #[.slice A3 n3 c3, .slice none 0 0], .int .i64 0])) F) := Lib.hid ⟨A3, n3, c3, none, 0, 0, rfl, ⟨Arr.of_own hFo, Arr.nil_, OkL.join HD.out.ok1 (HD.out.ok2.take j), trivial, by have := HD.out.few; simp; omega⟩, hFB⟩
  have HF := Lib.hid hF
  clear hF hFb hFo hFB n26 x0 x1 y0 y1 z0 z1 f0 f1 p0 p1
  go_wp2_with (fail)
  rw [← HF.out]
  exact bodyPost_ret (v := .tuple #[.agg #[.slice A3 n3 c3, .slice none 0 0], .int .i64 0]) (by simp [results, Tryz.results7, go_sem, q0, q1]) rfl ⟨j, hj, FIN.out⟩
end Go.Proofs.YtpncejdamjbnlaaGreatDoor
end
section
namespace Go.Proofs.YtpncejdamjbnlaaGreatDoor
open Go.RowKit Jour
set_option maxHeartbeats 2000000 in
set_option maxRecDepth 100000 in
theorem crash_nil_gt (w : World) (A : Option Addr) (n c K : Nat) (vs us : List Ver) (h : DiskOf w A n c none 0 0 vs us) (hm : 0 < K) (hK : K < 9223372036854775808) :
    Calls Tryz.prog 7 #[.agg #[.slice A n c, .slice none 0 0], .int .i64 K] w (fun e w' => ∃ j, j ≤ us.length ∧ RetDisk w (vs ++ us.take j) [] e w') := by
  obtain ⟨W0, hW0⟩ : ∃ W0, W0 = ((w.alloc (Obj.cells #[Value.slice A n c, Value.slice none 0 0] 26)).alloc (Obj.cells #[Value.slice none 0 0, Value.slice none 0 0] 26)) := ⟨_, rfl⟩
  have hb0 : W0.heap[w.heap.size]? = some (.cells #[Value.slice A n c, Value.slice none 0 0] 26 (0, 0)) := by rw [hW0]; exact alloc_keep (heap_alloc_new _ _) _
  have hb1 : W0.heap[w.heap.size + 1]? = some (.cells #[Value.slice none 0 0, Value.slice none 0 0] 26 (0, 0)) := by
    rw [hW0]
    have := heap_alloc_new (w.alloc (Obj.cells #[Value.slice A n c, Value.slice none 0 0] 26)) (Obj.cells #[Value.slice none 0 0, Value.slice none 0 0] 26)
    rw [World.size_alloc] at this
    exact this
  have hal : Below w.heap.size w W0 := by rw [hW0]; exact (alloc_lt _).alloc (by simp) _
  have C := check_disk W0 A none n c 0 0 vs us (h.belowLt hal)
  rw [hW0] at C
  have HC := Lib.hid C
  have hl0 : w.heap.size < W0.heap.size := (Array.getElem?_eq_some_iff.1 hb0).1
  have hl1 : w.heap.size + 1 < W0.heap.size := (Array.getElem?_eq_some_iff.1 hb1).1
  have hsm := h.small
  have HB0 := Lib.hid hb0
  have HB1 := Lib.hid hb1
  have HAL := Lib.hid hal
  have HD := Lib.hid h
  have HW0 := Lib.hid hW0
  have hk0 : decide ((K : Int) < 0) = false := by simp
  have hk1 : decide ((K : Int) < (0 : Int)) = false := by simp
  have hk2 : decide (K < 0) = false := by simp
  have hk3 : decide ((0 : Int) < (K : Int)) = true := by simp; omega
  have hk4 : decide (0 < K) = true := by simp; omega
  clear h hW0 hb0 hb1 hal C
  go_enter Tryz.func7, Tryz.ntmps7
  go_wp2_with (fail)
  (with_reducible refine HC.out.mono ?_)
  rw [← HW0.out]
  rintro e w1 ⟨rfl, hbl⟩
  have j0 := (hbl.block _ hl0).trans HB0.out
  have j1 := (hbl.block _ hl1).trans HB1.out
  have k0 : w1.cell? ⟨w.heap.size, 0, none⟩ = some (.slice A n c) := by rw [cell_of_row _ _ _ _ _ _ j0]; rfl
  have k1 : w1.cell? ⟨w.heap.size, 1, none⟩ = some (.slice none 0 0) := by rw [cell_of_row _ _ _ _ _ _ j0]; rfl
  have hbw := below_then HAL.out hbl
  have HBW := Lib.hid hbw
  have J0 := Lib.hid j0
  have J1 := Lib.hid j1
  clear j0 j1 hbw hbl HC
  have hpc : Arr w1 none 0 0 ((frB us).take 0) := by rw [List.take_zero]; exact Arr.nil_
  obtain ⟨j, hj, hjt⟩ := crashB HD.out.ok2 0
  have CS := scan_any w1 0 0 none ((frB us).take 0) hpc (by omega)
  have hgl := scanB_le (((frB us).take 0).length + 1) ((frB us).take 0)
  obtain ⟨bodies, good, hsc⟩ : ∃ bodies good, scanB (((frB us).take 0).length + 1) ((frB us).take 0) = (bodies, good) := ⟨_, _, rfl⟩
  rw [hsc] at CS hjt hgl
  have hgm : good ≤ 0 := by
    have : good ≤ ((frB us).take 0).length := hgl
    rw [List.length_take] at this; omega
  obtain rfl : good = 0 := by omega
  have HJT : Hid ((frB us).take 0 = frB (us.take j)) := Lib.hid (by
    have h : (((frB us).take 0).take 0) = frB (us.take j) := hjt
    rw [List.take_take, Nat.min_eq_left hgm] at h
    exact h)
  have HCS := Lib.hid CS
  clear hpc CS hjt hgl hsc
  go_wp2_with (fail)
  (with_reducible refine HCS.out.mono ?_)
  rintro e w2 ⟨L, cL, rfl, _, hb2⟩
  have j0 := (hb2.block _ (Array.getElem?_eq_some_iff.1 J0.out).1).trans J0.out
  have j1 := (hb2.block _ (Array.getElem?_eq_some_iff.1 J1.out).1).trans J1.out
  have x0 : w2.cell? ⟨w.heap.size, 0, none⟩ = some (.slice A n c) := by rw [cell_of_row _ _ _ _ _ _ j0]; rfl
  have x1 : w2.cell? ⟨w.heap.size, 1, none⟩ = some (.slice none 0 0) := by rw [cell_of_row _ _ _ _ _ _ j0]; rfl
  have HB2 := Lib.hid (below_then HBW.out hb2)
  have J0' := Lib.hid j0
  have J1' := Lib.hid j1
  clear j0 j1 k0 k1 hb2 HCS
  go_upto_region 29 with (fail)
  have hpg : Arr w2 none 0 0 (frB (us.take j)) := by
    have e := HJT.out
    rw [List.take_zero] at e
    rw [← e]; exact Arr.nil_
  have CC : Hid (Calls Tryz.prog 23 #[.slice (some ⟨w2.heap.size, 0, none⟩) 2 2] (w2.alloc (.cells #[.slice A n c, .slice none 0 0] 24)).drew (RetArr 5 (w2.alloc (.cells #[.slice A n c, .slice none 0 0] 24)).drew [frB vs, frB (us.take j)].flatten)) := Lib.hid (by
    refine concat_any _ _ 2 2 [frB vs, frB (us.take j)] ((lit2_rows (HD.out.safe.belowLt HB2.out) hpg).belowLt ((Below.refl _ _).drew)) ?_
    have h1 := HD.out.safe.len
    have h2 := hpg.len
    simp [tot]; omega)
  have HBW2 : Hid (Below w.heap.size w (w2.alloc (.cells #[.slice A n c, .slice none 0 0] 24)).drew) := Lib.hid ((HB2.out.alloc HB2.out.size _).drew)
  have K0 : Hid ((w2.alloc (.cells #[.slice A n c, .slice none 0 0] 24)).drew.heap[w.heap.size]? = _) := Lib.hid (alloc_keep J0'.out _)
  have K1 : Hid ((w2.alloc (.cells #[.slice A n c, .slice none 0 0] 24)).drew.heap[w.heap.size + 1]? = _) := Lib.hid (alloc_keep J1'.out _)
  clear hpg
  go_region_held3 (fun w' => w'.cell? ⟨w.heap.size, 0, none⟩ = some (.slice A n c) ∧ w'.cell? ⟨w.heap.size, 1, none⟩ = some (.slice none 0 0)) (first | (exact ⟨x0, x1⟩) | (exact ⟨y0, y1⟩) | (exact ⟨p0, p1⟩) | go_keep)
    (first
      | (go_at_call 23
         (with_reducible refine CC.out.mono ?_)
         rintro e w3 ⟨A3, n3, c3, rfl, ho3, hb3⟩
         have i0 := (hb3.block _ (Array.getElem?_eq_some_iff.1 K0.out).1).trans K0.out
         have i1 := (hb3.block _ (Array.getElem?_eq_some_iff.1 K1.out).1).trans K1.out
         have y0 : w3.cell? ⟨w.heap.size, 0, none⟩ = some (.slice A n c) := by rw [cell_of_row _ _ _ _ _ _ i0]; rfl
         have y1 : w3.cell? ⟨w.heap.size, 1, none⟩ = some (.slice none 0 0) := by rw [cell_of_row _ _ _ _ _ _ i0]; rfl
         have z0 : w3.cell? ⟨w.heap.size + 1, 0, none⟩ = some (.slice none 0 0) := by rw [cell_of_row _ _ _ _ _ _ i1]; rfl
         have z1 : w3.cell? ⟨w.heap.size + 1, 1, none⟩ = some (.slice none 0 0) := by rw [cell_of_row _ _ _ _ _ _ i1]; rfl
         have f0 := frozen_of_row w3 (w.heap.size + 1) 0 _ 26 i1
         have f1 := frozen_of_row w3 (w.heap.size + 1) 1 _ 26 i1
         have p0 : ((w3.setCell ⟨w.heap.size + 1, 0, none⟩ (.slice A3 n3 c3)).setCell ⟨w.heap.size + 1, 1, none⟩ (.slice none 0 0)).cell? ⟨w.heap.size, 0, none⟩ = some (.slice A n c) := by
           rw [World.cell?_of_block (w := w3) ((heap_setCell_other _ _ _ _ (show w.heap.size ≠ w.heap.size + 1 by omega)).trans (heap_setCell_other _ _ _ _ (show w.heap.size ≠ w.heap.size + 1 by omega)))]; exact y0
         have p1 : ((w3.setCell ⟨w.heap.size + 1, 0, none⟩ (.slice A3 n3 c3)).setCell ⟨w.heap.size + 1, 1, none⟩ (.slice none 0 0)).cell? ⟨w.heap.size, 1, none⟩ = some (.slice none 0 0) := by
           rw [World.cell?_of_block (w := w3) ((heap_setCell_other _ _ _ _ (show w.heap.size ≠ w.heap.size + 1 by omega)).trans (heap_setCell_other _ _ _ _ (show w.heap.size ≠ w.heap.size + 1 by omega)))]; exact y1
         have I1 := Lib.hid i1
         have HO3 := Lib.hid ho3
         have HB3 := Lib.hid hb3
         clear i0 i1 ho3 hb3))
  obtain ⟨F, hF⟩ : ∃ F, F = (w3.setCell ⟨w.heap.size + 1, 0, none⟩ (.slice A3 n3 c3)).setCell ⟨w.heap.size + 1, 1, none⟩ (.slice none 0 0) := ⟨_, rfl⟩
  have n26 : ∀ (x : Array Value) cs, Obj.cells x 26 (0, 0) ≠ .cells cs 5 (0, 0) := fun x cs e => by injection e; rename_i e1 e2 e3; exact absurd e2 (by decide)
  have hFb : F.heap[w.heap.size + 1]? = some (.cells #[.slice A3 n3 c3, .slice none 0 0] 26 (0, 0)) := by rw [hF]; exact one_put (one_put I1.out)
  have q0 : F.cell? ⟨w.heap.size + 1, 0, none⟩ = some (.slice A3 n3 c3) := by rw [cell_of_row _ _ _ _ _ _ hFb]; rfl
  have q1 : F.cell? ⟨w.heap.size + 1, 1, none⟩ = some (.slice none 0 0) := by rw [cell_of_row _ _ _ _ _ _ hFb]; rfl
  have hFo : F.ownsRow (w.heap.size) 5 1 (.slice A3 n3 c3) n3 (flat (frB (vs ++ us.take j))) := by
    have o : w3.ownsRow w.heap.size 5 1 (.slice A3 n3 c3) n3 (flat (frB (vs ++ us.take j))) := by
      have := own_base HO3.out (show w.heap.size ≤ _ from HBW2.out.size)
      rw [frB_append]
      simpa [byte_size] using this
    rw [hF]
    have x := own_other o I1.out (n26 _)
    exact ownsRow_setCell_other (ownsRow_setCell_other o x _) x _
  have hFB : Below w.heap.size w F := by rw [hF]; exact ((below_then HBW2.out HB3.out).setCell (by show w.heap.size ≤ w.heap.size + 1; omega) _).setCell (by show w.heap.size ≤ w.heap.size + 1; omega) _
  have FIN : Hid (RetDisk w (vs ++ us.take j) [] (.returned (.tuple #[.agg #[.slice A3 n3 c3, .slice none 0 0], .int .i64 0])) F) := Lib.hid ⟨A3, n3, c3, none, 0, 0, rfl, ⟨Arr.of_own hFo, Arr.nil_, OkL.join HD.out.ok1 (HD.out.ok2.take j), trivial, by have := HD.out.few; simp; omega⟩, hFB⟩
  have HF := Lib.hid hF
  clear hF hFb hFo hFB n26 x0 x1 y0 y1 z0 z1 f0 f1 p0 p1
  go_wp2_with (fail)
  rw [← HF.out]
  exact bodyPost_ret (v := .tuple #[.agg #[.slice A3 n3 c3, .slice none 0 0], .int .i64 0]) (by simp [results, Tryz.results7, go_sem, q0, q1]) rfl ⟨j, hj, FIN.out⟩
set_option maxHeartbeats 2000000 in
set_option maxRecDepth 100000 in
theorem crash_nil_eq (w : World) (A : Option Addr) (n c : Nat) (vs us : List Ver) (h : DiskOf w A n c none 0 0 vs us) (hK : 0 < 9223372036854775808) :
    Calls Tryz.prog 7 #[.agg #[.slice A n c, .slice none 0 0], .int .i64 0] w (fun e w' => ∃ j, j ≤ us.length ∧ RetDisk w (vs ++ us.take j) [] e w') := by
  obtain ⟨W0, hW0⟩ : ∃ W0, W0 = ((w.alloc (Obj.cells #[Value.slice A n c, Value.slice none 0 0] 26)).alloc (Obj.cells #[Value.slice none 0 0, Value.slice none 0 0] 26)) := ⟨_, rfl⟩
  have hb0 : W0.heap[w.heap.size]? = some (.cells #[Value.slice A n c, Value.slice none 0 0] 26 (0, 0)) := by rw [hW0]; exact alloc_keep (heap_alloc_new _ _) _
  have hb1 : W0.heap[w.heap.size + 1]? = some (.cells #[Value.slice none 0 0, Value.slice none 0 0] 26 (0, 0)) := by
    rw [hW0]
    have := heap_alloc_new (w.alloc (Obj.cells #[Value.slice A n c, Value.slice none 0 0] 26)) (Obj.cells #[Value.slice none 0 0, Value.slice none 0 0] 26)
    rw [World.size_alloc] at this
    exact this
  have hal : Below w.heap.size w W0 := by rw [hW0]; exact (alloc_lt _).alloc (by simp) _
  have C := check_disk W0 A none n c 0 0 vs us (h.belowLt hal)
  rw [hW0] at C
  have HC := Lib.hid C
  have hl0 : w.heap.size < W0.heap.size := (Array.getElem?_eq_some_iff.1 hb0).1
  have hl1 : w.heap.size + 1 < W0.heap.size := (Array.getElem?_eq_some_iff.1 hb1).1
  have hsm := h.small
  have HB0 := Lib.hid hb0
  have HB1 := Lib.hid hb1
  have HAL := Lib.hid hal
  have HD := Lib.hid h
  have HW0 := Lib.hid hW0
  have hk0 : decide ((0 : Int) < 0) = false := by simp
  clear h hW0 hb0 hb1 hal C
  go_enter Tryz.func7, Tryz.ntmps7
  go_wp2_with (fail)
  (with_reducible refine HC.out.mono ?_)
  rw [← HW0.out]
  rintro e w1 ⟨rfl, hbl⟩
  have j0 := (hbl.block _ hl0).trans HB0.out
  have j1 := (hbl.block _ hl1).trans HB1.out
  have k0 : w1.cell? ⟨w.heap.size, 0, none⟩ = some (.slice A n c) := by rw [cell_of_row _ _ _ _ _ _ j0]; rfl
  have k1 : w1.cell? ⟨w.heap.size, 1, none⟩ = some (.slice none 0 0) := by rw [cell_of_row _ _ _ _ _ _ j0]; rfl
  have hbw := below_then HAL.out hbl
  have HBW := Lib.hid hbw
  have J0 := Lib.hid j0
  have J1 := Lib.hid j1
  clear j0 j1 hbw hbl HC
  have hpc : Arr w1 none 0 0 ((frB us).take 0) := by rw [List.take_zero]; exact Arr.nil_
  obtain ⟨j, hj, hjt⟩ := crashB HD.out.ok2 0
  have CS := scan_any w1 0 0 none ((frB us).take 0) hpc (by omega)
  have hgl := scanB_le (((frB us).take 0).length + 1) ((frB us).take 0)
  obtain ⟨bodies, good, hsc⟩ : ∃ bodies good, scanB (((frB us).take 0).length + 1) ((frB us).take 0) = (bodies, good) := ⟨_, _, rfl⟩
  rw [hsc] at CS hjt hgl
  have hgm : good ≤ 0 := by
    have : good ≤ ((frB us).take 0).length := hgl
    rw [List.length_take] at this; omega
  obtain rfl : good = 0 := by omega
  have HJT : Hid ((frB us).take 0 = frB (us.take j)) := Lib.hid (by
    have h : (((frB us).take 0).take 0) = frB (us.take j) := hjt
    rw [List.take_take, Nat.min_eq_left hgm] at h
    exact h)
  have HCS := Lib.hid CS
  clear hpc CS hjt hgl hsc
  go_wp2_with (fail)
  (with_reducible refine HCS.out.mono ?_)
  rintro e w2 ⟨L, cL, rfl, _, hb2⟩
  have j0 := (hb2.block _ (Array.getElem?_eq_some_iff.1 J0.out).1).trans J0.out
  have j1 := (hb2.block _ (Array.getElem?_eq_some_iff.1 J1.out).1).trans J1.out
  have x0 : w2.cell? ⟨w.heap.size, 0, none⟩ = some (.slice A n c) := by rw [cell_of_row _ _ _ _ _ _ j0]; rfl
  have x1 : w2.cell? ⟨w.heap.size, 1, none⟩ = some (.slice none 0 0) := by rw [cell_of_row _ _ _ _ _ _ j0]; rfl
  have HB2 := Lib.hid (below_then HBW.out hb2)
  have J0' := Lib.hid j0
  have J1' := Lib.hid j1
  clear j0 j1 k0 k1 hb2 HCS
  go_upto_region 29 with (fail)
  have hpg : Arr w2 none 0 0 (frB (us.take j)) := by
    have e := HJT.out
    rw [List.take_zero] at e
    rw [← e]; exact Arr.nil_
  have CC : Hid (Calls Tryz.prog 23 #[.slice (some ⟨w2.heap.size, 0, none⟩) 2 2] (w2.alloc (.cells #[.slice A n c, .slice none 0 0] 24)).drew (RetArr 5 (w2.alloc (.cells #[.slice A n c, .slice none 0 0] 24)).drew [frB vs, frB (us.take j)].flatten)) := Lib.hid (by
    refine concat_any _ _ 2 2 [frB vs, frB (us.take j)] ((lit2_rows (HD.out.safe.belowLt HB2.out) hpg).belowLt ((Below.refl _ _).drew)) ?_
    have h1 := HD.out.safe.len
    have h2 := hpg.len
    simp [tot]; omega)
  have HBW2 : Hid (Below w.heap.size w (w2.alloc (.cells #[.slice A n c, .slice none 0 0] 24)).drew) := Lib.hid ((HB2.out.alloc HB2.out.size _).drew)
  have K0 : Hid ((w2.alloc (.cells #[.slice A n c, .slice none 0 0] 24)).drew.heap[w.heap.size]? = _) := Lib.hid (alloc_keep J0'.out _)
  have K1 : Hid ((w2.alloc (.cells #[.slice A n c, .slice none 0 0] 24)).drew.heap[w.heap.size + 1]? = _) := Lib.hid (alloc_keep J1'.out _)
  clear hpg
  go_region_held3 (fun w' => w'.cell? ⟨w.heap.size, 0, none⟩ = some (.slice A n c) ∧ w'.cell? ⟨w.heap.size, 1, none⟩ = some (.slice none 0 0)) (first | (exact ⟨x0, x1⟩) | (exact ⟨y0, y1⟩) | (exact ⟨p0, p1⟩) | go_keep)
    (first
      | (go_at_call 23
         (with_reducible refine CC.out.mono ?_)
         rintro e w3 ⟨A3, n3, c3, rfl, ho3, hb3⟩
         have i0 := (hb3.block _ (Array.getElem?_eq_some_iff.1 K0.out).1).trans K0.out
         have i1 := (hb3.block _ (Array.getElem?_eq_some_iff.1 K1.out).1).trans K1.out
         have y0 : w3.cell? ⟨w.heap.size, 0, none⟩ = some (.slice A n c) := by rw [cell_of_row _ _ _ _ _ _ i0]; rfl
         have y1 : w3.cell? ⟨w.heap.size, 1, none⟩ = some (.slice none 0 0) := by rw [cell_of_row _ _ _ _ _ _ i0]; rfl
         have z0 : w3.cell? ⟨w.heap.size + 1, 0, none⟩ = some (.slice none 0 0) := by rw [cell_of_row _ _ _ _ _ _ i1]; rfl
         have z1 : w3.cell? ⟨w.heap.size + 1, 1, none⟩ = some (.slice none 0 0) := by rw [cell_of_row _ _ _ _ _ _ i1]; rfl
         have f0 := frozen_of_row w3 (w.heap.size + 1) 0 _ 26 i1
         have f1 := frozen_of_row w3 (w.heap.size + 1) 1 _ 26 i1
         have p0 : ((w3.setCell ⟨w.heap.size + 1, 0, none⟩ (.slice A3 n3 c3)).setCell ⟨w.heap.size + 1, 1, none⟩ (.slice none 0 0)).cell? ⟨w.heap.size, 0, none⟩ = some (.slice A n c) := by
           rw [World.cell?_of_block (w := w3) ((heap_setCell_other _ _ _ _ (show w.heap.size ≠ w.heap.size + 1 by omega)).trans (heap_setCell_other _ _ _ _ (show w.heap.size ≠ w.heap.size + 1 by omega)))]; exact y0
         have p1 : ((w3.setCell ⟨w.heap.size + 1, 0, none⟩ (.slice A3 n3 c3)).setCell ⟨w.heap.size + 1, 1, none⟩ (.slice none 0 0)).cell? ⟨w.heap.size, 1, none⟩ = some (.slice none 0 0) := by
           rw [World.cell?_of_block (w := w3) ((heap_setCell_other _ _ _ _ (show w.heap.size ≠ w.heap.size + 1 by omega)).trans (heap_setCell_other _ _ _ _ (show w.heap.size ≠ w.heap.size + 1 by omega)))]; exact y1
         have I1 := Lib.hid i1
         have HO3 := Lib.hid ho3
         have HB3 := Lib.hid hb3
         clear i0 i1 ho3 hb3))
  obtain ⟨F, hF⟩ : ∃ F, F = (w3.setCell ⟨w.heap.size + 1, 0, none⟩ (.slice A3 n3 c3)).setCell ⟨w.heap.size + 1, 1, none⟩ (.slice none 0 0) := ⟨_, rfl⟩
  have n26 : ∀ (x : Array Value) cs, Obj.cells x 26 (0, 0) ≠ .cells cs 5 (0, 0) := fun x cs e => by injection e; rename_i e1 e2 e3; exact absurd e2 (by decide)
  have hFb : F.heap[w.heap.size + 1]? = some (.cells #[.slice A3 n3 c3, .slice none 0 0] 26 (0, 0)) := by rw [hF]; exact one_put (one_put I1.out)
  have q0 : F.cell? ⟨w.heap.size + 1, 0, none⟩ = some (.slice A3 n3 c3) := by rw [cell_of_row _ _ _ _ _ _ hFb]; rfl
  have q1 : F.cell? ⟨w.heap.size + 1, 1, none⟩ = some (.slice none 0 0) := by rw [cell_of_row _ _ _ _ _ _ hFb]; rfl
  have hFo : F.ownsRow (w.heap.size) 5 1 (.slice A3 n3 c3) n3 (flat (frB (vs ++ us.take j))) := by
    have o : w3.ownsRow w.heap.size 5 1 (.slice A3 n3 c3) n3 (flat (frB (vs ++ us.take j))) := by
      have := own_base HO3.out (show w.heap.size ≤ _ from HBW2.out.size)
      rw [frB_append]
      simpa [byte_size] using this
    rw [hF]
    have x := own_other o I1.out (n26 _)
    exact ownsRow_setCell_other (ownsRow_setCell_other o x _) x _
  have hFB : Below w.heap.size w F := by rw [hF]; exact ((below_then HBW2.out HB3.out).setCell (by show w.heap.size ≤ w.heap.size + 1; omega) _).setCell (by show w.heap.size ≤ w.heap.size + 1; omega) _
  have FIN : Hid (RetDisk w (vs ++ us.take j) [] (.returned (.tuple #[.agg #[.slice A3 n3 c3, .slice none 0 0], .int .i64 0])) F) := Lib.hid ⟨A3, n3, c3, none, 0, 0, rfl, ⟨Arr.of_own hFo, Arr.nil_, OkL.join HD.out.ok1 (HD.out.ok2.take j), trivial, by have := HD.out.few; simp; omega⟩, hFB⟩
  have HF := Lib.hid hF
  clear hF hFb hFo hFB n26 x0 x1 y0 y1 z0 z1 f0 f1 p0 p1
  go_wp2_with (fail)
  rw [← HF.out]
  exact bodyPost_ret (v := .tuple #[.agg #[.slice A3 n3 c3, .slice none 0 0], .int .i64 0]) (by simp [results, Tryz.results7, go_sem, q0, q1]) rfl ⟨j, hj, FIN.out⟩
end Go.Proofs.YtpncejdamjbnlaaGreatDoor
end
