/-
  A part of the proof of TopCrashRecovery: walks of the functions that the law calls.
-/
import Derived.Test.YtpncejdamjbnlaaGreatDoorJn
import Derived.Laws.Tables
set_option linter.all false
section
namespace Go.Proofs.YtpncejdamjbnlaaGreatDoor
open Go.RowKit
def W64 (x : Int) : Prop := -9223372036854775808 ≤ x ∧ x ≤ 9223372036854775807
def W64s (ps : List Pl) : Prop := ∀ p ∈ ps, W64 p.1 ∧ W64 p.2
def encI (x : Int) : List Byte := encB (Oct.zig x)
def encPs (ps : List Pl) : List Byte := ps.flatMap fun p => encI p.1 ++ encI p.2
theorem encI_len {x : Int} (h : W64 x) : (encI x).length ≤ 10 := encB_len _ (Oct.zig_lt h.1 h.2)
theorem encPs_len : ∀ {ps : List Pl}, W64s ps → (encPs ps).length ≤ 20 * ps.length
  | [], _ => by simp [encPs]
  | p :: ps, h => by
    have hp := h p (by simp)
    have ih := encPs_len (ps := ps) fun x hx => h x (by simp [hx])
    have e1 := encI_len hp.1
    have e2 := encI_len hp.2
    have : (encPs (p :: ps)).length = (encI p.1).length + (encI p.2).length + (encPs ps).length := by simp [encPs]; omega
    rw [this]
    simp only [List.length_cons]
    omega
theorem encPs_snoc {ps : List Pl} {k : Nat} {p : Pl} (h : ps[k]? = some p) : encPs (ps.take (k + 1)) = encPs (ps.take k) ++ encI p.1 ++ encI p.2 := by
  rw [List.take_succ, h]; simp [encPs]
theorem W64s.take {ps : List Pl} (h : W64s ps) (k : Nat) : W64s (ps.take k) := fun p hp => h p (List.mem_of_mem_take hp)
theorem two_cells (w : World) (u v : Value) (t : TypeId) : (w.alloc (.cells #[u, v] t)).drew.cell? ⟨w.heap.size, 0, none⟩ = some u ∧ (w.alloc (.cells #[u, v] t)).drew.cell? ⟨w.heap.size, 1, none⟩ = some v := by
  have hb : (w.alloc (.cells #[u, v] t)).heap[w.heap.size]? = some (.cells #[u, v] t (0, 0)) := heap_alloc_new _ _
  refine ⟨?_, ?_⟩
  · show (w.alloc (.cells #[u, v] t)).cell? _ = _
    rw [cell_of_row _ _ _ _ _ _ hb]; rfl
  · show (w.alloc (.cells #[u, v] t)).cell? _ = _
    rw [cell_of_row _ _ _ _ _ _ hb]; rfl
set_option maxHeartbeats 2000000 in
set_option maxRecDepth 100000 in
theorem weekPut_any (w : World) (n c n' c' : Nat) (A A' : Option Addr) (bs : List Byte) (ps : List Pl) (hI : Arr w A n c bs) (hP : Arr w A' n' c' ps) (hn : n ≤ 100000) (hn' : n' ≤ 64) (h64 : W64s ps) :
    Calls Tryz.prog 56 #[.slice A n c, .agg #[.slice A' n' c']] w (RetArr 5 w (bs ++ encI ps.length ++ encPs ps)) := by
  have hcap := hP.cap
  have hmax := hP.max
  unfold maxLen at hmax
  have HP := Lib.hid hP
  have HL := Lib.hid hP.len
  have H64 := Lib.hid h64
  have hal := alloc_lt (w := w) (.cells #[.slice A' n' c'] 32)
  have CALL := Lib.hid (putInt_any (w.alloc (.cells #[.slice A' n' c'] 32)) n c A bs n' (hI.belowLt hal) (by omega) (by omega) (by omega))
  have HAL := Lib.hid hal
  have HNB := Lib.hid hI.len
  clear hI hP h64 hal
  go_enter Tryz.func56, Tryz.ntmps56
  go_wp2_with (fail)
  (with_reducible refine CALL.out.mono ?_)
  rintro e w1 ⟨A1, n1, c1, rfl, ho1, hb1⟩
  have hbx : w1.heap[w.heap.size]? = some (.cells #[.slice A' n' c'] 32 (0, 0)) := (hb1.block _ (by simp)).trans (heap_alloc_new w _)
  have k1 := cell_of_one hbx
  have HB1 := Lib.hid (below_then HAL.out hb1)
  have HO1 := Lib.hid (own_base ho1 (show w.heap.size ≤ _ by simp))
  clear hbx ho1 hb1 CALL
  go_wp2
  go_loopw [0, 6, 15] (fun v _ i wr => ∃ (k m : Nat) (A2 : Option Addr) (c2 : Nat), k ≤ n' ∧ i = .int .i64 k ∧ v = .slice A2 m c2 ∧ wr.ownsRow w.heap.size 5 1 (.slice A2 m c2) m (flat (bs ++ encI n' ++ encPs (ps.take k))) ∧ Below w.heap.size w wr) (fun _ _ i _ => n' - (intOf i).toNat)
  case atStart => exact ⟨0, n1, A1, c1, Nat.zero_le _, rfl, rfl, by have := HO1.out; rw [List.take_zero]; simpa [encPs, byte_size, encI] using this, HB1.out⟩
  case round =>
    obtain ⟨k, m, A2, c2, hk, rfl, rfl, hown, hb⟩ := hrel
    by_cases hlt : k < n'
    · obtain ⟨⟨p1, p2⟩, hp⟩ : ∃ p, ps[k]? = some p := ⟨_, List.getElem?_eq_getElem (by have := HL.out; omega)⟩
      obtain ⟨ad, rfl, hadS, hc1, hc2⟩ := HP.out.pl hp
      have e1 := (hb.cell (p := ad.add (k * 2)) (by rw [block_of_add]; exact hadS)).trans hc1
      have e2 := (hb.cell (p := ⟨(ad.add (k * 2)).block, (ad.add (k * 2)).off + 1, none⟩) (by show (ad.add (k * 2)).block < _; rw [block_of_add]; exact hadS)).trans hc2
      dsimp only at e1 e2
      have hw := H64.out _ (List.mem_of_getElem? hp)
      have hsn := encPs_snoc hp
      dsimp only at hw hsn
      have hm := (Arr.of_own hown).len
      have hl0 := encI_len (x := (n' : Int)) ⟨by omega, by omega⟩
      have hl1 := encPs_len (H64.out.take k)
      have hl2 : (ps.take k).length ≤ 64 := by rw [List.length_take]; omega
      have hmb : m ≤ 110000 := by rw [hm]; simp only [List.length_append]; have := HNB.out; omega
      have hlI1 := encI_len hw.1
      have HSN := Lib.hid hsn
      have HW1 := Lib.hid hw.1
      have HW2 := Lib.hid hw.2
      generalize hcur : bs ++ encI n' ++ encPs (ps.take k) = cur at hown
      have HM : Hid (m = cur.length) := Lib.hid (by rw [hm, hcur])
      have HC := Lib.hid hcur
      have HO := Lib.hid hown
      have HB := Lib.hid hb
      clear hadS hc1 hc2 hp hw hsn hm hl0 hl1 hl2 hcur hown hb
      have HAW : Hid (Below wr.heap.size wr (wr.alloc (Obj.cells #[Value.int IntKind.i64 p1, Value.int IntKind.i64 p2] 104)).drew) := Lib.hid (((Below.refl _ _).alloc (Nat.le_refl _) _).drew)
      have C1 : Hid (Calls Tryz.prog 55 #[.slice A2 m c2, .int .i64 p1] (wr.alloc (Obj.cells #[Value.int IntKind.i64 p1, Value.int IntKind.i64 p2] 104)).drew (RetArr 5 (wr.alloc (Obj.cells #[Value.int IntKind.i64 p1, Value.int IntKind.i64 p2] 104)).drew (cur ++ encI p1))) :=
        Lib.hid (putInt_any _ m c2 A2 cur p1 ((Arr.of_own HO.out).belowLt HAW.out) (by omega) HW1.out.1 HW1.out.2)
      have x1 : (wr.alloc (Obj.cells #[Value.int IntKind.i64 p1, Value.int IntKind.i64 p2] 104)).drew.cell? ⟨wr.heap.size, 0, none⟩ = some (.int .i64 p1) := (two_cells wr _ _ 104).1
      have x2 : (wr.alloc (Obj.cells #[Value.int IntKind.i64 p1, Value.int IntKind.i64 p2] 104)).drew.cell? ⟨wr.heap.size, 1, none⟩ = some (.int .i64 p2) := (two_cells wr _ _ 104).2
      have hsz : (wr.alloc (Obj.cells #[Value.int IntKind.i64 p1, Value.int IntKind.i64 p2] 104)).drew.heap.size = wr.heap.size + 1 := by simp
      have X1 := Lib.hid x1
      have X2 := Lib.hid x2
      have HSZ := Lib.hid hsz
      clear x1 x2 hsz
      go_upto_region 23 with (fail)
      go_region_held3 (fun w' => w'.cell? ⟨wr.heap.size, 0, none⟩ = some (.int .i64 p1) ∧ w'.cell? ⟨wr.heap.size, 1, none⟩ = some (.int .i64 p2)) (first | (exact ⟨f1, f2⟩) | (exact ⟨f3, f4⟩) | go_keep)
        (first
          | (go_at_call 55
             (with_reducible refine C1.out.mono ?_)
             rintro e w3 ⟨A3, m3, c3, rfl, ho3, hb3⟩
             have f1 := (hb3.cell (p := ⟨wr.heap.size, 0, none⟩) (by rw [HSZ.out]; show wr.heap.size < wr.heap.size + 1; omega)).trans X1.out
             have f2 := (hb3.cell (p := ⟨wr.heap.size, 1, none⟩) (by rw [HSZ.out]; show wr.heap.size < wr.heap.size + 1; omega)).trans X2.out
             have C2 : Hid (Calls Tryz.prog 55 #[.slice A3 m3 c3, .int .i64 p2] w3 (RetArr 5 w3 (cur ++ encI p1 ++ encI p2))) :=
               Lib.hid (putInt_any _ m3 c3 A3 (cur ++ encI p1) p2 (Arr.of_own ho3) (by have := (Arr.of_own ho3).len; rw [this, List.length_append]; have := HM.out; omega) HW2.out.1 HW2.out.2)
             clear C1)
          | (go_at_call 55
             (with_reducible refine C2.out.mono ?_)
             rintro e w4 ⟨A4, m4, c4, rfl, ho4, hb4⟩
             have f3 := (hb4.cell (p := ⟨wr.heap.size, 0, none⟩) (Nat.lt_of_lt_of_le (by rw [HSZ.out]; show wr.heap.size < wr.heap.size + 1; omega) hb3.size)).trans f1
             have f4 := (hb4.cell (p := ⟨wr.heap.size, 1, none⟩) (Nat.lt_of_lt_of_le (by rw [HSZ.out]; show wr.heap.size < wr.heap.size + 1; omega) hb3.size)).trans f2))
      have HO4 := Lib.hid (own_base ho4 (show w.heap.size ≤ _ from Nat.le_trans HB.out.size (Nat.le_trans HAW.out.size hb3.size)))
      have HB4 := Lib.hid (HB.out.trans ((below_then HAW.out (below_then hb3 hb4)).mono HB.out.size))
      clear ho3 hb3 ho4 hb4 f1 f2 f3 f4 C2
      go_wp2
      go_roundw
      case rel => exact ⟨k + 1, m4, A4, c4, by omega, by go_num, rfl, by rw [HSN.out, ← List.append_assoc, ← List.append_assoc, HC.out]; exact HO4.out, HB4.out⟩
      case measure => simp [intOf]; omega
    · obtain rfl : n' = k := by omega
      rw [List.take_of_length_le (by have := HL.out; omega)] at hown
      have e : encI (n' : Int) = encI (ps.length : Int) := by rw [HL.out]
      rw [e] at hown
      have HO := Lib.hid hown
      have HB := Lib.hid hb
      clear hown hb e
      go_wp2
      go_ret
      exact ⟨A2, m, c2, rfl, HO.out, HB.out⟩
end Go.Proofs.YtpncejdamjbnlaaGreatDoor
end
section
namespace Go.Proofs.YtpncejdamjbnlaaGreatDoor
open Go.RowKit
def getN (bs : List Byte) (at_ : Nat) : Except Int (Int × Nat) :=
  match Oct.dec 0 0 (nat8 (bs.drop at_)) with
  | .ok u k => .ok (Oct.unzig u, at_ + k)
  | .form => .error 11
  | .short => .error 10
theorem getR_of_ok {bs : List Byte} {at_ nx : Nat} {x : Int} (h : getN bs at_ = .ok (x, nx)) : getR bs at_ = (x, (nx : Int), 0) := by
  unfold getN at h
  unfold getR
  cases hd : Oct.dec 0 0 (nat8 (bs.drop at_)) <;> rw [hd] at h <;> simp at h
  obtain ⟨rfl, rfl⟩ := h
  simp
theorem getR_of_error {bs : List Byte} {at_ : Nat} {e : Int} (h : getN bs at_ = .error e) : getR bs at_ = (0, 0, e) ∧ (e == 0) = false := by
  unfold getN at h
  unfold getR
  cases hd : Oct.dec 0 0 (nat8 (bs.drop at_)) <;> rw [hd] at h <;> simp at h <;> subst h <;> exact ⟨rfl, rfl⟩
theorem dec_le : ∀ (l : List Nat) (i u v k : Nat), Oct.dec i u l = .ok v k → k ≤ i + l.length
  | [], i, u, v, k, h => by simp [Oct.dec] at h
  | c :: r, i, u, v, k, h => by
    simp only [Oct.dec] at h
    split at h
    · cases h
    · split at h
      · cases h
      · split at h
        · injection h with h1 h2
          simp only [List.length_cons]; omega
        · have := dec_le r _ _ _ _ h
          simp only [List.length_cons]; omega
theorem getN_le {bs : List Byte} {at_ nx : Nat} {x : Int} (h : getN bs at_ = .ok (x, nx)) (ha : at_ ≤ bs.length) : nx ≤ bs.length := by
  unfold getN at h
  split at h <;> simp at h
  rename_i u k hd
  have := dec_le _ _ _ _ _ hd
  simp [nat8] at this
  omega
def psR (bs : List Byte) : Nat → List Pl → Nat → Except Int (List Pl × Nat)
  | 0, acc, at_ => .ok (acc, at_)
  | k + 1, acc, at_ => match getN bs at_ with
    | .error e => .error e
    | .ok a => match getN bs a.2 with
      | .error e => .error e
      | .ok b => psR bs k (acc ++ [(a.1, b.1)]) b.2
def weekR (bs : List Byte) (at_ : Nat) : Except Int (List Pl × Nat) :=
  match getN bs at_ with
  | .error e => .error e
  | .ok a => if a.1 < 0 then .error 11 else if 64 < a.1 then .error 2 else psR bs a.1.toNat [] a.2
def RetWeek (w : World) (r : Except Int (List Pl × Nat)) (e : Ending) (w' : World) : Prop :=
  match r with
  | .error er => e = .returned (.tuple #[.agg #[.slice none 0 0], .int .i64 0, .int .i64 er]) ∧ Below w.heap.size w w'
  | .ok (ps, nx) => ∃ A n c, e = .returned (.tuple #[.agg #[.slice A n c], .int .i64 (nx : Int), .int .i64 0]) ∧ w'.ownsRow w.heap.size 104 2 (.slice A n c) n (flat ps) ∧ Below w.heap.size w w'
theorem retWeek_error {w w' : World} {r : Except Int (List Pl × Nat)} {er : Int} (h : r = .error er) (hb : Below w.heap.size w w') : RetWeek w r (.returned (.tuple #[.agg #[.slice none 0 0], .int .i64 0, .int .i64 er])) w' := by subst h; exact ⟨rfl, hb⟩
def Stage (bs : List Byte) (xs : List Value) (p nx' j nx2 : Nat) (ys : List Value) : Prop :=
  (j = 0 ∧ nx2 = nx' ∧ ys = xs) ∨ (j = 1 ∧ ∃ a : Int, getN bs nx' = .ok (a, nx2) ∧ ys = xs.set p (.int .i64 a)) ∨
  (j = 2 ∧ ∃ (a : Int) (n1 : Nat) (b : Int), getN bs nx' = .ok (a, n1) ∧ getN bs n1 = .ok (b, nx2) ∧ ys = (xs.set p (.int .i64 a)).set (p + 1) (.int .i64 b))
theorem Stage.le {bs : List Byte} {xs ys : List Value} {p nx' j nx2 : Nat} (h : Stage bs xs p nx' j nx2 ys) : j ≤ 2 := by
  rcases h with ⟨h, _⟩ | ⟨h, _⟩ | ⟨h, _⟩ <;> omega
theorem Stage.next {bs : List Byte} {xs ys : List Value} {p nx' j nx2 n3 : Nat} {a : Int} (h : Stage bs xs p nx' j nx2 ys) (hj : j < 2) (hg : getN bs nx2 = .ok (a, n3)) : Stage bs xs p nx' (j + 1) n3 (ys.set (p + j) (.int .i64 a)) := by
  rcases h with ⟨rfl, rfl, rfl⟩ | ⟨rfl, b, hb, rfl⟩ | ⟨rfl, _⟩
  · exact .inr (.inl ⟨rfl, a, hg, rfl⟩)
  · exact .inr (.inr ⟨rfl, b, nx2, a, hb, hg, rfl⟩)
  · omega
theorem Stage.fails {bs : List Byte} {xs ys : List Value} {p nx' j nx2 m : Nat} {er : Int} {acc : List Pl} (h : Stage bs xs p nx' j nx2 ys) (hj : j < 2) (hg : getN bs nx2 = .error er) : psR bs (m + 1) acc nx' = .error er := by
  rcases h with ⟨rfl, rfl, rfl⟩ | ⟨rfl, b, hb, rfl⟩ | ⟨rfl, _⟩
  · simp only [psR, hg]
  · simp only [psR, hb, hg]
  · omega
theorem Stage.done {bs : List Byte} {xs ys : List Value} {k nx' nx2 m : Nat} {acc : List Pl} (h : Stage bs xs (k * 2) nx' 2 nx2 ys) (hl : k * 2 + 1 < xs.length) (ht : xs.take (k * 2) = flat acc) :
    ∃ p : Pl, psR bs (m + 1) acc nx' = psR bs m (acc ++ [p]) nx2 ∧ ys.take ((k + 1) * 2) = flat (acc ++ [p]) := by
  rcases h with ⟨h, _⟩ | ⟨h, _⟩ | ⟨_, a, n1, b, h1, h2, rfl⟩
  · omega
  · omega
  · refine ⟨(a, b), by simp only [psR, h1, h2], ?_⟩
    rw [flat_append, ← ht]
    have e : (k + 1) * 2 = k * 2 + 1 + 1 := by omega
    rw [e, List.take_succ_eq_append_getElem (by simpa using hl), List.take_succ_eq_append_getElem (by simp; omega)]
    simp [flat, Flat.cells]
    rw [List.take_set, List.take_set, List.set_eq_of_length_le (by simp; omega), List.set_eq_of_length_le (by simp; omega)]
theorem drew_grown {w w' : World} {row : Option Nat} (h : w.grownBy w' row) : w.grownBy w'.drew row := ⟨h.os, h.tape, h.output, h.size, h.block⟩
theorem cell_grown {w w' : World} {row : Option Nat} {b o : Nat} (h : w.grownBy w' row) (hb : b < w.heap.size) (hne : row ≠ some b) : w'.cell? ⟨b, o, none⟩ = w.cell? ⟨b, o, none⟩ :=
  World.cell?_of_block (w := w) (h.block b hb (fun e => hne e.symm))
theorem two_ptrs (w : World) (u v : Value) (t : TypeId) (j : Nat) (x : Value) (h : (#[u, v] : Array Value)[j]? = some x) : (w.alloc (.cells #[u, v] t)).drew.cell? ⟨w.heap.size, j, none⟩ = some x := by
  have hb : (w.alloc (.cells #[u, v] t)).heap[w.heap.size]? = some (.cells #[u, v] t (0, 0)) := heap_alloc_new _ _
  show (w.alloc (.cells #[u, v] t)).cell? _ = _
  rw [cell_of_row _ _ _ _ _ _ hb]; exact h
set_option maxHeartbeats 2000000 in
set_option maxRecDepth 100000 in
theorem weekGet_any (w : World) (n c k0 : Nat) (A : Option Addr) (bs : List Byte) (hI : Arr w A n c bs) (hn : n ≤ 1048576) (hk0 : k0 ≤ n) :
    Calls Tryz.prog 194 #[.slice A n c, .int .i64 k0] w (RetWeek w (weekR bs k0)) := by
  have HI := Lib.hid hI
  have hal := alloc_lt (w := w) (.cells #[.slice none 0 0] 32)
  have CALL := Lib.hid (getInt_all (w.alloc (.cells #[.slice none 0 0] 32)) n c k0 A bs (hI.belowLt hal) hn hk0)
  have HAL := Lib.hid hal
  have hb4 : (w.alloc (.cells #[.slice none 0 0] 32)).heap[w.heap.size]? = some (.cells #[.slice none 0 0] 32 (0, 0)) := heap_alloc_new _ _
  have k4 := cell_of_one hb4
  have f4 := free_of_one hb4
  have HB4 := Lib.hid hb4
  clear hI hal hb4
  rcases hg : getN bs k0 with er | ⟨x, nx⟩
  · obtain ⟨hr, her⟩ := getR_of_error hg
    rw [hr] at CALL
    have HR : Hid (weekR bs k0 = .error er) := Lib.hid (by unfold weekR; rw [hg])
    clear hr hg
    go_enter Tryz.func194, Tryz.ntmps194
    go_wp2_with (fail)
    (with_reducible refine CALL.out.mono ?_)
    rintro e w1 ⟨rfl, rfl⟩
    go_wp2
    exact bodyPost_ret (v := .tuple #[.agg #[.slice none 0 0], .int .i64 0, .int .i64 er]) (by simp [results, Tryz.results194, go_sem, k4]) rfl (retWeek_error HR.out HAL.out)
  · have hr := getR_of_ok hg
    rw [hr] at CALL
    by_cases hx0 : x < 0
    · have HR : Hid (weekR bs k0 = .error 11) := Lib.hid (by unfold weekR; rw [hg]; simp [hx0])
      have d0 : decide (x < 0) = true := by simpa using hx0
      clear hr hg hx0
      go_enter Tryz.func194, Tryz.ntmps194
      go_wp2_with (fail)
      (with_reducible refine CALL.out.mono ?_)
      rintro e w1 ⟨rfl, rfl⟩
      go_wp2
      exact bodyPost_ret (v := .tuple #[.agg #[.slice none 0 0], .int .i64 0, .int .i64 11]) (by simp [results, Tryz.results194, go_sem, k4]) rfl (retWeek_error HR.out HAL.out)
    · by_cases hx64 : 64 < x
      · have HR : Hid (weekR bs k0 = .error 2) := Lib.hid (by unfold weekR; rw [hg]; simp [hx0, hx64])
        have d0 : decide (x < 0) = false := by simpa using hx0
        have d1 : decide (64 < x) = true := by simpa using hx64
        clear hr hg hx0 hx64
        go_enter Tryz.func194, Tryz.ntmps194
        go_wp2_with (fail)
        (with_reducible refine CALL.out.mono ?_)
        rintro e w1 ⟨rfl, rfl⟩
        go_wp2
        exact bodyPost_ret (v := .tuple #[.agg #[.slice none 0 0], .int .i64 0, .int .i64 2]) (by simp [results, Tryz.results194, go_sem, k4]) rfl (retWeek_error HR.out HAL.out)
      · obtain ⟨K, rfl⟩ : ∃ K : Nat, x = (K : Int) := ⟨x.toNat, by omega⟩
        have hK : K ≤ 64 := by omega
        have HR : Hid (weekR bs k0 = psR bs K [] nx) := Lib.hid (by unfold weekR; rw [hg]; simp only; rw [if_neg hx0, if_neg hx64, Int.toNat_natCast])
        have hnx : nx ≤ n := by have := getN_le hg (by have := HI.out.len; omega); have := HI.out.len; omega
        have d0 : decide ((K : Int) < 0) = false := by simp
        have d1 : decide ((64 : Int) < (K : Int)) = false := by simp; omega
        obtain ⟨i1, hi1, hy0, hy1, hy2⟩ := info_parts' pl_info
        clear hr hg hx0 hx64
        go_enter Tryz.func194, Tryz.ntmps194
        go_wp2_with (fail)
        (with_reducible refine CALL.out.mono ?_)
        rintro e w1 ⟨rfl, rfl⟩
        clear CALL
        go_wp2_with (first
          | (at_make
             (refine wpList_make_full _ rfl _ _ _ rfl (w.heap.size + 1) 104 i1 _ 2 Tryz.underlying30 hi1 hy0 hy1 .i64 .i64 _ _ K (by rfl) (by rfl) (by rfl) (by rfl) (by rw [hy2]; omega) (by simp only [maxLen]; omega) (by simp) ?_)
             intro w4 hown4 hg4))
        have eG : (w.alloc (Obj.cells #[Value.slice none 0 0] 32)).heap.size = w.heap.size + 1 := by simp
        rw [eG] at hown4
        obtain ⟨G, hG⟩ : ∃ G, G = w.heap.size + 1 := ⟨_, rfl⟩
        obtain ⟨W0, hW0⟩ : ∃ W0, W0 = w4.alloc (Obj.cells #[Value.slice (some { block := w.heap.size + 1, off := 0 }) K K] 32) := ⟨_, rfl⟩
        rw [← hW0]
        rw [← hG] at hown4 hW0 ⊢
        have hsz4 : w.heap.size + 1 < w4.heap.size := by
          rw [← hG]
          exact (hown4.lt G rfl).2
        obtain ⟨B8, hB8⟩ : ∃ B8, B8 = w4.heap.size := ⟨_, rfl⟩
        rw [← hB8]
        have hx8 : W0.heap[B8]? = some (.cells #[.slice (some ⟨G, 0, none⟩) K K] 32 (0, 0)) := by rw [hW0, hB8]; simpa using heap_alloc_new w4 _
        have hx4 : W0.heap[w.heap.size]? = some (.cells #[.slice none 0 0] 32 (0, 0)) := by rw [hW0]; exact alloc_keep (grown_keep hg4 HB4.out (by simp)) _
        have hb0 : Below w.heap.size w W0 := by
          rw [hW0]
          exact (HAL.out.grown hg4 (by simp) (fun k e => by cases e)).alloc (by omega) _
        have ho0 : W0.ownsRow G 104 2 (.slice (some ⟨G, 0, none⟩) K K) K (madeCells (Value.agg #[Value.int IntKind.i64 0, Value.int IntKind.i64 0]).cells (K * 2)).toList := by rw [hW0]; exact hown4.alloc _
        have hlt8 : G < B8 := by omega
        have hltW : B8 < W0.heap.size := (Array.getElem?_eq_some_iff.1 hx8).1
        have HX8 := Lib.hid hx8
        have HX4 := Lib.hid hx4
        have HB0 := Lib.hid hb0
        have HO0 := Lib.hid ho0
        have HGG := Lib.hid hG
        clear hown4 hg4 hW0 hB8 eG hx8 hx4 hb0 ho0 hsz4 k4 f4 HB4 hi1 hy0 hy1 hy2
        have hwG : w.heap.size < G := by rw [hG]; omega
        clear hG
        go_loopw [5, 6, 9, 11, 38] (fun v5 v6 _ _ v38 wr => ∃ (k nx' : Nat) (acc : List Pl) (xs : List Value), k ≤ K ∧ v38 = .int .i64 k ∧ v5 = .int .i64 nx' ∧ v6 = .int .i64 0 ∧ nx' ≤ n ∧ xs.take (k * 2) = flat acc ∧ psR bs K [] nx = psR bs (K - k) acc nx' ∧ wr.ownsRow G 104 2 (.slice (some ⟨G, 0, none⟩) K K) K xs ∧ W0.grownBy wr (some G)) (fun _ _ _ _ v38 _ => K - (intOf v38).toNat)
        case atStart => exact ⟨0, nx, [], _, Nat.zero_le _, rfl, rfl, rfl, hnx, by simp [flat], rfl, HO0.out, World.grownBy.refl _ _⟩
        case round =>
          obtain ⟨k, nx', acc, xs, hk, rfl, rfl, rfl, hnx', htk, hps, hown, hgr⟩ := hrel
          have g8 := grown_keep hgr HX8.out (by simp; omega)
          have g4 := grown_keep hgr HX4.out (by simp; omega)
          have k8 := cell_of_one g8
          have k4 := cell_of_one g4
          have f4 := free_of_one g4
          have HTK := Lib.hid htk
          have HPS := Lib.hid hps
          have HO := Lib.hid hown
          have HGR := Lib.hid hgr
          have HG4 := Lib.hid g4
          have HG8 := Lib.hid g8
          clear htk hps hown hgr g4 g8
          by_cases hlt : k < K
          · have hki : decide ((k : Int) < (K : Int)) = true := by simp; omega
            go_upto_region 40 with (fail)
            go_region_held3 (fun w' => w'.cell? ⟨B8, 0, none⟩ = some (.slice (some ⟨G, 0, none⟩) K K)) (first | go_keep) (fail)
            go_wp2
            obtain ⟨W2, hW2⟩ : ∃ W2, W2 = (wr.alloc (Obj.cells #[Value.pointer (some { block := G, off := k * 2 }), Value.pointer (some { block := G, off := k * 2 + 1 })] 400)).drew := ⟨_, rfl⟩
            rw [← hW2]
            have hgr2 : W0.grownBy W2 (some G) := by rw [hW2]; exact drew_grown (HGR.out.trans (World.grownBy_alloc _ _ _))
            have hptr : ∀ j, j < 2 → W2.cell? ⟨wr.heap.size, j, none⟩ = some (.pointer (some ⟨G, k * 2 + j, none⟩)) := fun j hj => by
              rw [hW2]
              refine two_ptrs wr _ _ 400 j _ ?_
              rcases (by omega : j = 0 ∨ j = 1) with rfl | rfl <;> rfl
            have hown2 : W2.ownsRow G 104 2 (.slice (some ⟨G, 0, none⟩) K K) K xs := by rw [hW2]; exact (HO.out.alloc _).drew
            have hltG : G < wr.heap.size := (HO.out.lt G rfl).2
            have hPW : wr.heap.size < W2.heap.size := by rw [hW2]; simp
            obtain ⟨PP, hPP⟩ : ∃ PP, PP = wr.heap.size := ⟨_, rfl⟩
            rw [← hPP] at hptr hltG hPW ⊢
            have HPTR := Lib.hid hptr
            have HGR2 := Lib.hid hgr2
            have HO2 := Lib.hid hown2
            have HXL := Lib.hid hown2.1
            clear hptr hgr2 hown2 hW2 hPP HO HGR HG4 HG8 k8 k4 f4
            obtain ⟨wo, rfl⟩ : ∃ wo : World, wo = wr := ⟨_, rfl⟩
            go_loopw [5, 6, 11, 53] (fun v5 v6 _ v53 wr => ∃ (j nx2 : Nat) (ys : List Value), v53 = .int .i64 j ∧ v5 = .int .i64 nx2 ∧ v6 = .int .i64 0 ∧ nx2 ≤ n ∧ Stage bs xs (k * 2) nx' j nx2 ys ∧ wr.ownsRow G 104 2 (.slice (some ⟨G, 0, none⟩) K K) K ys ∧ W2.grownBy wr (some G)) (fun _ _ _ v53 _ => 2 - (intOf v53).toNat)
            case atStart => exact ⟨0, nx', xs, rfl, rfl, rfl, hnx', .inl ⟨rfl, rfl, rfl⟩, HO2.out, World.grownBy.refl _ _⟩
            case round =>
              obtain ⟨j, nx2, ys, rfl, rfl, rfl, hnx2, hst, hown3, hgr3⟩ := hrel
              have hj2 := hst.le
              have HST := Lib.hid hst
              have HO3 := Lib.hid hown3
              have HGR3 := Lib.hid hgr3
              clear hst hown3 hgr3
              by_cases hj : j < 2
              · have hjd : decide ((j : Int) < 2) = true := by simp; omega
                have kp0 := HPTR.out j hj
                have kp : wr.cell? ⟨PP, j, none⟩ = some (.pointer (some ⟨G, k * 2 + j, none⟩)) := by
                  rw [← kp0]
                  exact cell_grown HGR3.out hPW (by simp; omega)
                have hbw : Below w.heap.size w wr := HB0.out.grown (HGR2.out.trans HGR3.out) HB0.out.size (fun g e => by cases e; omega)
                have CALL := Lib.hid (getInt_all wr n c nx2 A bs (HI.out.belowLt hbw) hn hnx2)
                have HBW := Lib.hid hbw
                clear kp0 hbw
                rcases hg : getN bs nx2 with er | ⟨a, n3⟩
                · obtain ⟨hr, her⟩ := getR_of_error hg
                  rw [hr] at CALL
                  have HF : Hid (weekR bs k0 = .error er) := Lib.hid (by
                    rw [HR.out, HPS.out]
                    obtain ⟨m, hm⟩ : ∃ m, K - k = m + 1 := ⟨K - k - 1, by omega⟩
                    rw [hm]
                    exact HST.out.fails hj hg)
                  have fz := HO3.out.frozenAt (k * 2 + j)
                  have kc : ∃ v, wr.cell? ⟨G, k * 2 + j, none⟩ = some v := by
                    rw [HO3.out.cellAt (k * 2 + j) (by omega)]
                    exact ⟨_, List.getElem?_eq_getElem (by have := HO3.out.1; omega)⟩
                  obtain ⟨vc, hvc⟩ := kc
                  have g4 := grown_keep (HGR2.out.trans HGR3.out) HX4.out (by simp; omega)
                  have g4' : (wr.setCell ⟨G, k * 2 + j, none⟩ (.int .i64 0)).heap[w.heap.size]? = some (.cells #[.slice none 0 0] 32 (0, 0)) := (heap_setCell_other _ _ _ _ (by show w.heap.size ≠ G; omega)).trans g4
                  have k4 := cell_of_one g4'
                  have f4 := free_of_one g4'
                  have FIN : Hid (∀ W, W = (wr.setCell ⟨G, k * 2 + j, none⟩ (.int .i64 0)).setCell ⟨w.heap.size, 0, none⟩ (.slice none 0 0) → (W.cell? ⟨w.heap.size, 0, none⟩ = some (.slice none 0 0) ∧ Below w.heap.size w W)) := Lib.hid (by
                    rintro W rfl
                    exact ⟨cell_of_one (one_setCell g4'), (HBW.out.setCell (by show w.heap.size ≤ G; omega) _).setCell (Nat.le_refl _) _⟩)
                  clear hr hg g4 g4'
                  go_wp2_with (fail)
                  (with_reducible refine CALL.out.mono ?_)
                  rintro e w1 ⟨rfl, rfl⟩
                  go_wp2_with (fail)
                  have kf := (FIN.out _ rfl).1
                  exact bodyPost_ret (v := .tuple #[.agg #[.slice none 0 0], .int .i64 0, .int .i64 er]) (by simp [results, Tryz.results194, go_sem, kf]) rfl (retWeek_error HF.out (FIN.out _ rfl).2)
                · have hr := getR_of_ok hg
                  rw [hr] at CALL
                  have HN3 := Lib.hid (HST.out.next hj hg)
                  have hn3 : n3 ≤ n := by have := getN_le hg (by have := HI.out.len; omega); have := HI.out.len; omega
                  have fz := HO3.out.frozenAt (k * 2 + j)
                  have kc : ∃ v, wr.cell? ⟨G, k * 2 + j, none⟩ = some v := by
                    rw [HO3.out.cellAt (k * 2 + j) (by omega)]
                    exact ⟨_, List.getElem?_eq_getElem (by have := HO3.out.1; omega)⟩
                  obtain ⟨vc, hvc⟩ := kc
                  obtain ⟨hs1, hs2⟩ := HO3.out.stored (k * 2 + j) (.int .i64 a)
                  have HS1 := Lib.hid hs1
                  have HS2 := Lib.hid (HGR3.out.trans hs2)
                  clear hr hg hs1 hs2
                  go_wp2_with (fail)
                  (with_reducible refine CALL.out.mono ?_)
                  rintro e w1 ⟨rfl, rfl⟩
                  go_wp2_with (fail)
                  go_roundw
                  case rel => exact ⟨j + 1, n3, _, by go_num, rfl, rfl, hn3, HN3.out, HS1.out, HS2.out⟩
                  case measure => simp [intOf]; omega
              · obtain rfl : j = 2 := by omega
                obtain ⟨m, hm⟩ : ∃ m, K - k = m + 1 := ⟨K - k - 1, by omega⟩
                have hdone := HST.out.done (m := m) (acc := acc) (by have := HXL.out; omega) HTK.out
                obtain ⟨p, hp1, hp2⟩ := hdone
                have hps : psR bs K [] nx = psR bs (K - (k + 1)) (acc ++ [p]) nx2 := by
                  rw [HPS.out, hm, hp1]
                  congr 1; omega
                have HP2 := Lib.hid hp2
                have HPS2 := Lib.hid hps
                have HGF := Lib.hid (HGR2.out.trans HGR3.out)
                clear hm hp1 hp2 hps
                go_wp2_with (fail)
                go_roundw
                case rel => exact ⟨k + 1, nx2, acc ++ [p], ys, by omega, by go_num, rfl, rfl, hnx2, HP2.out, HPS2.out, HO3.out, HGF.out⟩
                case measure => simp [intOf]; omega
          · obtain rfl : k = K := by omega
            have hps := HPS.out
            rw [Nat.sub_self] at hps
            have HW : Hid (weekR bs k0 = .ok (acc, nx')) := Lib.hid (by rw [HR.out, hps]; rfl)
            have hxs : xs = flat acc := by
              have := HTK.out
              rwa [List.take_of_length_le (by have := HO.out.1; omega)] at this
            have hfin : ∀ W, W = wr.setCell ⟨w.heap.size, 0, none⟩ (.slice (some ⟨G, 0, none⟩) k k) → W.cell? ⟨w.heap.size, 0, none⟩ = some (.slice (some ⟨G, 0, none⟩) k k) ∧ RetWeek w (weekR bs k0) (.returned (.tuple #[.agg #[.slice (some ⟨G, 0, none⟩) k k], .int .i64 nx', .int .i64 0])) W := by
              rintro W rfl
              refine ⟨cell_of_one (one_setCell HG4.out), ?_⟩
              rw [HW.out]
              refine ⟨_, k, k, rfl, ?_, (HB0.out.grown HGR.out HB0.out.size (fun g e => by cases e; omega)).setCell (Nat.le_refl _) _⟩
              have := ownsRow_setCell_other (a := ⟨w.heap.size, 0, none⟩) HO.out (by simp [Value.ownBlock]; omega) (.slice (some ⟨G, 0, none⟩) k k)
              rw [hxs] at this
              exact own_base this (by omega)
            have FIN := Lib.hid hfin
            clear hps hxs hfin
            go_wp2_with (fail)
            have kf := (FIN.out _ rfl).1
            exact bodyPost_ret (v := .tuple #[.agg #[.slice (some ⟨G, 0, none⟩) k k], .int .i64 nx', .int .i64 0]) (by simp [results, Tryz.results194, go_sem, kf]) rfl (FIN.out _ rfl).2
end Go.Proofs.YtpncejdamjbnlaaGreatDoor
end
section
namespace Go.Proofs.YtpncejdamjbnlaaGreatDoor
open Go.RowKit
theorem bits_u32 (op : BinOp) (a b : Int) : 0 ≤ bits op .u32 a b ∧ bits op .u32 a b < 4294967296 := by
  unfold bits
  simp only [IntKind.wrap_u32']
  omega
theorem bits_u8 (op : BinOp) (a b : Int) : 0 ≤ bits op .u8 a b ∧ bits op .u8 a b < 256 := by
  unfold bits
  simp only [IntKind.wrap_u8']
  omega
def stepC (n : Int) : Int := bits .xor .u32 (n / 2) (bits .and .u32 3988292384 (-(bits .and .u32 n 1) % 4294967296))
def iterC : Nat → Int → Int
  | 0, n => n
  | k + 1, n => stepC (iterC k n)
def tabC (k : Nat) : Int := iterC 8 (k : Int)
theorem stepC_range (n : Int) : 0 ≤ stepC n ∧ stepC n < 4294967296 := bits_u32 _ _ _
theorem iterC_range (k : Nat) (n : Int) (h0 : 0 ≤ n) (h1 : n < 4294967296) : 0 ≤ iterC k n ∧ iterC k n < 4294967296 := by
  cases k with
  | zero => exact ⟨h0, h1⟩
  | succ k => exact stepC_range _
theorem size238 : Tryz.zeroCells238.size = 256 := by kernel_rfl
theorem info238 : (Tryz.prog.info? 238).map (·.size) = some 256 := by kernel_rfl
theorem one_put {w : World} {b i : Nat} {cs : Array Value} {t : TypeId} {u : Value} (h : w.heap[b]? = some (.cells cs t (0, 0))) : (w.setCell ⟨b, i, none⟩ u).heap[b]? = some (.cells (cs.setIfInBounds i u) t (0, 0)) := heap_setCell_same w b i cs t u h
theorem setCell_grown (w : World) (b i : Nat) (u : Value) : w.grownBy (w.setCell ⟨b, i, none⟩ u) (some b) := ⟨rfl, rfl, rfl, by simp, fun k _ hk => heap_setCell_other _ _ _ _ (fun e => hk (by rw [e]))⟩
def TabAt (w : World) (b k : Nat) (cs : Array Value) : Prop := w.heap[b]? = some (.cells cs 238 (0, 0)) ∧ cs.size = 256 ∧ (∀ j, j < k → cs[j]? = some (.int .u32 (tabC j))) ∧ ∀ (j : Nat) (v : Value), cs[j]? = some v → v.oneCell' = true
set_option maxHeartbeats 2000000 in
set_option maxRecDepth 100000 in
theorem table_any (w : World) : Calls Tryz.prog 106 #[] w fun e w' => ∃ cs : Array Value, e = .returned (.agg cs) ∧ cs.size = 256 ∧ (∀ j, j < 256 → cs[j]? = some (.int .u32 (tabC j))) ∧ Below w.heap.size w w' := by
  have hb1 : ((w.alloc (Obj.cells Tryz.zeroCells238 238)).alloc (Obj.cells Tryz.zeroCells238 238)).heap[w.heap.size + 1]? = some (.cells Tryz.zeroCells238 238 (0, 0)) := heap_alloc2_new _ _ _
  have hb0 : ((w.alloc (Obj.cells Tryz.zeroCells238 238)).alloc (Obj.cells Tryz.zeroCells238 238)).heap[w.heap.size]? = some (.cells Tryz.zeroCells238 238 (0, 0)) := heap_alloc2_old _ _ _
  have hone : ∀ (j : Nat) (v : Value), Tryz.zeroCells238[j]? = some v → v.oneCell' = true := by
    have h : Tryz.zeroCells238.all (·.oneCell') = true := by kernel_rfl
    intro j v hv
    exact (Array.all_eq_true_iff_forall_mem.1 h) v (Array.mem_of_getElem? hv)
  have hbel : Below w.heap.size w ((w.alloc (Obj.cells Tryz.zeroCells238 238)).alloc (Obj.cells Tryz.zeroCells238 238)) := ((Below.refl _ _).alloc (Nat.le_refl _) _).alloc (by simp) _
  have HT0 : Hid (TabAt ((w.alloc (Obj.cells Tryz.zeroCells238 238)).alloc (Obj.cells Tryz.zeroCells238 238)) (w.heap.size + 1) 0 Tryz.zeroCells238) := Lib.hid ⟨hb1, size238, fun j h => by omega, hone⟩
  have HB0 := Lib.hid hb0
  have HBEL := Lib.hid hbel
  clear hb1 hb0 hone hbel
  go_enter Tryz.func106, Tryz.ntmps106
  go_wp2_with (fail)
  obtain ⟨W0, hW0⟩ : ∃ W0, W0 = ((w.alloc (Obj.cells Tryz.zeroCells238 238)).alloc (Obj.cells Tryz.zeroCells238 238)) := ⟨_, rfl⟩
  rw [← hW0] at HT0 HB0 HBEL ⊢
  clear hW0
  go_loopw [2, 3, 4, 9] (fun _ _ v4 _ wr => ∃ (k : Nat) (cs : Array Value), k ≤ 256 ∧ v4 = .int .i64 k ∧ TabAt wr (w.heap.size + 1) k cs ∧ W0.grownBy wr (some (w.heap.size + 1))) (fun _ _ v4 _ _ => 256 - (intOf v4).toNat)
  case atStart => exact ⟨0, _, by omega, rfl, HT0.out, World.grownBy.refl _ _⟩
  case round =>
    obtain ⟨k, cs, hk, rfl, hT, hgr⟩ := hrel
    have HT := Lib.hid hT
    have HGR := Lib.hid hgr
    clear hT hgr
    by_cases hlt : k < 256
    · have hd : decide ((k : Int) < 256) = true := by simp; omega
      have hu32 : IntKind.u32.wrap (k : Int) = k := by rw [IntKind.wrap_u32']; omega
      obtain ⟨wo, rfl⟩ : ∃ wo : World, wo = wr := ⟨_, rfl⟩
      go_wp2_with (fail)
      go_loop [3, 9] (fun v3 v9 => ∃ (j : Nat) (N : Int), j ≤ 8 ∧ v9 = .int .i64 j ∧ v3 = .int .u32 N ∧ N = iterC j (k : Int)) (fun _ v9 => 8 - (intOf v9).toNat)
      case atStart => exact ⟨0, _, by omega, rfl, rfl, rfl⟩
      case round =>
        obtain ⟨j, N, hj, rfl, rfl, hN⟩ := hrel
        obtain ⟨hN0, hN1⟩ := iterC_range j (k : Int) (by omega) (by omega)
        rw [← hN] at hN0 hN1
        have HN := Lib.hid hN
        clear hN
        by_cases hjl : j < 8
        · have hjd : decide ((j : Int) < 8) = true := by simp; omega
          go_wp2_with (fail)
          refine ⟨⟨j + 1, stepC N, by omega, by go_num, rfl, by rw [HN.out]; rfl⟩, by simp [intOf]; omega⟩
        · obtain rfl : j = 8 := by omega
          have hjd : decide ((8 : Int) < 8) = false := by decide
          have c1 : wo.cell? ⟨w.heap.size + 1, k, none⟩ = cs[k]? := cell_of_row _ _ _ _ _ _ HT.out.1
          obtain ⟨v, hv⟩ : ∃ v, cs[k]? = some v := ⟨_, Array.getElem?_eq_getElem (by have := HT.out.2.1; omega)⟩
          rw [hv] at c1
          have f1 : wo.frozen? ⟨w.heap.size + 1, k, none⟩ = false := frozen_of_row _ _ _ _ _ HT.out.1
          have HF : Hid (TabAt (wo.setCell ⟨w.heap.size + 1, k, none⟩ (.int .u32 N)) (w.heap.size + 1) (k + 1) (cs.setIfInBounds k (.int .u32 N))) := by
            refine Lib.hid ⟨one_put HT.out.1, by rw [Array.size_setIfInBounds]; exact HT.out.2.1, fun i hi => ?_, fun i x hx => ?_⟩
            · rw [Array.getElem?_setIfInBounds]
              by_cases h : k = i
              · subst h
                rw [if_pos rfl, if_pos (by have := HT.out.2.1; omega), HN.out]; rfl
              · rw [if_neg h]
                exact HT.out.2.2.1 i (by omega)
            · rw [Array.getElem?_setIfInBounds] at hx
              split at hx
              · split at hx
                · cases hx; rfl
                · cases hx
              · exact HT.out.2.2.2 i x hx
          have HG2 := Lib.hid (HGR.out.trans (setCell_grown wo (w.heap.size + 1) k (.int .u32 N)))
          clear hv
          go_wp2_with (fail)
          go_roundw
          case rel => exact ⟨k + 1, _, by omega, by go_num, HF.out, HG2.out⟩
          case measure => simp [intOf]; omega
    · obtain rfl : k = 256 := by omega
      have hd : decide ((256 : Int) < 256) = false := by decide
      have hs := HT.out.2.1
      have g0 := grown_keep HGR.out HB0.out (by simp)
      have h1 : cs.all (·.oneCell') = true := Array.all_eq_true_iff_forall_mem.2 fun v hv => by
        obtain ⟨i, hi, rfl⟩ := Array.mem_iff_getElem.1 hv
        exact HT.out.2.2.2 i _ (Array.getElem?_eq_getElem hi)
      have hi8 : (Tryz.prog.info? 238).map (·.size) = some cs.size := by rw [hs]; exact info238
      have hz := size238
      have hold : Tryz.zeroCells238.size = cs.size := by rw [hz, hs]
      have HBW := Lib.hid (HBEL.out.grown HGR.out HBEL.out.size (fun g e => by cases e; omega))
      have HS := Lib.hid hs
      have HH := Lib.hid h1
      have HI := Lib.hid hi8
      have HOLD := Lib.hid hold
      have G0 := Lib.hid g0
      clear hs g0 h1 hi8 hz hold
      go_wp2_with (first
        | (refine wpList_load_row rfl 238 (.tmp 1) rfl (w.heap.size + 1) (by rfl) 238 cs _ _ HT.out.1 Tryz.underlying238 rfl HI.out ?_)
        | (refine wpList_store_row rfl 238 (.tmp 0) (.tmp 23) rfl w.heap.size cs (by rfl) (by rfl) 238 _ G0.out HI.out HOLD.out HH.out ?_))
      exact bodyPost_ret (v := .agg cs) (results_cell_row (p := 0) (ty := 238) rfl _ _ w.heap.size 238 cs (0, 0) _ (by simp [Act.put]) (setRow_heap _ _ _ _ _ _ G0.out) Tryz.underlying238 rfl HI.out) rfl
        ⟨cs, rfl, HS.out, HT.out.2.2.1, HBW.out.trans ⟨rfl, rfl, rfl, by simp [World.setRow], fun k hk => setRow_other _ _ k cs (by omega)⟩⟩
def sumStep (n : Int) (b : Byte) : Int := bits .xor .u32 (tabC (bits .xor .u8 (n % 256) (b.n : Int)).toNat) (n / 256)
def sumR (bs : List Byte) : Int := bs.foldl sumStep 4294967295
def crcB (bs : List Byte) : Int := bits .xor .u32 IntKind.u32.max (sumR bs)
theorem crcB_range (bs : List Byte) : 0 ≤ crcB bs ∧ crcB bs < 4294967296 := bits_u32 _ _ _
theorem sumR_range : ∀ (bs : List Byte) (n : Int), 0 ≤ n → n < 4294967296 → 0 ≤ bs.foldl sumStep n ∧ bs.foldl sumStep n < 4294967296
  | [], n, h0, h1 => ⟨h0, h1⟩
  | b :: bs, n, _, _ => sumR_range bs _ (bits_u32 _ _ _).1 (bits_u32 _ _ _).2
theorem sum_take {bs : List Byte} {k : Nat} {b : Byte} (h : bs[k]? = some b) : sumR (bs.take (k + 1)) = sumStep (sumR (bs.take k)) b := by
  unfold sumR
  rw [List.take_succ, h, List.foldl_append]; rfl
set_option maxHeartbeats 2000000 in
set_option maxRecDepth 100000 in
theorem sum_any (w : World) (n c : Nat) (A : Option Addr) (bs : List Byte) (hI : Arr w A n c bs) : Calls Tryz.prog 54 #[.slice A n c] w fun e w' => e = .returned (.int .u32 (crcB bs)) ∧ Below w.heap.size w w' := by
  have hcap := hI.cap
  have hmax := hI.max
  unfold maxLen at hmax
  have HI := Lib.hid hI
  have CALL := Lib.hid (table_any w)
  clear hI
  go_enter Tryz.func54, Tryz.ntmps54
  go_wp2_with (fail)
  (with_reducible refine CALL.out.mono ?_)
  rintro e w1 ⟨cs, rfl, hs, hcs, hb1⟩
  have HS := Lib.hid hs
  have HCS := Lib.hid hcs
  have HB1 := Lib.hid hb1
  have hi8 : (Tryz.prog.info? 238).map (·.size) = some cs.size := by rw [hs]; exact info238
  have HI8 := Lib.hid hi8
  have hall : cs.all (·.oneCell') = true := Array.all_eq_true_iff_forall_mem.2 fun v hv => by
    obtain ⟨i, hi, rfl⟩ := Array.mem_iff_getElem.1 hv
    have := hcs i (by omega)
    rw [Array.getElem?_eq_getElem hi] at this
    have h2 : cs[i] = .int .u32 (tabC i) := by simpa using this
    rw [h2]; rfl
  have HALL := Lib.hid hall
  have HOLD : Hid (Tryz.zeroCells238.size = cs.size) := Lib.hid (by rw [size238, hs])
  have HNEW : Hid ((w1.alloc (Obj.cells Tryz.zeroCells238 238)).heap[w1.heap.size]? = some (.cells Tryz.zeroCells238 238 (0, 0))) := Lib.hid (heap_alloc_new _ _)
  clear hs hcs hb1 hi8 hall CALL
  go_wp2_with (first
    | (refine wpList_store_row rfl 238 (.tmp 3) (.tmp 7) rfl w1.heap.size cs (by rfl) (by rfl) 238 _ HNEW.out HI8.out HOLD.out HALL.out ?_))
  obtain ⟨W, hW⟩ : ∃ W, W = (w1.alloc (Obj.cells Tryz.zeroCells238 238)).setRow w1.heap.size cs := ⟨_, rfl⟩
  rw [← hW]
  have HT : Hid (W.heap[w1.heap.size]? = some (.cells cs 238 (0, 0))) := Lib.hid (by rw [hW]; exact setRow_heap _ _ _ _ _ _ HNEW.out)
  have HBW : Hid (Below w.heap.size w W) := Lib.hid (by
    rw [hW]
    exact (HB1.out.alloc HB1.out.size _).trans ⟨rfl, rfl, rfl, by simp [World.setRow], fun k hk => setRow_other _ _ k cs (by have := HB1.out.size; omega)⟩)
  clear hW
  go_wp2_with (fail)
  go_loop [4, 6, 10] (fun v4 _ v10 => ∃ (k : Nat) (N : Int), k ≤ n ∧ v10 = .int .i64 k ∧ v4 = .int .u32 N ∧ N = sumR (bs.take k)) (fun _ _ v10 => n - (intOf v10).toNat)
  case atStart => exact ⟨0, _, Nat.zero_le _, rfl, rfl, by simp [sumR]⟩
  case round =>
    obtain ⟨k, N, hk, rfl, rfl, hN⟩ := hrel
    obtain ⟨hN0, hN1⟩ := sumR_range (bs.take k) 4294967295 (by omega) (by omega)
    have e0 : (bs.take k).foldl sumStep 4294967295 = N := hN.symm
    rw [e0] at hN0 hN1
    have HN := Lib.hid hN
    clear hN e0
    by_cases hlt : k < n
    · obtain ⟨b, hb⟩ : ∃ b, bs[k]? = some b := ⟨_, List.getElem?_eq_getElem (by have := HI.out.len; omega)⟩
      obtain ⟨ad, rfl, hadS, hcell⟩ := (HI.out.belowLt HBW.out).byte hb
      have hx := bits_u8 .xor (N % 256) (b.n : Int)
      obtain ⟨X, hX⟩ : ∃ X : Nat, bits .xor .u8 (N % 256) (b.n : Int) = (X : Int) := ⟨(bits .xor .u8 (N % 256) (b.n : Int)).toNat, by omega⟩
      rw [hX] at hx
      have hXl : X < 256 := by omega
      have kt : W.cell? ⟨w1.heap.size, X, none⟩ = some (.int .u32 (tabC X)) := by
        rw [cell_of_row _ _ _ _ _ _ HT.out]
        exact HCS.out X hXl
      have HSN := Lib.hid (sum_take hb)
      have hXi : decide ((X : Int) < 256) = true := by simp; omega
      have e1 : sumStep N b = bits .xor .u32 (tabC X) (N / 256) := by unfold sumStep; rw [hX]; rfl
      have HE1 := Lib.hid e1
      obtain ⟨x, hxx⟩ : ∃ x, b.n = x := ⟨_, rfl⟩
      rw [hxx] at hcell hX
      have hX' : bits BinOp.xor IntKind.u8 (N % 256) (x : Int) = (X : Int) := hX
      clear hb hadS e1 hxx hX hx
      generalize tabC X = T at *
      go_wp2_with (fail)
      refine ⟨⟨k + 1, _, by omega, by go_num, rfl, ?_⟩, by simp [intOf]; omega⟩
      rw [HSN.out, ← HN.out, HE1.out]
    · obtain rfl : n = k := by omega
      have hf := HN.out
      rw [List.take_of_length_le (by have := HI.out.len; omega)] at hf
      have HF : Hid (crcB bs = bits .xor .u32 IntKind.u32.max N) := Lib.hid (by unfold crcB; rw [hf])
      clear hf
      go_wp2_with (fail)
      go_ret
      exact ⟨by rw [HF.out]; rfl, HBW.out⟩
end Go.Proofs.YtpncejdamjbnlaaGreatDoor
end
section
namespace Go.Proofs.YtpncejdamjbnlaaGreatDoor
open Go.RowKit
def be4 (N : Nat) : List Byte := [⟨N / 16777216 % 256, by omega⟩, ⟨N / 65536 % 256, by omega⟩, ⟨N / 256 % 256, by omega⟩, ⟨N % 256, by omega⟩]
theorem be4_cells (N : Nat) (h : N < 4294967296) : flat (be4 N) = [.int .u8 ((N : Int) / 16777216), .int .u8 ((N : Int) / 65536 % 256), .int .u8 ((N : Int) / 256 % 256), .int .u8 ((N : Int) % 256)] := by
  show [Value.int .u8 ((N / 16777216 % 256 : Nat) : Int), .int .u8 ((N / 65536 % 256 : Nat) : Int), .int .u8 ((N / 256 % 256 : Nat) : Int), .int .u8 ((N % 256 : Nat) : Int)] = _
  have e1 : ((N / 16777216 % 256 : Nat) : Int) = (N : Int) / 16777216 := by omega
  have e2 : ((N / 65536 % 256 : Nat) : Int) = (N : Int) / 65536 % 256 := by omega
  have e3 : ((N / 256 % 256 : Nat) : Int) = (N : Int) / 256 % 256 := by omega
  have e4 : ((N % 256 : Nat) : Int) = (N : Int) % 256 := by omega
  rw [e1, e2, e3, e4]
theorem nat8_be4 (N : Nat) : nat8 (be4 N) = Seal.be N := rfl
theorem lit_reads (w : World) (cs : List Value) (t : TypeId) (size n : Nat) (hl : cs.length = n * size) : Reads (w.alloc (.cells cs.toArray t)) (fun k => k < w.heap.size + 1) size (some ⟨w.heap.size, 0, none⟩) n cs :=
  ⟨hl, fun _ => ⟨_, rfl, by simp, fun j u hu => by
    have e : (⟨w.heap.size, 0, none⟩ : Addr).add j = ⟨w.heap.size, j, none⟩ := by unfold Addr.add; split <;> simp_all
    rw [e, cell_of_row _ _ _ _ _ _ (heap_alloc_new w _)]
    simpa using hu⟩⟩
set_option maxRecDepth 100000 in
set_option maxHeartbeats 1000000 in
theorem put_any (w : World) (base n c N : Nat) (A : Option Addr) (bs : List Byte) (hN : N < 4294967296) (hown : w.ownsRow base 5 1 (.slice A n c) n (flat bs)) (hbase : base ≤ w.heap.size) (hn : n ≤ 1048576) :
    Calls Tryz.prog 53 #[.slice A n c, .int .u32 N] w fun e w' => ∃ A' c', e = .returned (.slice A' (n + 4) c') ∧ w'.ownsRow base 5 1 (.slice A' (n + 4) c') (n + 4) (flat (bs ++ be4 N)) ∧ w.grownBy w' (Value.slice A n c).ownBlock := by
  obtain ⟨i0, hi0, hz0, hz1, hz2⟩ := info_parts' byte_info
  have HO := Lib.hid hown
  have HE := Lib.hid (be4_cells N hN)
  clear hown
  go_enter Tryz.func53, Tryz.ntmps53
  go_wp2_with (first
    | (at_builtin
       go_must (refine wpList_append_any _ rfl (.tmp 5) (.tmp 17) _ rfl base 5 i0 _ 1 1 Tryz.underlying24 hi0 hz0 hz1 hz2 rfl (by omega) (.slice A n c) n (flat bs) (by rfl) (HO.out.alloc _) _ (some ⟨w.heap.size, 0, none⟩) 4 4 [.int .u8 ((N : Int) / 16777216), .int .u8 ((N : Int) / 65536 % 256), .int .u8 ((N : Int) / 256 % 256), .int .u8 ((N : Int) % 256)] (by rfl) (lit_reads w _ 5 1 4 rfl) (fun u hu => by simp at hu; rcases hu with rfl | rfl | rfl | rfl <;> rfl) (by simp only [maxLen]; omega) (by omega) (by simp; omega) ?_)
       intro v9 w9 ho9 hg9 hb9
       obtain ⟨A9, c9, rfl⟩ := own_form ho9))
  have HG := Lib.hid (grown_alloc_then hg9)
  have HO9 := Lib.hid ho9
  clear hg9 ho9 hb9
  go_ret
  exact ⟨A9, c9, rfl, by rw [flat_append, HE.out]; exact HO9.out, HG.out⟩
def frameB (bs : List Byte) : List Byte := be4 bs.length ++ be4 (crcB bs).toNat ++ bs
def RetBytes0 (w : World) (xs : List Byte) (e : Ending) (w' : World) : Prop := ∃ A n c, e = .returned (.tuple #[.slice A n c, .int .i64 0]) ∧ w'.ownsRow w.heap.size 5 1 (.slice A n c) n (flat xs) ∧ Below w.heap.size w w'
set_option maxRecDepth 100000 in
set_option maxHeartbeats 1000000 in
theorem frame_any (w : World) (n c : Nat) (A : Option Addr) (bs : List Byte) (hI : Arr w A n c bs) (hn : n ≤ 65536) : Calls Tryz.prog 20 #[.slice A n c] w (RetBytes0 w (frameB bs)) := by
  obtain ⟨i0, hi0, hz0, hz1, hz2⟩ := info_parts' byte_info
  have HI := Lib.hid hI
  have hbl := hI.len
  obtain ⟨C, hC⟩ : ∃ C : Nat, crcB bs = (C : Int) := ⟨(crcB bs).toNat, by have := (crcB_range bs).1; omega⟩
  have hC2 : C < 4294967296 := by have := (crcB_range bs).2; omega
  have HF : Hid (frameB bs = [] ++ be4 n ++ be4 C ++ bs) := Lib.hid (by unfold frameB; rw [hC, hbl]; simp)
  have HC := Lib.hid hC
  have hd : decide ((65536 : Int) < (n : Int)) = false := by simp; omega
  clear hI hC hbl
  go_enter Tryz.func20, Tryz.ntmps20
  go_wp2_with (first
    | (at_make
       (refine wpList_make_own _ rfl _ _ _ rfl w.heap.size 5 i0 _ 1 Tryz.underlying24 hi0 hz0 hz1 .i64 .i64 (8 + (n : Int)) (n + 8) (by rfl) (by rfl) (by omega) (by rw [hz2]; omega) (by simp only [maxLen]; omega) (Nat.le_refl _) ?_)
       intro w4 hown4 hg4
       have C1 := Lib.hid (put_any w4 w.heap.size 0 (n + 8) n (some ⟨w.heap.size, 0, none⟩) [] (by omega) (by simpa [flat] using hown4) hg4.size (by omega))
       have HG4 := Lib.hid hg4
       clear hown4 hg4)
    | fail)
  (with_reducible refine C1.out.mono ?_)
  rintro e w5 ⟨A5, c5, rfl, ho5, hg5⟩
  have hb5 : Below w.heap.size w w5 := ((Below.refl _ _).grown HG4.out (Nat.le_refl _) (fun k e => by cases e)).grown hg5 HG4.out.size (fun k e => by simp [Value.ownBlock] at e; omega)
  have HO5 := Lib.hid ho5
  have HB5 := Lib.hid hb5
  have C2 := Lib.hid (sum_any w5 n c A bs (HI.out.belowLt hb5))
  rw [HC.out] at C2
  clear hb5 ho5 hg5 C1
  go_wp2_with (fail)
  (with_reducible refine C2.out.mono ?_)
  rintro e w6 ⟨rfl, hb6⟩
  have hb6' := below_then HB5.out hb6
  have ho6 := own_below HO5.out hb6 (Nat.le_refl _)
  have C3 := Lib.hid (put_any w6 w.heap.size (0 + 4) c5 C A5 ([] ++ be4 n) hC2 ho6 hb6'.size (by omega))
  have HB6 := Lib.hid hb6'
  have HO6 := Lib.hid ho6
  clear hb6 hb6' ho6 C2
  go_wp2_with (fail)
  (with_reducible refine C3.out.mono ?_)
  rintro e w7 ⟨A7, c7, rfl, ho7, hg7⟩
  have hb7 := HB6.out.grown hg7 HB6.out.size (fun k e => (HO6.out.lt k e).1)
  have hrd := (HI.out.belowLt hb7).reads
  rw [byte_size] at hrd
  have HB7 := Lib.hid hb7
  have hsz7 := hb7.size
  clear hg7 hb7 C3
  go_wp2_with (first
    | (at_builtin
       go_must (refine wpList_append_any _ rfl (.tmp 19) (.tmp 20) _ rfl w.heap.size 5 i0 _ 1 1 Tryz.underlying24 hi0 hz0 hz1 hz2 rfl (by omega) _ _ _ (by rfl) ho7 _ A n c _ (by rfl) hrd (flat_oneCell _) (by simp only [maxLen]; omega) (by omega) hsz7 ?_)
       intro v9 w9 ho9 hg9 hb9
       obtain ⟨A9, c9, rfl⟩ := own_form ho9))
  have HB9 := Lib.hid (HB7.out.grown hg9 hsz7 (fun k e => (ho7.lt k e).1))
  have HO9 := Lib.hid ho9
  clear ho9 hg9 hb9 ho7
  go_ret2
  exact ⟨A9, _, c9, rfl, by rw [HF.out, flat_append]; exact HO9.out, HB9.out⟩
end Go.Proofs.YtpncejdamjbnlaaGreatDoor
end
section
namespace Go.Proofs.YtpncejdamjbnlaaGreatDoor
open Go.RowKit
theorem or256 (n x : Nat) (hn : n < 16777216) (hx : x < 256) : bits .or .u32 ((n * 256 : Nat) : Int) (x : Int) = ((n * 256 + x : Nat) : Int) := by
  rw [u32_or_nat _ _ (by omega) (by omega)]
  have := Nat.two_pow_add_eq_or_of_lt (i := 8) (b := x) (by simpa using hx) n
  have e : 2 ^ 8 * n = n * 256 := by rw [Nat.mul_comm]
  rw [e] at this
  rw [this]
theorem get4_lt (l : List Nat) (h : ∀ b ∈ l, b < 256) : ∀ n, l.foldl (fun n x => n * 256 + x) n < (n + 1) * 256 ^ l.length := by
  induction l with
  | nil => intro n; simp
  | cons a l ih =>
    intro n
    have ha := h a (by simp)
    have := ih (fun b hb => h b (by simp [hb])) (n * 256 + a)
    simp only [List.foldl_cons, List.length_cons]
    refine Nat.lt_of_lt_of_le this ?_
    rw [Nat.pow_succ, ← Nat.mul_assoc, Nat.mul_right_comm]
    exact Nat.mul_le_mul_right _ (by omega)
theorem nat8_lt (bs : List Byte) : ∀ b ∈ nat8 bs, b < 256 := fun b hb => by
  obtain ⟨x, _, rfl⟩ := List.mem_map.1 hb
  exact x.lt
theorem nat8_take (bs : List Byte) (k : Nat) : nat8 (bs.take k) = (nat8 bs).take k := by simp [nat8, List.map_take]
theorem nat8_drop' (bs : List Byte) (k : Nat) : nat8 (bs.drop k) = (nat8 bs).drop k := by simp [nat8, List.map_drop]
theorem nat8_len (bs : List Byte) : (nat8 bs).length = bs.length := by simp [nat8]
theorem get4_range (bs : List Byte) : Seal.get4 (nat8 bs) < 4294967296 := by
  have h := get4_lt ((nat8 bs).take 4) (fun b hb => nat8_lt bs b (List.mem_of_mem_take hb)) 0
  have h2 : 256 ^ ((nat8 bs).take 4).length ≤ 256 ^ 4 := Nat.pow_le_pow_right (by decide) (by rw [List.length_take]; omega)
  unfold Seal.get4
  have h3 : (256 : Nat) ^ 4 = 4294967296 := by decide
  omega
set_option maxHeartbeats 1000000 in
set_option maxRecDepth 100000 in
theorem get_any (w : World) (n c : Nat) (ad : Addr) (bs : List Byte) (hI : Arr w (some ad) n c bs) (h4 : 4 ≤ n) :
    Calls Tryz.prog 192 #[.slice (some ad) n c] w fun e w' => e = .returned (.int .u32 (Seal.get4 (nat8 bs) : Nat)) ∧ w = w' := by
  have hcap := hI.cap
  have hmax := hI.max
  unfold maxLen at hmax
  have HI := Lib.hid hI
  clear hI
  go_enter Tryz.func192, Tryz.ntmps192
  go_wp2
  go_loopw [2, 8] (fun s i wr => ∃ k N : Nat, k ≤ 4 ∧ i = .int .i64 k ∧ s = .int .u32 (N : Int) ∧ N = ((nat8 bs).take k).foldl (fun n x => n * 256 + x) 0 ∧ wr = w) (fun _ i _ => 4 - (intOf i).toNat)
  case atStart => exact ⟨0, 0, by omega, rfl, rfl, by simp, rfl⟩
  case round =>
    obtain ⟨k, N, hk, rfl, rfl, hN, rfl⟩ := hrel
    have HN := Lib.hid hN
    clear hN
    by_cases hlt : k < 4
    · obtain ⟨b, hb⟩ : ∃ b, bs[k]? = some b := ⟨_, List.getElem?_eq_getElem (by have := HI.out.len; omega)⟩
      obtain ⟨ad', e, hadS, hcell⟩ := HI.out.byte hb
      cases e
      have hx2 := b.lt
      obtain ⟨x, hx⟩ : ∃ x, b.n = x := ⟨_, rfl⟩
      rw [hx] at hcell hx2
      have hbx : (nat8 bs)[k]? = some x := by rw [← hx]; simp [nat8, hb]
      have HX := Lib.hid hbx
      clear hb hadS hx hbx
      go_wp2
      have hN := HN.out
      have hN2 : N < 16777216 := by
        have := get4_lt ((nat8 bs).take k) (fun b hb => nat8_lt bs b (List.mem_of_mem_take hb)) 0
        rw [← hN, List.length_take, Nat.min_eq_left (by rw [nat8_len]; have := HI.out.len; omega)] at this
        have h2 : 256 ^ k ≤ 256 ^ 3 := Nat.pow_le_pow_right (by decide) (by omega)
        have h3 : (256 : Nat) ^ 3 = 16777216 := by decide
        omega
      refine ⟨⟨k + 1, N * 256 + x, by omega, by simp, ?_, ?_, trivial⟩, ?_⟩
      · have e1 : (N : Int) * 256 % 4294967296 = ((N * 256 : Nat) : Int) := by omega
        rw [e1, or256 N x hN2 hx2]
      · rw [List.take_succ, HX.out, List.foldl_append, ← hN]; rfl
      · simp only [intOf]; omega
    · obtain rfl : k = 4 := by omega
      have hN := HN.out
      have HF : Hid (Seal.get4 (nat8 bs) = N) := Lib.hid hN.symm
      clear hN
      go_wp2
      go_ret
      exact ⟨by rw [HF.out]; rfl, rfl⟩
end Go.Proofs.YtpncejdamjbnlaaGreatDoor
end
section
namespace Go.Proofs.YtpncejdamjbnlaaGreatDoor
open Go.RowKit
def toB (l : List Nat) : List Byte := l.map fun x => ⟨x % 256, Nat.mod_lt _ (by decide)⟩
theorem toB_nat8 (bs : List Byte) : toB (nat8 bs) = bs := by
  unfold toB nat8
  rw [List.map_map]
  have : ((fun x : Nat => (⟨x % 256, Nat.mod_lt _ (by decide)⟩ : Byte)) ∘ Byte.n) = id := by
    funext b
    exact byte_ext (Nat.mod_eq_of_lt b.lt)
  rw [this, List.map_id]
def crcN (l : List Nat) : Nat := (crcB (toB l)).toNat
theorem crcN_lt (l : List Nat) : crcN l < 4294967296 := by have := (crcB_range (toB l)); unfold crcN; omega
theorem crcN_nat8 (bs : List Byte) : crcB bs = (crcN (nat8 bs) : Int) := by unfold crcN; rw [toB_nat8]; have := (crcB_range bs).1; omega
theorem frameB_nat8 (bs : List Byte) : nat8 (frameB bs) = Seal.frame crcN (nat8 bs) := by
  unfold frameB Seal.frame
  have e : (crcB bs).toNat = crcN (nat8 bs) := by rw [crcN_nat8]; simp
  rw [e]
  simp [nat8, be4, Seal.be]
def firstB (bs : List Byte) : Option (List Byte × Nat) :=
  if bs.length < 8 then none
  else if 65536 < Seal.get4 (nat8 bs) then none
  else if bs.length - 8 < Seal.get4 (nat8 bs) then none
  else if crcB ((bs.drop 8).take (Seal.get4 (nat8 bs))) = (Seal.get4 (nat8 (bs.drop 4)) : Nat) then some ((bs.drop 8).take (Seal.get4 (nat8 bs)), 8 + Seal.get4 (nat8 bs)) else none
theorem firstB_nat8 (bs : List Byte) : Seal.first crcN (nat8 bs) = (firstB bs).map fun p => (nat8 p.1, p.2) := by
  unfold Seal.first firstB
  rw [nat8_len]
  have e1 : ((nat8 bs).drop 8).take (Seal.get4 (nat8 bs)) = nat8 ((bs.drop 8).take (Seal.get4 (nat8 bs))) := by rw [nat8_take, nat8_drop']
  rw [e1, ← nat8_drop']
  split
  · rfl
  · split
    · rfl
    · split
      · rfl
      · rw [crcN_nat8]
        by_cases h : crcN (nat8 ((bs.drop 8).take (Seal.get4 (nat8 bs)))) = Seal.get4 (nat8 (bs.drop 4))
        · rw [if_pos h, if_pos (by rw [h])]; rfl
        · rw [if_neg h, if_neg (by omega)]; rfl
def RetOpen (w : World) (at_ : Nat) (r : Option (List Byte × Nat)) (e : Ending) (w' : World) : Prop :=
  match r with
  | none => ∃ v nx er, e = .returned (.tuple #[v, .int .i64 nx, .int .i64 er]) ∧ (er == 0) = false ∧ Below w.heap.size w w'
  | some (b, k) => ∃ A n c, e = .returned (.tuple #[.slice A n c, .int .i64 ((at_ + k : Nat) : Int), .int .i64 0]) ∧ w'.ownsRow w.heap.size 5 1 (.slice A n c) n (flat b) ∧ Below w.heap.size w w'
theorem retOpen_none {w w' : World} {at_ : Nat} {r : Option (List Byte × Nat)} {v : Value} {nx er : Int} (h : r = none) (he : (er == 0) = false) (hb : Below w.heap.size w w') : RetOpen w at_ r (.returned (.tuple #[v, .int .i64 nx, .int .i64 er])) w' := by
  subst h; exact ⟨v, nx, er, rfl, he, hb⟩
theorem ret_open {v : Value} {a b : Int} {e : Int} (h : a = b) : Ending.returned (.tuple #[v, .int .i64 a, .int .i64 e]) = .returned (.tuple #[v, .int .i64 b, .int .i64 e]) := by rw [h]
theorem below_drewN {B : Nat} {w w' : World} (h : Below B w w') (n : Nat) : Below B w (w'.drewN n) := ⟨h.os, h.tape, h.output, h.size, h.block⟩
theorem get_quiet {w : World} {n c : Nat} {ad : Addr} {bs : List Byte} {N : Nat} (hI : Arr w (some ad) n c bs) (h4 : 4 ≤ n) (hN : Seal.get4 (nat8 bs) = N) (m : Nat) :
    Calls Tryz.prog 192 #[.slice (some ad) n c] (w.drewN m) fun e w'' => e = .returned (.int .u32 N) ∧ ∃ m', w'' = w.drewN m' :=
  (get_any (w.drewN m) n c ad bs (hI.belowLt (below_drewN (Below.refl _ _) m)) h4).mono fun _ _ ⟨he, hm⟩ => ⟨by rw [he, hN], m, hm.symm⟩
set_option maxHeartbeats 2000000 in
set_option maxRecDepth 100000 in
theorem open_any (w : World) (n c k0 : Nat) (ad : Addr) (bs : List Byte) (hI : Arr w (some ad) n c bs) (hn : n ≤ 1048576) (hk0 : k0 < n) :
    Calls Tryz.prog 109 #[.slice (some ad) n c, .int .i64 k0] w (RetOpen w k0 (firstB (bs.drop k0))) := by
  have hcap := hI.cap
  have hmax := hI.max
  unfold maxLen at hmax
  have HI := Lib.hid hI
  have hlen : (bs.drop k0).length = n - k0 := by rw [List.length_drop, ← hI.len]
  have hrest : Arr w (some (ad.add k0)) (n - k0) (c - k0) (bs.drop k0) := by
    have := hI.piece rfl (i := k0) (j := n) (c' := c - k0) (by omega) (Nat.le_refl _) (by omega) (by simp only [maxLen]; omega)
    rw [byte_size, Nat.mul_one] at this
    rwa [List.take_of_length_le (by rw [hlen]; omega)] at this
  have g1 : decide ((k0 : Int) < 0) = false := by simp
  have g2 : decide (n < k0) = false := by simp; omega
  obtain ⟨rs, hrs⟩ : ∃ rs, rs = bs.drop k0 := ⟨_, rfl⟩
  rw [← hrs] at hlen hrest ⊢
  clear hrs
  have HR := Lib.hid hrest
  have HLEN := Lib.hid hlen
  clear hI hrest
  by_cases h8 : n - k0 < 8
  · have d8 : decide (((n - k0 : Nat) : Int) < 8) = true := by simp; omega
    have HF : Hid (firstB rs = none) := Lib.hid (by unfold firstB; rw [if_pos (by rw [hlen]; exact h8)])
    clear hlen
    go_enter Tryz.func109, Tryz.ntmps109
    go_wp2_with (fail)
    go_ret3
    exact retOpen_none HF.out (by decide) (Below.refl _ _)
  · have d8 : decide (((n - k0 : Nat) : Int) < 8) = false := by simp; omega
    obtain ⟨N, hN⟩ : ∃ N, Seal.get4 (nat8 rs) = N := ⟨_, rfl⟩
    obtain ⟨S, hS⟩ : ∃ S, Seal.get4 (nat8 (rs.drop 4)) = S := ⟨_, rfl⟩
    have hN32 : N < 4294967296 := by rw [← hN]; exact get4_range _
    have hS32 : S < 4294967296 := by rw [← hS]; exact get4_range _
    have HN := Lib.hid hN
    have HS := Lib.hid hS
    have hr4 := HR.out.piece rfl (i := 4) (j := n - k0) (c' := c - k0 - 4) (by omega) (Nat.le_refl _) (by omega) (by simp only [maxLen]; omega)
    rw [byte_size, Nat.mul_one, List.take_of_length_le (by rw [List.length_drop, hlen]; omega)] at hr4
    have HR4 := Lib.hid hr4
    have HF : Hid (firstB rs = if 65536 < N then none else if n - k0 - 8 < N then none else if crcB ((rs.drop 8).take N) = (S : Nat) then some ((rs.drop 8).take N, 8 + N) else none) := Lib.hid (by
      unfold firstB
      rw [if_neg (by rw [hlen]; exact h8), hN, hS, hlen])
    clear hr4 hN hS hlen
    go_enter Tryz.func109, Tryz.ntmps109
    have q1 : (4 : Int) ≤ ((n - k0 : Nat) : Int) := by omega
    have q2 : 4 ≤ n - k0 := by omega
    have q3 : n - k0 ≤ c - k0 := by omega
    have q4 : ¬ (c - k0 = 4) := by omega
    have q5 : 4 < c - k0 := by omega
    have D1 : Hid (Calls Tryz.prog 192 #[.slice (some (ad.add k0)) (n - k0) (c - k0)] w.drew fun e w'' => e = .returned (.int .u32 N) ∧ w.drew = w'') :=
      Lib.hid ((get_any w.drew _ _ _ rs (HR.out.belowLt ((Below.refl _ _).drew)) (by omega)).mono fun _ _ h => ⟨by rw [h.1, HN.out], h.2⟩)
    have D2 : Hid (Calls Tryz.prog 192 #[.slice (some ⟨(ad.add k0).block, (ad.add k0).off + 4, none⟩) (n - k0 - 4) (c - k0 - 4)] w.drew fun e w'' => e = .returned (.int .u32 S) ∧ w.drew = w'') :=
      Lib.hid ((get_any w.drew _ _ _ (rs.drop 4) (HR4.out.belowLt ((Below.refl _ _).drew)) (by omega)).mono fun _ _ h => ⟨by rw [h.1, HS.out], h.2⟩)
    go_upto_region 24 with (fail)
    go_region_held3 (fun _ => True) (exact trivial)
      (first
        | (go_at_call 192
           (with_reducible refine D1.out.mono ?_)
           rintro e w3 ⟨rfl, rfl⟩)
        | (go_at_call 192
           (with_reducible refine D2.out.mono ?_)
           rintro e w3 ⟨rfl, rfl⟩))
    by_cases hN6 : 65536 < N
    · have e6 : decide ((65536 : Int) < (N : Int)) = true := by simp; omega
      have HFF : Hid (firstB rs = none) := Lib.hid (by rw [HF.out, if_pos hN6])
      go_wp2
      go_ret3
      exact retOpen_none HFF.out (by decide) ((Below.refl _ _).drew)
    · have e6 : decide ((65536 : Int) < (N : Int)) = false := by simp; omega
      by_cases hNl : n - k0 - 8 < N
      · have e7 : decide (((n - k0 : Nat) : Int) - 8 < (N : Int)) = true := by simp; omega
        have HFF : Hid (firstB rs = none) := Lib.hid (by rw [HF.out, if_neg hN6, if_pos hNl])
        go_wp2
        go_ret3
        exact retOpen_none HFF.out (by decide) ((Below.refl _ _).drew)
      · have e7 : decide (((n - k0 : Nat) : Int) - 8 < (N : Int)) = false := by simp; omega
        obtain ⟨body, hbody⟩ : ∃ body, (rs.drop 8).take N = body := ⟨_, rfl⟩
        have HBODY := Lib.hid hbody
        clear hbody
        by_cases hc8 : c - k0 = 8
        · have hN0 : N = 0 := by omega
          have CL : Hid (Calls Tryz.prog 22 #[.slice (some (ad.add k0)) N 0] w.drew (RetArr 5 w.drew body)) := Lib.hid (by
            have hb : body = [] := by rw [← HBODY.out, hN0]; simp
            rw [hb, hN0]
            exact clone_bytes w.drew 0 0 _ [] ⟨rfl, Nat.le_refl _, by simp [maxLen], ⟨by simp [flat], fun h => absurd h (by omega)⟩, fun e => by cases e⟩ (by omega))
          clear hN0
          go_wp2_with (fail)
          (with_reducible refine CL.out.mono ?_)
          rintro e w1 ⟨A1, n1, c1, rfl, ho1, hb1⟩
          have CS := Lib.hid (sum_any w1 n1 c1 A1 body (Arr.of_own ho1))
          have HO1 := Lib.hid (own_base ho1 (show w.heap.size ≤ _ from Nat.le_refl _))
          have HB1 : Hid (Below w.heap.size w w1) := Lib.hid (((Below.refl _ _).drew).trans hb1)
          clear ho1 hb1 CL
          by_cases hcrc : crcB body = (S : Int)
          · rw [hcrc] at CS
            have HFF : Hid (firstB rs = some (body, 8 + N)) := Lib.hid (by rw [HF.out, if_neg hN6, if_neg hNl, HBODY.out, if_pos hcrc])
            have ene : ((S : Int) != (S : Int)) = false := by simp
            clear hcrc
            go_wp2_with (fail)
            (with_reducible refine CS.out.mono ?_)
            rintro e w2 ⟨rfl, hb2⟩
            have HO2 := Lib.hid (own_below HO1.out hb2 (Nat.le_refl _))
            have HB2 := Lib.hid (below_then HB1.out hb2)
            clear hb2
            go_wp2_with (fail)
            go_ret3
            rw [HFF.out]
            refine ⟨A1, n1, c1, ?_, HO2.out, HB2.out⟩
            exact ret_open (by omega)
          · obtain ⟨X, hX⟩ : ∃ X, X = crcB body := ⟨_, rfl⟩
            rw [← hX] at CS hcrc
            have HFF : Hid (firstB rs = none) := Lib.hid (by rw [HF.out, if_neg hN6, if_neg hNl, HBODY.out, if_neg (by rw [← hX]; exact hcrc)])
            have ene : (X != (S : Int)) = true := by simpa using hcrc
            have ene2 : (X == (S : Int)) = false := by simpa using hcrc
            clear hcrc hX
            go_wp2_with (fail)
            (with_reducible refine CS.out.mono ?_)
            rintro e w2 ⟨rfl, hb2⟩
            have HB2 := Lib.hid (below_then HB1.out hb2)
            clear hb2
            go_wp2_with (fail)
            go_ret3
            exact retOpen_none HFF.out (by decide) HB2.out
        · have CL : Hid (Calls Tryz.prog 22 #[.slice (some ⟨(ad.add k0).block, (ad.add k0).off + 8, none⟩) N (c - k0 - 8)] w.drew (RetArr 5 w.drew body)) := Lib.hid (by
            have h8 := HR.out.piece rfl (i := 8) (j := 8 + N) (c' := c - k0 - 8) (by omega) (by omega) (by omega) (by simp only [maxLen]; omega)
            have e8 : 8 + N - 8 = N := by omega
            rw [byte_size, Nat.mul_one, e8, HBODY.out] at h8
            exact clone_bytes w.drew N (c - k0 - 8) _ body (h8.belowLt ((Below.refl _ _).drew)) (by omega))
          go_wp2_with (fail)
          (with_reducible refine CL.out.mono ?_)
          rintro e w1 ⟨A1, n1, c1, rfl, ho1, hb1⟩
          have CS := Lib.hid (sum_any w1 n1 c1 A1 body (Arr.of_own ho1))
          have HO1 := Lib.hid (own_base ho1 (show w.heap.size ≤ _ from Nat.le_refl _))
          have HB1 : Hid (Below w.heap.size w w1) := Lib.hid (((Below.refl _ _).drew).trans hb1)
          clear ho1 hb1 CL
          by_cases hcrc : crcB body = (S : Int)
          · rw [hcrc] at CS
            have HFF : Hid (firstB rs = some (body, 8 + N)) := Lib.hid (by rw [HF.out, if_neg hN6, if_neg hNl, HBODY.out, if_pos hcrc])
            have ene : ((S : Int) != (S : Int)) = false := by simp
            clear hcrc
            go_wp2_with (fail)
            (with_reducible refine CS.out.mono ?_)
            rintro e w2 ⟨rfl, hb2⟩
            have HO2 := Lib.hid (own_below HO1.out hb2 (Nat.le_refl _))
            have HB2 := Lib.hid (below_then HB1.out hb2)
            clear hb2
            go_wp2_with (fail)
            go_ret3
            rw [HFF.out]
            refine ⟨A1, n1, c1, ?_, HO2.out, HB2.out⟩
            exact ret_open (by omega)
          · obtain ⟨X, hX⟩ : ∃ X, X = crcB body := ⟨_, rfl⟩
            rw [← hX] at CS hcrc
            have HFF : Hid (firstB rs = none) := Lib.hid (by rw [HF.out, if_neg hN6, if_neg hNl, HBODY.out, if_neg (by rw [← hX]; exact hcrc)])
            have ene : (X != (S : Int)) = true := by simpa using hcrc
            have ene2 : (X == (S : Int)) = false := by simpa using hcrc
            clear hcrc hX
            go_wp2_with (fail)
            (with_reducible refine CS.out.mono ?_)
            rintro e w2 ⟨rfl, hb2⟩
            have HB2 := Lib.hid (below_then HB1.out hb2)
            clear hb2
            go_wp2_with (fail)
            go_ret3
            exact retOpen_none HFF.out (by decide) HB2.out
set_option maxHeartbeats 2000000 in
set_option maxRecDepth 100000 in
theorem open_end (w : World) (n c : Nat) (A : Option Addr) (hc : n ≤ c) (hm : c ≤ maxLen) (hA : A = none → c = 0) :
    Calls Tryz.prog 109 #[.slice A n c, .int .i64 n] w (RetOpen w n none) := by
  unfold maxLen at hm
  have g1 : decide ((n : Int) < 0) = false := by simp
  cases A with
  | none =>
    obtain rfl := hA rfl
    obtain rfl : n = 0 := by omega
    clear hA
    go_enter Tryz.func109, Tryz.ntmps109
    go_wp2
    go_ret3
    exact retOpen_none rfl (by decide) (Below.refl _ _)
  | some ad =>
    clear hA
    by_cases hcn : c = n
    · subst hcn
      go_enter Tryz.func109, Tryz.ntmps109
      go_wp2
      go_ret3
      exact retOpen_none rfl (by decide) (Below.refl _ _)
    · have hlt : n < c := by omega
      go_enter Tryz.func109, Tryz.ntmps109
      go_wp2
      go_ret3
      exact retOpen_none rfl (by decide) (Below.refl _ _)
theorem open_all (w : World) (n c k0 : Nat) (A : Option Addr) (bs : List Byte) (hI : Arr w A n c bs) (hn : n ≤ 1048576) (hk0 : k0 ≤ n) :
    Calls Tryz.prog 109 #[.slice A n c, .int .i64 k0] w (RetOpen w k0 (firstB (bs.drop k0))) := by
  by_cases h : k0 < n
  · cases A with
    | none => have := hI.nil_of_none; omega
    | some ad => exact open_any w n c k0 ad bs hI hn h
  · obtain rfl : k0 = n := by omega
    have e : firstB (bs.drop k0) = none := by
      rw [List.drop_of_length_le (by have := hI.len; omega)]
      rfl
    rw [e]
    exact open_end w k0 c A hI.cap hI.max hI.none_
end Go.Proofs.YtpncejdamjbnlaaGreatDoor
end
