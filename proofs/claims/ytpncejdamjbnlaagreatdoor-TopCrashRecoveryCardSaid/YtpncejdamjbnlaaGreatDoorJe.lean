/-
  A part of the proof of TopCrashRecovery: walks of the functions that the law calls.
-/
import Derived.Test.YtpncejdamjbnlaaGreatDoorJd
set_option linter.all false
section
namespace Go.Proofs.YtpncejdamjbnlaaGreatDoor
open Go.RowKit Jour
def rdr (A : Option Addr) (n c at_ : Nat) : Obj := .cells #[.slice A n c, .int .i64 (at_ : Int), .int .i64 0] 248 (0, 0)
theorem rdr_cells {w : World} {R n c at_ : Nat} {A : Option Addr} (h : w.heap[R]? = some (rdr A n c at_)) : w.cell? ⟨R, 0, none⟩ = some (.slice A n c) ∧ w.cell? ⟨R, 1, none⟩ = some (.int .i64 (at_ : Int)) ∧ w.cell? ⟨R, 2, none⟩ = some (.int .i64 0) := by
  unfold rdr at h
  refine ⟨?_, ?_, ?_⟩ <;> (rw [cell_of_row _ _ _ _ _ _ h]; rfl)
theorem rdr_free {w : World} {R n c at_ i : Nat} {A : Option Addr} (h : w.heap[R]? = some (rdr A n c at_)) : w.frozen? ⟨R, i, none⟩ = false := frozen_of_row _ _ _ _ _ h
def RetNum (w : World) (R : Nat) (A : Option Addr) (n c nx : Nat) (x : Int) (e : Ending) (w' : World) : Prop := e = .returned (.int .i64 x) ∧ w'.heap[R]? = some (rdr A n c nx) ∧ w.grownBy w' (some R)
set_option maxHeartbeats 1000000 in
set_option maxRecDepth 100000 in
theorem number_ok (w : World) (R n c at_ nx : Nat) (A : Option Addr) (bs : List Byte) (x : Int) (hR : w.heap[R]? = some (rdr A n c at_)) (hI : Arr w A n c bs) (hn : n ≤ 1048576) (hat : at_ ≤ n) (hg : getN bs at_ = .ok (x, nx)) :
    Calls Tryz.prog 110 #[.pointer (some ⟨R, 0, none⟩)] w (RetNum w R A n c nx x) := by
  obtain ⟨k0, k1, k2⟩ := rdr_cells hR
  have f1 := rdr_free (i := 1) hR
  have f2 := rdr_free (i := 2) hR
  have CALL := Lib.hid (fun W (h : Below w.heap.size w W) => (getInt_all W n c at_ A bs (hI.belowLt h) hn hat))
  rw [getR_of_ok hg] at CALL
  have HR := Lib.hid hR
  clear hR hI hg
  go_enter Tryz.func110, Tryz.ntmps110
  go_upto_region 9 with (fail)
  go_region_with (go_at_call 193; refine (CALL.out _ (Below.refl _ _).drew).mono ?_; rintro e w1 ⟨rfl, rfl⟩)
  all_goals
    have FIN : Hid (RetNum w R A n c nx x (.returned (.int .i64 x)) ((w.setCell ⟨R, 1, none⟩ (.int .i64 nx)).setCell ⟨R, 2, none⟩ (.int .i64 0)).drew) := Lib.hid ⟨rfl, one_put (one_put HR.out), drew_grown ((setCell_grown _ _ _ _).trans (setCell_grown _ _ _ _))⟩
    clear CALL k0 k1 k2 f1 f2
    go_wp2_with (fail)
    go_ret
    exact FIN.out
end Go.Proofs.YtpncejdamjbnlaaGreatDoor
end
section
namespace Go.Proofs.YtpncejdamjbnlaaGreatDoor
open Go.RowKit Jour
def RetRWeek (w : World) (R : Nat) (A : Option Addr) (n c nx : Nat) (ps : List Pl) (e : Ending) (w' : World) : Prop := ∃ A' n' c', e = .returned (.agg #[.slice A' n' c']) ∧ w'.ownsRow w.heap.size 104 2 (.slice A' n' c') n' (flat ps) ∧ w'.heap[R]? = some (rdr A n c nx) ∧ w.grownBy w' (some R)
set_option maxHeartbeats 1000000 in
set_option maxRecDepth 100000 in
theorem rweek_ok (w : World) (R n c at_ nx : Nat) (A : Option Addr) (bs : List Byte) (ps : List Pl) (hR : w.heap[R]? = some (rdr A n c at_)) (hI : Arr w A n c bs) (hn : n ≤ 1048576) (hat : at_ ≤ n) (hg : weekR bs at_ = .ok (ps, nx)) :
    Calls Tryz.prog 111 #[.pointer (some ⟨R, 0, none⟩)] w (RetRWeek w R A n c nx ps) := by
  have hlt : R < w.heap.size := (Array.getElem?_eq_some_iff.1 hR).1
  have hR0 : (w.alloc (.cells #[.slice none 0 0] 32)).heap[R]? = some (rdr A n c at_) := alloc_keep hR _
  have hb2 : (w.alloc (.cells #[.slice none 0 0] 32)).heap[w.heap.size]? = some (.cells #[.slice none 0 0] 32 (0, 0)) := heap_alloc_new _ _
  obtain ⟨k0, k1, k2⟩ := rdr_cells hR0
  have z0 := cell_of_one hb2
  have CALL : Hid (Calls Tryz.prog 194 #[.slice A n c, .int .i64 at_] (w.alloc (.cells #[.slice none 0 0] 32)).drew (RetWeek (w.alloc (.cells #[.slice none 0 0] 32)).drew (.ok (ps, nx)))) := Lib.hid (by
    have := weekGet_any (w.alloc (.cells #[.slice none 0 0] 32)).drew n c at_ A bs (hI.belowLt (alloc_lt _).drew) hn hat
    rwa [hg] at this)
  have HR := Lib.hid hR0
  have HB2 := Lib.hid hb2
  clear hR hR0 hb2 hI hg
  go_enter Tryz.func111, Tryz.ntmps111
  go_upto_region 9 with (fail)
  go_region_with (go_at_call 194; refine CALL.out.mono ?_; rintro e w1 ⟨A1, n1, c1, rfl, ho1, hb1⟩; have j2 := (hb1.block w.heap.size (by simp)).trans HB2.out; have jR := (hb1.block R (by simp; omega)).trans HR.out; have f1 := rdr_free (i := 1) jR; have f2 := rdr_free (i := 2) jR; have f0 := free_of_one j2; obtain ⟨i0, i1, i2⟩ := rdr_cells jR; have i3 := cell_of_one j2; have J2 := Lib.hid j2; have JR := Lib.hid jR; have HO1 := Lib.hid ho1; have HB1 := Lib.hid hb1; clear j2 jR ho1 hb1)
  all_goals
    obtain ⟨F, hF⟩ : ∃ F, F = (((w1.setCell ⟨w.heap.size, 0, none⟩ (.slice A1 n1 c1)).setCell ⟨R, 1, none⟩ (.int .i64 nx)).setCell ⟨R, 2, none⟩ (.int .i64 0)) := ⟨_, rfl⟩
    rw [← hF]
    have hFR : F.heap[R]? = some (rdr A n c nx) := by
      rw [hF]
      exact one_put (one_put ((heap_setCell_other _ _ _ _ (by show R ≠ w.heap.size; omega)).trans JR.out))
    have hF2 : F.heap[w.heap.size]? = some (.cells #[.slice A1 n1 c1] 32 (0, 0)) := by
      rw [hF]
      exact (heap_setCell_other _ _ _ _ (by show w.heap.size ≠ R; omega)).trans ((heap_setCell_other _ _ _ _ (by show w.heap.size ≠ R; omega)).trans (one_setCell J2.out))
    have hG1 : w.grownBy w1 (some R) := by
      have hB := HB1.out
      exact ⟨hB.os, hB.tape, hB.output, Nat.le_trans (by simp) hB.size, fun k hk _ => (hB.block k (by simp; omega)).trans (heap_alloc_old _ _ hk)⟩
    have n32 : ∀ u : Value, ∀ cs, Obj.cells #[u] 32 (0, 0) ≠ .cells cs 104 (0, 0) := fun u cs e => by injection e; rename_i e1 e2 e3; exact absurd e2 (by decide)
    have n248 : ∀ cs, rdr A n c at_ ≠ .cells cs 104 (0, 0) := fun cs e => by unfold rdr at e; injection e; rename_i e1 e2 e3; exact absurd e2 (by decide)
    have hO : ∀ v : Value, (F.setCell ⟨w.heap.size, 0, none⟩ v).ownsRow w.heap.size 104 2 (.slice A1 n1 c1) n1 (flat ps) := fun v => by
      have o0 := own_base HO1.out (show w.heap.size ≤ _ by simp)
      have o1 := ownsRow_setCell_other (a := ⟨w.heap.size, 0, none⟩) o0 (own_other o0 J2.out (n32 _)) (.slice A1 n1 c1)
      have hb : Value.ownBlock (.slice A1 n1 c1) ≠ some R := own_other o0 JR.out n248
      have o2 := ownsRow_setCell_other (a := ⟨R, 1, none⟩) o1 hb (.int .i64 nx)
      have o3 := ownsRow_setCell_other (a := ⟨R, 2, none⟩) o2 hb (.int .i64 0)
      rw [← hF] at o3
      exact ownsRow_setCell_other (a := ⟨w.heap.size, 0, none⟩) o3 (own_other o0 J2.out (n32 _)) v
    have hGF : ∀ v : Value, w.grownBy (F.setCell ⟨w.heap.size, 0, none⟩ v) (some R) := fun v => by
      rw [hF]
      have s0 := hG1.size
      have st : ∀ {X : World} (u : Value), w.grownBy X (some R) → w.grownBy (X.setCell ⟨w.heap.size, 0, none⟩ u) (some R) := fun u h => ⟨h.os, h.tape, h.output, by simp; exact h.size, fun k hk hne => (heap_setCell_other _ _ _ _ (by show k ≠ w.heap.size; omega)).trans (h.block k hk hne)⟩
      exact st _ (((st _ hG1).trans (setCell_grown _ _ _ _)).trans (setCell_grown _ _ _ _))
    have q1 := cell_of_one hF2
    have q2 := free_of_one hF2
    have FIN : Hid (RetRWeek w R A n c nx ps (.returned (.agg #[.slice A1 n1 c1])) (F.setCell ⟨w.heap.size, 0, none⟩ (.slice A1 n1 c1))) := Lib.hid ⟨A1, n1, c1, rfl, hO _, (heap_setCell_other _ _ _ _ (by show R ≠ w.heap.size; omega)).trans hFR, hGF _⟩
    have q3 := cell_of_one (one_setCell (u := .slice A1 n1 c1) hF2)
    clear CALL k0 k1 k2 f0 f1 f2 i0 i1 i2 i3 z0 hF hFR hF2 hG1 n32 n248 hO hGF
    go_wp2_with (fail)
    exact bodyPost_ret (v := .agg #[.slice A1 n1 c1]) (by simp [results, Tryz.results111, go_sem, q3]) rfl FIN.out
end Go.Proofs.YtpncejdamjbnlaaGreatDoor
end
section
namespace Go.Proofs.YtpncejdamjbnlaaGreatDoor
open Go.RowKit Jour
theorem getN_enc {l : List Byte} {k : Nat} (pre rest : List Byte) (x : Int) (hl : l = pre ++ (encI x ++ rest)) (hk : k = pre.length) (h : W64 x) : getN l k = .ok (x, k + (encI x).length) := by
  subst hl hk
  have hz := Oct.zig_lt h.1 h.2
  have e := Oct.dec_enc (Oct.zig x) 0 0 (nat8 rest) (by simpa using hz) (by omega)
  have hl : (Oct.enc (Oct.zig x)).length = (encI x).length := by
    have := nat8_encB (Oct.zig x)
    rw [← this, nat8_len]; rfl
  have e0 : nat8 ((pre ++ (encI x ++ rest)).drop pre.length) = Oct.enc (Oct.zig x) ++ nat8 rest := by
    rw [List.drop_left, nat8_append, nat8_encI]; rfl
  unfold getN
  rw [e0, e]
  simp [Oct.unzig_zig, hl]
theorem psR_enc : ∀ (ps : List Pl) {l : List Byte} {k : Nat} (pre rest : List Byte) (acc : List Pl), l = pre ++ (encPs ps ++ rest) → k = pre.length → W64s ps → psR l ps.length acc k = .ok (acc ++ ps, k + (encPs ps).length)
  | [], l, k, pre, rest, acc, _, _, _ => by simp [psR, encPs]
  | p :: ps, l, k, pre, rest, acc, hl, hk, h => by
    have hp := h p (by simp)
    have e0 : encPs (p :: ps) = encI p.1 ++ (encI p.2 ++ encPs ps) := by simp [encPs]
    have e1 := getN_enc (l := l) (k := k) pre (encI p.2 ++ (encPs ps ++ rest)) p.1 (by rw [hl, e0]; simp only [List.append_assoc]) hk hp.1
    have e2 := getN_enc (l := l) (k := k + (encI p.1).length) (pre ++ encI p.1) (encPs ps ++ rest) p.2 (by rw [hl, e0]; simp only [List.append_assoc]) (by rw [hk, List.length_append]) hp.2
    have e3 := psR_enc ps (l := l) (k := k + (encI p.1).length + (encI p.2).length) (pre ++ encI p.1 ++ encI p.2) rest (acc ++ [p]) (by rw [hl, e0]; simp only [List.append_assoc]) (by rw [hk]; simp only [List.length_append]) fun x hx => h x (by simp [hx])
    simp only [List.length_cons, psR, e1, e2]
    rw [e3]
    have e4 : (encPs (p :: ps)).length = (encI p.1).length + (encI p.2).length + (encPs ps).length := by rw [e0]; simp only [List.length_append]; omega
    rw [e4]
    simp only [List.append_assoc, List.cons_append, List.nil_append]
    congr 2
    omega
theorem weekR_enc {l : List Byte} {k : Nat} (pre rest : List Byte) (ps : List Pl) (hl : l = pre ++ (encI ps.length ++ (encPs ps ++ rest))) (hk : k = pre.length) (h : W64s ps) (h64 : ps.length ≤ 64) : weekR l k = .ok (ps, k + (encI ps.length).length + (encPs ps).length) := by
  have e1 := getN_enc pre (encPs ps ++ rest) (ps.length : Int) hl hk ⟨by omega, by omega⟩
  have e2 := psR_enc ps (l := l) (k := k + (encI ps.length).length) (pre ++ encI ps.length) rest [] (by rw [hl, List.append_assoc]) (by rw [hk, List.length_append]) h
  unfold weekR
  rw [e1]
  simp only
  rw [if_neg (by omega), if_neg (by omega), Int.toNat_natCast, e2]
  simp
theorem record_steps (v : Ver) (h1 : W64 v.no) (h2 : W64 v.cost) (h64 : W64s v.week) (hl : v.week.length ≤ 64) : ∃ k1 k2 k3 : Nat,
    getN (recordB v) 0 = .ok (v.no, k1) ∧ weekR (recordB v) k1 = .ok (v.week, k2) ∧ getN (recordB v) k2 = .ok (v.cost, k3) ∧ getN (recordB v) k3 = .ok (bitI v.best, (recordB v).length) := by
  have hb : W64 (bitI v.best) := by unfold bitI W64; split <;> omega
  have e : recordB v = encI v.no ++ encI v.week.length ++ encPs v.week ++ encI v.cost ++ encI (bitI v.best) := rfl
  have g1 := getN_enc (l := recordB v) (k := 0) [] (encI v.week.length ++ (encPs v.week ++ (encI v.cost ++ encI (bitI v.best)))) v.no (by rw [e]; simp only [List.append_assoc, List.nil_append]) rfl h1
  have g2 := weekR_enc (l := recordB v) (k := 0 + (encI v.no).length) (encI v.no) (encI v.cost ++ encI (bitI v.best)) v.week (by rw [e]; simp only [List.append_assoc]) (by omega) h64 hl
  have g3 := getN_enc (l := recordB v) (k := 0 + (encI v.no).length + (encI v.week.length).length + (encPs v.week).length) (encI v.no ++ encI v.week.length ++ encPs v.week) (encI (bitI v.best)) v.cost (by rw [e]; simp only [List.append_assoc]) (by simp only [List.length_append]; omega) h2
  have g4 := getN_enc (l := recordB v) (k := 0 + (encI v.no).length + (encI v.week.length).length + (encPs v.week).length + (encI v.cost).length) (encI v.no ++ encI v.week.length ++ encPs v.week ++ encI v.cost) [] (bitI v.best) (by rw [e]; simp only [List.append_assoc, List.append_nil]) (by simp only [List.length_append]; omega) hb
  refine ⟨_, _, _, g1, g2, g3, ?_⟩
  rw [g4]
  congr 2
  rw [e]
  simp only [List.length_append]
  omega
theorem record_len (v : Ver) (h1 : W64 v.no) (h2 : W64 v.cost) (h64 : W64s v.week) (hl : v.week.length ≤ 64) : (recordB v).length ≤ 1320 := by
  have hb : W64 (bitI v.best) := by unfold bitI W64; split <;> omega
  have e1 := encI_len h1
  have e2 := encI_len h2
  have e3 := encI_len hb
  have e4 := encPs_len h64
  have e5 := encI_len (x := (v.week.length : Int)) ⟨by omega, by omega⟩
  unfold recordB
  simp only [List.length_append]
  omega
end Go.Proofs.YtpncejdamjbnlaaGreatDoor
end
section
namespace Go.Proofs.YtpncejdamjbnlaaGreatDoor
open Go.RowKit Jour
def RetVer (w : World) (v : Ver) (e : Ending) (w' : World) : Prop := ∃ A n c, e = .returned (.tuple #[.agg #[.int .i64 v.no, .slice A n c, .int .i64 v.cost, .bool v.best], .bool true]) ∧ w'.ownsRow w.heap.size 104 2 (.slice A n c) n (flat v.week) ∧ Below w.heap.size w w'
def ver0 : Array Value := #[.int .i64 0, .slice none 0 0, .int .i64 0, .bool false]
theorem psR_le : ∀ (m : Nat) {l : List Byte} {acc ps : List Pl} {k nx : Nat}, psR l m acc k = .ok (ps, nx) → k ≤ l.length → nx ≤ l.length
  | 0, l, acc, ps, k, nx, h, hk => by simp [psR] at h; omega
  | m + 1, l, acc, ps, k, nx, h, hk => by
    simp only [psR] at h
    cases h1 : getN l k with
    | error e => rw [h1] at h; cases h
    | ok a =>
      rw [h1] at h
      simp only at h
      cases h2 : getN l a.2 with
      | error e => rw [h2] at h; cases h
      | ok b =>
        rw [h2] at h
        simp only at h
        exact psR_le m h (getN_le (nx := b.2) (x := b.1) h2 (getN_le (nx := a.2) (x := a.1) h1 hk))
theorem weekR_le {l : List Byte} {ps : List Pl} {k nx : Nat} (h : weekR l k = .ok (ps, nx)) (hk : k ≤ l.length) : nx ≤ l.length := by
  unfold weekR at h
  cases h1 : getN l k with
  | error e => rw [h1] at h; cases h
  | ok a =>
    rw [h1] at h
    simp only at h
    split at h
    · cases h
    · split at h
      · cases h
      · exact psR_le _ h (getN_le (nx := a.2) (x := a.1) h1 hk)
def verB (A : Option Addr) (n c : Nat) (no cost : Int) (b : Bool) : Array Value := #[.int .i64 no, .slice A n c, .int .i64 cost, .bool b]
set_option maxHeartbeats 2000000 in
set_option maxRecDepth 100000 in
theorem read_ok (w : World) (n c : Nat) (A : Option Addr) (v : Ver) (hI : Arr w A n c (recordB v)) (hno : 1 ≤ v.no ∧ v.no ≤ 1099511627776) (hco : 0 ≤ v.cost ∧ v.cost ≤ 1099511627776) (h64 : W64s v.week) (hl : v.week.length ≤ 64) :
    Calls Tryz.prog 60 #[.slice A n c] w (RetVer w v) := by
  have hno64 : W64 v.no := ⟨by omega, by omega⟩
  have hco64 : W64 v.cost := ⟨by omega, by omega⟩
  have hlen := record_len v hno64 hco64 h64 hl
  have hnl := hI.len
  obtain ⟨k1, k2, k3, s1, s2, s3, s4⟩ := record_steps v hno64 hco64 h64 hl
  rw [← hnl] at s4 hlen
  obtain ⟨no, week, cost, best⟩ := v
  dsimp only at *
  have l1 := getN_le s1 (by omega)
  have l2 := weekR_le s2 (by omega)
  have l3 := getN_le s3 (by omega)
  obtain ⟨B, hB⟩ : ∃ B, recordB ⟨no, week, cost, best⟩ = B := ⟨_, rfl⟩
  rw [hB] at hI s1 s2 s3 s4 hnl l1 l2 l3
  rw [← hnl] at l1 l2 l3
  clear hB
  obtain ⟨R, hR⟩ : ∃ R, R = w.heap.size + 1 := ⟨_, rfl⟩
  obtain ⟨W0, hW0⟩ : ∃ W0, W0 = ((w.alloc (Obj.cells #[Value.int IntKind.i64 0, Value.slice none 0 0, Value.int IntKind.i64 0, Value.bool false] 34)).alloc (Obj.cells #[Value.slice A n c, Value.int IntKind.i64 0, Value.int IntKind.i64 0] 248)) := ⟨_, rfl⟩
  have hb2 : W0.heap[w.heap.size]? = some (.cells ver0 34 (0, 0)) := by rw [hW0]; exact alloc_keep (heap_alloc_new _ _) _
  have hbR : W0.heap[R]? = some (rdr A n c 0) := by
    rw [hW0, hR]
    have := heap_alloc_new (w.alloc (Obj.cells #[Value.int IntKind.i64 0, Value.slice none 0 0, Value.int IntKind.i64 0, Value.bool false] 34)) (Obj.cells #[Value.slice A n c, Value.int IntKind.i64 0, Value.int IntKind.i64 0] 248)
    rw [World.size_alloc] at this
    exact this
  have hal : Below w.heap.size w W0 := by rw [hW0]; exact (alloc_lt _).alloc (by simp) _
  have hRne : w.heap.size ≠ R := by omega
  have hbr0 : Below w.heap.size w W0 := hal
  have C1 := Lib.hid (number_ok W0 R n c 0 k1 A B no hbR (hI.belowLt hal) (by omega) (by omega) s1)
  have gB : ∀ {X : World}, W0.grownBy X (some R) → Below w.heap.size w X := fun h => hal.grown h hal.size (fun k e => by injection e with e; omega)
  have C2 : Hid (∀ W, W.heap[R]? = some (rdr A n c k1) → Below w.heap.size w W → Calls Tryz.prog 111 #[.pointer (some ⟨R, 0, none⟩)] W (RetRWeek W R A n c k2 week)) := Lib.hid fun W h hb => rweek_ok W R n c k1 k2 A B week h (hI.belowLt hb) (by omega) l1 s2
  have C3 : Hid (∀ W, W.heap[R]? = some (rdr A n c k2) → Below w.heap.size w W → Calls Tryz.prog 110 #[.pointer (some ⟨R, 0, none⟩)] W (RetNum W R A n c k3 cost)) := Lib.hid fun W h hb => number_ok W R n c k2 k3 A B cost h (hI.belowLt hb) (by omega) l2 s3
  have C4 : Hid (∀ W, W.heap[R]? = some (rdr A n c k3) → Below w.heap.size w W → Calls Tryz.prog 110 #[.pointer (some ⟨R, 0, none⟩)] W (RetNum W R A n c n (bitI best))) := Lib.hid fun W h hb => number_ok W R n c k3 n A B (bitI best) h (hI.belowLt hb) (by omega) l3 s4
  have HB2 := Lib.hid hb2
  have HGB : Hid (∀ {X : World}, W0.grownBy X (some R) → Below w.heap.size w X) := Lib.hid gB
  have HNO := Lib.hid hno
  have HCO := Lib.hid hco
  have HLW := Lib.hid hl
  rw [hW0] at C1
  subst hR
  have hbq : (bitI best == 1) = best := by cases best <;> rfl
  clear hI hnl s1 s2 s3 s4 l1 l2 l3 hlen hb2 hbR hal hbr0 gB hno hco h64 hl hno64 hco64
  go_enter Tryz.func60, Tryz.ntmps60
  go_wp2_with (fail)
  (with_reducible refine C1.out.mono ?_)
  rw [← hW0]
  rintro e w1 ⟨rfl, hr1, hg1⟩
  have D2 := Lib.hid (C2.out w1 hr1 (HGB.out hg1))
  have HG1 := Lib.hid hg1
  clear hr1 hg1 C1 C2
  go_wp2_with (fail)
  (with_reducible refine D2.out.mono ?_)
  rintro e w2 ⟨A1, n1, c1, rfl, ho2, hr2, hg2⟩
  have hg2' := HG1.out.trans hg2
  have D3 := Lib.hid (C3.out w2 hr2 (HGB.out hg2'))
  have HO2 := Lib.hid (own_base ho2 (show w.heap.size ≤ w1.heap.size from (HGB.out HG1.out).size))
  have HG2 := Lib.hid hg2'
  have HR2 := Lib.hid hr2
  clear hr2 hg2 hg2' C3 ho2 D2
  go_wp2_with (fail)
  (with_reducible refine D3.out.mono ?_)
  rintro e w3 ⟨rfl, hr3, hg3⟩
  have hg3' := HG2.out.trans hg3
  have hb3 := grown_keep hg3' HB2.out (fun e => by injection e with e; omega)
  have z0 : w3.cell? ⟨w.heap.size, 0, none⟩ = some (.int .i64 0) := by rw [cell_of_row _ _ _ _ _ _ hb3]; rfl
  have z1 : w3.cell? ⟨w.heap.size, 1, none⟩ = some (.slice none 0 0) := by rw [cell_of_row _ _ _ _ _ _ hb3]; rfl
  have z2 : w3.cell? ⟨w.heap.size, 2, none⟩ = some (.int .i64 0) := by rw [cell_of_row _ _ _ _ _ _ hb3]; rfl
  have f0 : ∀ i, w3.frozen? ⟨w.heap.size, i, none⟩ = false := fun i => frozen_of_row _ _ _ _ _ hb3
  have f00 := f0 0
  have f01 := f0 1
  have f02 := f0 2
  clear f0
  obtain ⟨F1, hF1⟩ : ∃ F1, F1 = ((w3.setCell ⟨w.heap.size, 0, none⟩ (.int .i64 no)).setCell ⟨w.heap.size, 1, none⟩ (.slice A1 n1 c1)).setCell ⟨w.heap.size, 2, none⟩ (.int .i64 cost) := ⟨_, rfl⟩
  have hFB : F1.heap[w.heap.size]? = some (.cells (verB A1 n1 c1 no cost false) 34 (0, 0)) := by rw [hF1]; exact one_put (one_put (one_put hb3))
  have hFo : ∀ k, k ≠ w.heap.size → F1.heap[k]? = w3.heap[k]? := fun k hk => by
    rw [hF1]
    exact (heap_setCell_other _ _ _ _ hk).trans ((heap_setCell_other _ _ _ _ hk).trans (heap_setCell_other _ _ _ _ hk))
  have hFbel : Below w.heap.size w F1 := by
    rw [hF1]
    exact (((HGB.out hg3').setCell (Nat.le_refl _) _).setCell (Nat.le_refl _) _).setCell (Nat.le_refl _) _
  have D4 := Lib.hid (C4.out F1 ((hFo (w.heap.size + 1) (by omega)).trans hr3) hFbel)
  rw [hF1] at D4
  have n34 : ∀ (x : Array Value) cs, Obj.cells x 34 (0, 0) ≠ .cells cs 104 (0, 0) := fun x cs e => by injection e; rename_i e1 e2 e3; exact absurd e2 (by decide)
  have n248 : ∀ k cs, rdr A n c k ≠ .cells cs 104 (0, 0) := fun k cs e => by unfold rdr at e; injection e; rename_i e1 e2 e3; exact absurd e2 (by decide)
  have hoF : F1.ownsRow w.heap.size 104 2 (.slice A1 n1 c1) n1 (flat week) := by
    rw [hF1]
    have o3 := HO2.out.kept hg3 (.inr (own_other HO2.out HR2.out (n248 k2)))
    have x := own_other o3 hb3 (n34 _)
    exact ownsRow_setCell_other (ownsRow_setCell_other (ownsRow_setCell_other o3 x _) x _) x _
  have HFB := Lib.hid hFB
  have HOF := Lib.hid hoF
  have HFBEL := Lib.hid hFbel
  have HFR : Hid (F1.heap[w.heap.size + 1]? = some (rdr A n c k3)) := Lib.hid ((hFo (w.heap.size + 1) (by omega)).trans hr3)
  clear hr3 hg3 hg3' hb3 hFB hFo hFbel hoF C4 D3
  go_wp2_with (fail)
  (with_reducible refine D4.out.mono ?_)
  rw [← hF1]
  rintro e w4 ⟨rfl, hr4, hg4⟩
  have hb4 := grown_keep hg4 HFB.out (fun e => by injection e with e; omega)
  have y3 : w4.cell? ⟨w.heap.size, 3, none⟩ = some (.bool false) := by rw [cell_of_row _ _ _ _ _ _ hb4]; rfl
  have f03 : w4.frozen? ⟨w.heap.size, 3, none⟩ = false := frozen_of_row _ _ _ _ _ hb4
  obtain ⟨F2, hF2⟩ : ∃ F2, F2 = w4.setCell ⟨w.heap.size, 3, none⟩ (.bool best) := ⟨_, rfl⟩
  have hB2 : F2.heap[w.heap.size]? = some (.cells (verB A1 n1 c1 no cost best) 34 (0, 0)) := by rw [hF2]; exact one_put hb4
  have hR2 : F2.heap[w.heap.size + 1]? = some (rdr A n c n) := by rw [hF2]; exact (heap_setCell_other _ _ _ _ (by show w.heap.size + 1 ≠ w.heap.size; omega)).trans hr4
  have hBel2 : Below w.heap.size w F2 := by rw [hF2]; exact ((HFBEL.out.grown hg4 HFBEL.out.size (fun k e => by injection e with e; omega))).setCell (Nat.le_refl _) _
  have hO2 : F2.ownsRow w.heap.size 104 2 (.slice A1 n1 c1) n1 (flat week) := by
    rw [hF2]
    have o4 := HOF.out.kept hg4 (.inr (own_other HOF.out HFR.out (n248 k3)))
    exact ownsRow_setCell_other o4 (own_other o4 hb4 (n34 _)) _
  have HB2' := Lib.hid hB2
  have HR2' := Lib.hid hR2
  have HBEL2 := Lib.hid hBel2
  have HO2' := Lib.hid hO2
  have HF2 := Lib.hid hF2
  have N34 := Lib.hid n34
  clear hr4 hg4 hb4 hF1 hF2 hB2 hR2 hBel2 hO2 n34 n248 z0 z1 z2 f00 f01 f02
  go_upto_region 26 with (fail)
  rw [← HF2.out]
  clear y3 f03
  have c0 : F2.cell? ⟨w.heap.size, 0, none⟩ = some (.int .i64 no) := by rw [cell_of_row _ _ _ _ _ _ HB2'.out]; rfl
  have c1' : F2.cell? ⟨w.heap.size, 1, none⟩ = some (.slice A1 n1 c1) := by rw [cell_of_row _ _ _ _ _ _ HB2'.out]; rfl
  have c2 : F2.cell? ⟨w.heap.size, 2, none⟩ = some (.int .i64 cost) := by rw [cell_of_row _ _ _ _ _ _ HB2'.out]; rfl
  have c3 : F2.cell? ⟨w.heap.size, 3, none⟩ = some (.bool best) := by rw [cell_of_row _ _ _ _ _ _ HB2'.out]; rfl
  obtain ⟨_, r1, r2⟩ := rdr_cells HR2'.out
  have hltB : w.heap.size < F2.heap.size := (Array.getElem?_eq_some_iff.1 HB2'.out).1
  have hltR : w.heap.size + 1 < F2.heap.size := (Array.getElem?_eq_some_iff.1 HR2'.out).1
  have C52 : Hid (∀ W, Calls Tryz.prog 52 #[.int .i64 (bitI best), .int .i64 0, .int .i64 1] W (RetBoolSame W true)) := Lib.hid fun W => by
    have := within_any (bitI best) 0 1 W
    rwa [show (decide ((0 : Int) ≤ bitI best) && decide (bitI best ≤ 1)) = true by cases best <;> rfl] at this
  have C19 : Hid (Calls Tryz.prog 19 #[.agg #[.int .i64 no, .slice A1 n1 c1, .int .i64 cost, .bool best]] F2.drew (RetBoolBelow F2.drew true)) := Lib.hid (by
    have := may_any F2.drew no cost A1 n1 c1 best HNO.out HCO.out
    rwa [show decide (n1 ≤ 64) = true by have := (Arr.of_own HO2'.out).len; have := HLW.out; simp; omega] at this)
  have ge0 : ((0 : Int) == 0) = true := rfl
  have gen : ((n : Int) == (n : Int)) = true := by simp
  go_region_held3 (fun w' => w'.cell? ⟨w.heap.size, 0, none⟩ = some (.int .i64 no) ∧ w'.cell? ⟨w.heap.size, 1, none⟩ = some (.slice A1 n1 c1) ∧ w'.cell? ⟨w.heap.size, 2, none⟩ = some (.int .i64 cost) ∧ w'.cell? ⟨w.heap.size, 3, none⟩ = some (.bool best) ∧ w'.cell? ⟨w.heap.size + 1, 1, none⟩ = some (.int .i64 n) ∧ w'.cell? ⟨w.heap.size + 1, 2, none⟩ = some (.int .i64 0))
    (first | (exact ⟨c0, c1', c2, c3, r1, r2⟩) | (exact ⟨d0, d1, d2, d3, e1, e2⟩) | (exact ⟨p0, p1, p2, p3, p4, p5⟩) | go_keep)
    (first
      | (go_at_call 52
         (with_reducible refine (C52.out _).mono ?_)
         rintro e w5 ⟨rfl, rfl⟩)
      | (go_at_call 19
         (with_reducible refine C19.out.mono ?_)
         rintro e w5 ⟨rfl, hb5⟩
         have j2 := (hb5.block w.heap.size hltB).trans HB2'.out
         have jR := (hb5.block (w.heap.size + 1) hltR).trans HR2'.out
         have d0 : w5.cell? ⟨w.heap.size, 0, none⟩ = some (.int .i64 no) := by rw [cell_of_row _ _ _ _ _ _ j2]; rfl
         have d1 : w5.cell? ⟨w.heap.size, 1, none⟩ = some (.slice A1 n1 c1) := by rw [cell_of_row _ _ _ _ _ _ j2]; rfl
         have d2 : w5.cell? ⟨w.heap.size, 2, none⟩ = some (.int .i64 cost) := by rw [cell_of_row _ _ _ _ _ _ j2]; rfl
         have d3 : w5.cell? ⟨w.heap.size, 3, none⟩ = some (.bool best) := by rw [cell_of_row _ _ _ _ _ _ j2]; rfl
         obtain ⟨_, e1, e2⟩ := rdr_cells jR
         have g0 := frozen_of_row w5 w.heap.size 0 _ 34 j2
         have g1 := frozen_of_row w5 w.heap.size 1 _ 34 j2
         have g2 := frozen_of_row w5 w.heap.size 2 _ 34 j2
         have g3 := frozen_of_row w5 w.heap.size 3 _ 34 j2
         have q2 : ((((w5.setCell ⟨w.heap.size, 0, none⟩ (.int .i64 no)).setCell ⟨w.heap.size, 1, none⟩ (.slice A1 n1 c1)).setCell ⟨w.heap.size, 2, none⟩ (.int .i64 cost)).setCell ⟨w.heap.size, 3, none⟩ (.bool best)).heap[w.heap.size]? = some (.cells (verB A1 n1 c1 no cost best) 34 (0, 0)) := one_put (one_put (one_put (one_put j2)))
         have p0 : ((((w5.setCell ⟨w.heap.size, 0, none⟩ (.int .i64 no)).setCell ⟨w.heap.size, 1, none⟩ (.slice A1 n1 c1)).setCell ⟨w.heap.size, 2, none⟩ (.int .i64 cost)).setCell ⟨w.heap.size, 3, none⟩ (.bool best)).cell? ⟨w.heap.size, 0, none⟩ = some (.int .i64 no) := by rw [cell_of_row _ _ _ _ _ _ q2]; rfl
         have p1 : ((((w5.setCell ⟨w.heap.size, 0, none⟩ (.int .i64 no)).setCell ⟨w.heap.size, 1, none⟩ (.slice A1 n1 c1)).setCell ⟨w.heap.size, 2, none⟩ (.int .i64 cost)).setCell ⟨w.heap.size, 3, none⟩ (.bool best)).cell? ⟨w.heap.size, 1, none⟩ = some (.slice A1 n1 c1) := by rw [cell_of_row _ _ _ _ _ _ q2]; rfl
         have p2 : ((((w5.setCell ⟨w.heap.size, 0, none⟩ (.int .i64 no)).setCell ⟨w.heap.size, 1, none⟩ (.slice A1 n1 c1)).setCell ⟨w.heap.size, 2, none⟩ (.int .i64 cost)).setCell ⟨w.heap.size, 3, none⟩ (.bool best)).cell? ⟨w.heap.size, 2, none⟩ = some (.int .i64 cost) := by rw [cell_of_row _ _ _ _ _ _ q2]; rfl
         have p3 : ((((w5.setCell ⟨w.heap.size, 0, none⟩ (.int .i64 no)).setCell ⟨w.heap.size, 1, none⟩ (.slice A1 n1 c1)).setCell ⟨w.heap.size, 2, none⟩ (.int .i64 cost)).setCell ⟨w.heap.size, 3, none⟩ (.bool best)).cell? ⟨w.heap.size, 3, none⟩ = some (.bool best) := by rw [cell_of_row _ _ _ _ _ _ q2]; rfl
         have p4 : ((((w5.setCell ⟨w.heap.size, 0, none⟩ (.int .i64 no)).setCell ⟨w.heap.size, 1, none⟩ (.slice A1 n1 c1)).setCell ⟨w.heap.size, 2, none⟩ (.int .i64 cost)).setCell ⟨w.heap.size, 3, none⟩ (.bool best)).cell? ⟨w.heap.size + 1, 1, none⟩ = some (.int .i64 n) := by
           rw [World.cell?_of_block (w := w5) ((heap_setCell_other _ _ _ _ (show w.heap.size + 1 ≠ w.heap.size by omega)).trans ((heap_setCell_other _ _ _ _ (show w.heap.size + 1 ≠ w.heap.size by omega)).trans ((heap_setCell_other _ _ _ _ (show w.heap.size + 1 ≠ w.heap.size by omega)).trans (heap_setCell_other _ _ _ _ (show w.heap.size + 1 ≠ w.heap.size by omega)))))]; exact e1
         have p5 : ((((w5.setCell ⟨w.heap.size, 0, none⟩ (.int .i64 no)).setCell ⟨w.heap.size, 1, none⟩ (.slice A1 n1 c1)).setCell ⟨w.heap.size, 2, none⟩ (.int .i64 cost)).setCell ⟨w.heap.size, 3, none⟩ (.bool best)).cell? ⟨w.heap.size + 1, 2, none⟩ = some (.int .i64 0) := by
           rw [World.cell?_of_block (w := w5) ((heap_setCell_other _ _ _ _ (show w.heap.size + 1 ≠ w.heap.size by omega)).trans ((heap_setCell_other _ _ _ _ (show w.heap.size + 1 ≠ w.heap.size by omega)).trans ((heap_setCell_other _ _ _ _ (show w.heap.size + 1 ≠ w.heap.size by omega)).trans (heap_setCell_other _ _ _ _ (show w.heap.size + 1 ≠ w.heap.size by omega)))))]; exact e2
         have J2 := Lib.hid j2
         have Q2 := Lib.hid q2
         have HB5 := Lib.hid hb5
         clear j2 jR hb5 q2))
  have HO5 : Hid (RetVer w ⟨no, week, cost, best⟩ (.returned (.tuple #[.agg #[.int .i64 no, .slice A1 n1 c1, .int .i64 cost, .bool best], .bool true])) ((((w5.setCell ⟨w.heap.size, 0, none⟩ (.int .i64 no)).setCell ⟨w.heap.size, 1, none⟩ (.slice A1 n1 c1)).setCell ⟨w.heap.size, 2, none⟩ (.int .i64 cost)).setCell ⟨w.heap.size, 3, none⟩ (.bool best))) := Lib.hid (by
    have o5 := own_below (HO2'.out.drew) HB5.out (Nat.le_refl _)
    have x := own_other o5 J2.out (N34.out _)
    refine ⟨A1, n1, c1, rfl, ownsRow_setCell_other (ownsRow_setCell_other (ownsRow_setCell_other (ownsRow_setCell_other o5 x _) x _) x _) x _, ?_⟩
    exact ((((below_then (HBEL2.out.drew) HB5.out).setCell (Nat.le_refl _) _).setCell (Nat.le_refl _) _).setCell (Nat.le_refl _) _).setCell (Nat.le_refl _) _)
  clear d0 d1 d2 d3 e1 e2 c0 c1' c2 c3 r1 r2 g0 g1 g2 g3 p4 p5 C52 C19
  go_wp2_with (fail)
  exact bodyPost_ret (v := .tuple #[.agg #[.int .i64 no, .slice A1 n1 c1, .int .i64 cost, .bool best], .bool true]) (by simp [results, Tryz.results60, go_sem, p0, p1, p2, p3]) rfl HO5.out
end Go.Proofs.YtpncejdamjbnlaaGreatDoor
end
