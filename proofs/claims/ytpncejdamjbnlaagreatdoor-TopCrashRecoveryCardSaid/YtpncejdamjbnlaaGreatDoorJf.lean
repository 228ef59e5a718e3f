/-
  A part of the proof of TopCrashRecovery: walks of the functions that the law calls.
-/
import Derived.Test.YtpncejdamjbnlaaGreatDoorJe
import Derived.Test.YtpncejdamjbnlaaGreatDoorJd
import Derived.Test.YtpncejdamjbnlaaGreatDoorYa
set_option linter.all false
section
namespace Go.Proofs.YtpncejdamjbnlaaGreatDoor
open Go.RowKit Jour
set_option maxRecDepth 100000 in
theorem from_any (w : World) (n : Int) : Calls Tryz.prog 26 #[.int .i64 n] w fun e w' =>
    e = .returned (.func (.func 59) #[] #[.pointer (some ⟨w.heap.size, 0, none⟩)]) ∧ w.alloc (.cells #[.int .i64 n] 3) = w' := by
  go_enter Tryz.func26, Tryz.ntmps26
  go_wp2
  go_ret
  exact ⟨rfl, rfl⟩
def RetNext (w : World) (b : Nat) (k : Nat) (e : Ending) (w' : World) : Prop := e = .returned (.int .i64 k) ∧ w'.heap[b]? = some (.cells #[.int .i64 ((k : Int) + 1)] 3 (0, 0)) ∧ w.grownBy w' (some b)
set_option maxRecDepth 100000 in
theorem from1_any (w : World) (b k : Nat) (hk : k ≤ 1048576) (hb : w.heap[b]? = some (.cells #[.int .i64 k] 3 (0, 0))) : Calls Tryz.prog 59 #[.pointer (some ⟨b, 0, none⟩)] w (RetNext w b k) := by
  have c1 := cell_of_one hb
  have f1 := free_of_one hb
  have c2 := cell_of_one (one_setCell (u := .int .i64 ((k : Int) + 1)) hb)
  have HF : Hid (RetNext w b k (.returned (.int .i64 k)) (w.setCell ⟨b, 0, none⟩ (.int .i64 ((k : Int) + 1)))) := Lib.hid ⟨rfl, one_setCell hb, setCell_grown _ _ _ _⟩
  clear hb
  go_enter Tryz.func59, Tryz.ntmps59
  go_wp2
  go_ret
  exact HF.out
def verL (v : Ver) (A : Option Addr) (n c : Nat) : List Value := [.int .i64 v.no, .slice A n c, .int .i64 v.cost, .bool v.best]
def OwnV (w : World) (base : Nat) (x : Value) (vs : List Ver) : Prop :=
  ∃ cells : List Value, w.ownsRow base 34 4 x vs.length cells ∧
    ∀ (i : Nat) (v : Ver), vs[i]? = some v → ∃ A n c, (∀ (j : Nat) (u : Value), (verL v A n c)[j]? = some u → cells[i * 4 + j]? = some u) ∧ w.ownsRow base 104 2 (.slice A n c) n (flat v.week)
theorem OwnV.nil_ (w : World) (base : Nat) : OwnV w base (.slice none 0 0) [] := ⟨[], World.ownsRow_nil _ _ _ _, fun i v h => by simp at h⟩
theorem OwnV.keep {w w' : World} {base : Nat} {x : Value} {vs : List Ver} (h : OwnV w base x vs) (hk : ∀ {t s n v xs}, (t = 34 ∨ t = 104) → w.ownsRow base t s v n xs → w'.ownsRow base t s v n xs) : OwnV w' base x vs := by
  obtain ⟨cells, h1, h2⟩ := h
  exact ⟨cells, hk (.inl rfl) h1, fun i v hv => by
    obtain ⟨A, n, c, hc, ho⟩ := h2 i v hv
    exact ⟨A, n, c, hc, hk (.inr rfl) ho⟩⟩
theorem OwnV.below {w w' : World} {B base : Nat} {x : Value} {vs : List Ver} (h : OwnV w base x vs) (hb : Below B w w') (hB : w.heap.size ≤ B) : OwnV w' base x vs := h.keep fun _ h => own_below h hb hB
theorem OwnV.base {w : World} {base base' : Nat} {x : Value} {vs : List Ver} (h : OwnV w base x vs) (hb : base' ≤ base) : OwnV w base' x vs := by
  obtain ⟨cells, h1, h2⟩ := h
  exact ⟨cells, own_base h1 hb, fun i v hv => by
    obtain ⟨A, n, c, hc, ho⟩ := h2 i v hv
    exact ⟨A, n, c, hc, own_base ho hb⟩⟩
theorem OwnV.grown {w w' : World} {base b : Nat} {x : Value} {vs : List Ver} (h : OwnV w base x vs) (hg : w.grownBy w' (some b)) (hb : b < base) : OwnV w' base x vs :=
  h.keep fun _ h => h.kept hg (.inr fun e => by have := (h.lt _ e).1; omega)
theorem OwnV.snoc {w w' : World} {base n c1 : Nat} {A1 : Option Addr} {x x' : Value} {vs : List Ver} {v : Ver} {cells : List Value}
    (h1 : w.ownsRow base 34 4 x vs.length cells)
    (h2 : ∀ (i : Nat) (v : Ver), vs[i]? = some v → ∃ A n c, (∀ (j : Nat) (u : Value), (verL v A n c)[j]? = some u → cells[i * 4 + j]? = some u) ∧ w.ownsRow base 104 2 (.slice A n c) n (flat v.week))
    (hr : w.ownsRow base 104 2 (.slice A1 n c1) n (flat v.week))
    (hown : w'.ownsRow base 34 4 x' (vs.length + 1) (cells ++ verL v A1 n c1)) (hg : w.grownBy w' x.ownBlock) : OwnV w' base x' (vs ++ [v]) := by
  have hl := h1.1
  refine ⟨cells ++ verL v A1 n c1, by rw [List.length_append]; simpa using hown, fun i v' hv => ?_⟩
  by_cases hi : i < vs.length
  · rw [List.getElem?_append_left hi] at hv
    obtain ⟨A, n', c, hc, ho⟩ := h2 i v' hv
    refine ⟨A, n', c, fun j u hu => ?_, ho.kept hg (own_ne ho h1 (by decide))⟩
    have := hc j u hu
    rw [List.getElem?_append_left (by have := (List.getElem?_eq_some_iff.1 this).1; omega)]
    exact this
  · rw [List.getElem?_append_right (by omega)] at hv
    have hi0 : i - vs.length = 0 := by
      rcases Nat.eq_zero_or_pos (i - vs.length) with h | h
      · exact h
      · rw [List.getElem?_eq_none (by simp; omega)] at hv; cases hv
    rw [hi0] at hv
    simp at hv
    subst hv
    refine ⟨A1, n, c1, fun j u hu => ?_, hr.kept hg (own_ne hr h1 (by decide))⟩
    have hj : j < 4 := by have := (List.getElem?_eq_some_iff.1 hu).1; simpa [verL] using this
    rw [List.getElem?_append_right (by omega), show i * 4 + j - cells.length = j by omega]
    exact hu
structure VersOf (w : World) (A : Option Addr) (n c : Nat) (vs : List Ver) : Prop where
  len : n = vs.length
  cap : n ≤ c
  max : c ≤ maxLen
  cells : ∃ cells : List Value, Reads w (Lt w) 4 A n cells ∧ ∀ (i : Nat) (v : Ver), vs[i]? = some v → ∃ A' n' c', (∀ (j : Nat) (u : Value), (verL v A' n' c')[j]? = some u → cells[i * 4 + j]? = some u) ∧ Arr w A' n' c' v.week
theorem VersOf.of_own {w : World} {base : Nat} {A : Option Addr} {n c : Nat} {vs : List Ver} (h : OwnV w base (.slice A n c) vs) : VersOf w A n c vs := by
  obtain ⟨cells, h1, h2⟩ := h
  obtain ⟨A0, c0, e0⟩ := own_form h1
  injection e0 with e1 e2 e3
  subst e1 e2 e3
  have hx := own_caps h1
  exact ⟨rfl, hx.1, hx.2, cells, (Reads.of_own h1).more fun _ h => h.2, fun i v hv => by
    obtain ⟨A', n', c', hc, ho⟩ := h2 i v hv
    exact ⟨A', n', c', hc, Arr.of_own ho⟩⟩
theorem VersOf.belowLt {w w' : World} {A : Option Addr} {n c : Nat} {vs : List Ver} (h : VersOf w A n c vs) (hb : Below w.heap.size w w') : VersOf w' A n c vs := by
  obtain ⟨h1, h2, h3, cells, hr, hv⟩ := h
  exact ⟨h1, h2, h3, cells, hr.keep' (fun p hp => hb.cell hp) (fun _ hk => Nat.lt_of_lt_of_le hk hb.size), fun i v hi => by
    obtain ⟨A', n', c', hc, ho⟩ := hv i v hi
    exact ⟨A', n', c', hc, ho.belowLt hb⟩⟩
theorem VersOf.at_ {w : World} {A : Option Addr} {n c k : Nat} {vs : List Ver} {v : Ver} (h : VersOf w A n c vs) (hk : vs[k]? = some v) :
    ∃ ad A' n' c', A = some ad ∧ ad.block < w.heap.size ∧ w.cell? (ad.add (k * 4)) = some (.int .i64 v.no) ∧ w.cell? ⟨(ad.add (k * 4)).block, (ad.add (k * 4)).off + 1, none⟩ = some (.slice A' n' c') ∧
      w.cell? ⟨(ad.add (k * 4)).block, (ad.add (k * 4)).off + 2, none⟩ = some (.int .i64 v.cost) ∧ w.cell? ⟨(ad.add (k * 4)).block, (ad.add (k * 4)).off + 3, none⟩ = some (.bool v.best) ∧ Arr w A' n' c' v.week := by
  obtain ⟨h1, h2, h3, cells, hr, hv⟩ := h
  obtain ⟨A', n', c', hc, ho⟩ := hv k v hk
  obtain ⟨ad, e, hb, hcell⟩ := hr.2 (by have := (List.getElem?_eq_some_iff.1 hk).1; omega)
  have ea : ∀ j, (⟨(ad.add (k * 4)).block, (ad.add (k * 4)).off + (j + 1), none⟩ : Addr) = ad.add (k * 4 + (j + 1)) := fun j => by rw [← add_of_add]; rfl
  exact ⟨ad, A', n', c', e, hb, hcell _ _ (hc 0 _ rfl), by rw [ea 0]; exact hcell _ _ (hc 1 _ rfl), by rw [ea 1]; exact hcell _ _ (hc 2 _ rfl), by rw [ea 2]; exact hcell _ _ (hc 3 _ rfl), ho⟩
def frB (vs : List Ver) : List Byte := ((vs.map recordB).map frameB).flatten
theorem nat8_flatten : ∀ l : List (List Byte), nat8 l.flatten = (l.map nat8).flatten
  | [] => rfl
  | a :: l => by simp [nat8_append, nat8_flatten l]
theorem nat8_frB (vs : List Ver) : nat8 (frB vs) = Jour.fr crcN vs := by
  unfold frB Jour.fr
  rw [nat8_flatten]
  congr 1
  rw [List.map_map, List.map_map, List.map_map]
  apply List.map_congr_left
  intro v _
  show nat8 (frameB (recordB v)) = Seal.frame crcN (Jour.record v)
  rw [frameB_nat8, nat8_record]
theorem map_nat8_inj : ∀ {a b : List (List Byte)}, a.map nat8 = b.map nat8 → a = b
  | [], [], _ => rfl
  | [], _ :: _, h => by simp at h
  | _ :: _, [], h => by simp at h
  | x :: a, y :: b, h => by
    simp at h
    rw [nat8_inj h.1, map_nat8_inj h.2]
theorem scanB_frB {s : Int} {vs : List Ver} (h : OkL s vs) : scanB ((frB vs).length + 1) (frB vs) = (vs.map recordB, (frB vs).length) := by
  have e := scan_fr crcN crcN_lt h [] (by simp [Seal.first])
  rw [List.append_nil] at e
  unfold scanAll at e
  have hl : (Jour.fr crcN vs).length = (frB vs).length := by rw [← nat8_frB, nat8_len]
  rw [hl, ← nat8_frB, scanB_nat8] at e
  injection e with e1 e2
  have e3 : (vs.map Jour.record) = (vs.map recordB).map nat8 := by
    rw [List.map_map]
    apply List.map_congr_left
    intro v _
    exact (nat8_record v).symm
  rw [e3] at e1
  exact Prod.ext (map_nat8_inj e1) e2
theorem ver_info : (Tryz.prog.info? 34).map (fun i => (i.zero, i.size, i.bytes)) = some (some (.agg #[.int .i64 0, .slice none 0 0, .int .i64 0, .bool false]), 4, 48) := by kernel_rfl
end Go.Proofs.YtpncejdamjbnlaaGreatDoor
end
section
namespace Go.Proofs.YtpncejdamjbnlaaGreatDoor
open Go.RowKit Jour
def RetVers (w : World) (b s : Nat) (vs : List Ver) (e : Ending) (w' : World) : Prop := ∃ A c, e = .returned (.tuple #[.slice A vs.length c, .int .i64 0]) ∧ OwnV w' w.heap.size (.slice A vs.length c) vs ∧ w'.heap[b]? = some (.cells #[.int .i64 ((s + vs.length : Nat) : Int)] 3 (0, 0)) ∧ w.grownBy w' (some b)
theorem OkL.at_ : ∀ {s : Int} {vs : List Ver} {k : Nat} {v : Ver}, OkL s vs → vs[k]? = some v → v.no = s + k ∧ Jour.may v = true ∧ P64 v.week
  | s, v :: vs, 0, x, h, hx => by simp at hx; subst hx; exact ⟨by simpa using h.1, h.2.1, h.2.2.1⟩
  | s, v :: vs, k + 1, x, h, hx => by
    simp at hx
    obtain ⟨h1, h2⟩ := OkL.at_ h.2.2.2 hx
    exact ⟨by rw [h1]; omega, h2⟩
theorem OwnB.grown {w w' : World} {base b : Nat} {x : Value} {css : List (List Byte)} (h : OwnB w base x css) (hg : w.grownBy w' (some b)) (hb : b < base) : OwnB w' base x css :=
  h.keep fun _ h => h.kept hg (.inr fun e => by have := (h.lt _ e).1; omega)
theorem below_grown {w a c : World} {b : Nat} (h : w.grownBy a (some b)) (k : Below a.heap.size a c) : w.grownBy c (some b) :=
  h.trans ⟨k.os, k.tape, k.output, k.size, fun j hj _ => k.block j hj⟩
theorem may_parts {v : Ver} (h : Jour.may v = true) : (1 ≤ v.no ∧ v.no ≤ 1099511627776) ∧ (0 ≤ v.cost ∧ v.cost ≤ 1099511627776) ∧ v.week.length ≤ 64 := by
  simp only [Jour.may, Bool.and_eq_true, decide_eq_true_eq] at h
  obtain ⟨⟨⟨h1, h2⟩, h3, h4⟩, h5⟩ := h
  exact ⟨⟨h1, h2⟩, ⟨h3, h4⟩, h5⟩
set_option maxHeartbeats 4000000 in
set_option maxRecDepth 100000 in
theorem versions_ok (w : World) (n c b s : Nat) (A : Option Addr) (vs : List Ver) (hI : Arr w A n c (frB vs)) (hn : n ≤ 1048576) (hok : OkL (s : Int) vs) (hs : s + vs.length ≤ 1000) (hb : w.heap[b]? = some (.cells #[.int .i64 s] 3 (0, 0))) :
    Calls Tryz.prog 27 #[.slice A n c, .func (.func 59) #[] #[.pointer (some ⟨b, 0, none⟩)]] w (RetVers w b s vs) := by
  obtain ⟨i0, hi0, hz0, hz1, hz2⟩ := info_parts' ver_info
  have hblt : b < w.heap.size := (Array.getElem?_eq_some_iff.1 hb).1
  have CALL : Hid (Calls Tryz.prog 25 #[.slice A n c] w (RetScan w (vs.map recordB, n))) := Lib.hid (by
    have := scan_any w n c A (frB vs) hI hn
    rwa [scanB_frB hok, ← hI.len] at this)
  have HB := Lib.hid hb
  have HOK := Lib.hid hok
  have gnn : ((n : Int) != (n : Int)) = false := by simp
  clear hI hok hb
  go_enter Tryz.func27, Tryz.ntmps27
  go_wp2_with (fail)
  (with_reducible refine CALL.out.mono ?_)
  rintro e w1 ⟨L, c2, rfl, hown1, hb1⟩
  dsimp only
  have hR := RowsOf.of_own hown1
  have eM : (vs.map recordB).length = vs.length := by simp
  rw [eM] at hR hown1
  obtain ⟨M, hM⟩ : ∃ M, M = vs.length := ⟨_, rfl⟩
  rw [← hM] at hR hown1 hs
  have hcap := hR.cap
  have hmax := hR.max
  unfold maxLen at hmax
  have HOWN1 := Lib.hid hown1
  have HM := Lib.hid hM
  have HB1 := Lib.hid hb1
  have HBW := Lib.hid ((hb1.block b hblt).trans HB.out)
  rw [eM, ← hM]
  clear hR hown1 hb1 CALL eM hM
  go_wp2_with (fail)
  go_loopw [4, 9, 10, 11, 23] (fun v4 _ _ _ v23 wr => ∃ (k : Nat) (A2 : Option Addr) (c3 : Nat), k ≤ M ∧ v23 = .int .i64 k ∧ v4 = .slice A2 k c3 ∧ OwnV wr w1.heap.size (.slice A2 k c3) (vs.take k) ∧ wr.heap[b]? = some (.cells #[.int .i64 ((s + k : Nat) : Int)] 3 (0, 0)) ∧ w1.grownBy wr (some b)) (fun _ _ _ _ v23 _ => M - (intOf v23).toNat)
  case atStart => exact ⟨0, none, 0, Nat.zero_le _, rfl, rfl, by simpa using OwnV.nil_ _ _, HBW.out, World.grownBy.refl _ _⟩
  case round =>
    obtain ⟨k, A2, c3, hk, rfl, rfl, hown, hbr, hgr⟩ := hrel
    by_cases hlt : k < M
    · obtain ⟨v, hv⟩ : ∃ v, vs[k]? = some v := ⟨_, List.getElem?_eq_getElem (by have := HM.out; omega)⟩
      obtain ⟨hno, hmay, hp64⟩ := OkL.at_ HOK.out hv
      obtain ⟨hno2, hco, hlw⟩ := may_parts hmay
      have hx : (vs.map recordB)[k]? = some (recordB v) := by rw [List.getElem?_map, hv]; rfl
      obtain ⟨ad, A', n', c', rfl, hadS, hc1, hI'⟩ := (RowsOf.of_own (HOWN1.out.grown hgr hblt)).at_ hx
      have CR := Lib.hid (read_ok wr n' c' A' v hI' hno2 hco hp64 hlw)
      have htk : vs.take (k + 1) = vs.take k ++ [v] := by rw [List.take_succ, hv]; rfl
      have hlk : (vs.take k).length = k := by rw [List.length_take]; have := HM.out; omega
      have HTK := Lib.hid htk
      have HLK := Lib.hid hlk
      have HOWN := Lib.hid hown
      have HBR := Lib.hid hbr
      have HGR := Lib.hid hgr
      have HNO := Lib.hid hno
      have hsz : w1.heap.size ≤ wr.heap.size := hgr.size
      have hww := HB1.out.size
      clear hv hx hadS hI' htk hlk hown hbr hgr hno hno2 hco hmay hp64 hlw
      go_wp2_with (fail)
      (with_reducible refine CR.out.mono ?_)
      rintro e w3 ⟨A3, n3, c4, rfl, ho3, hb3⟩
      obtain ⟨no, week, cost, best⟩ := v
      dsimp only at ho3 ⊢
      have HO3 := Lib.hid (own_base ho3 hsz)
      have HB3 := Lib.hid hb3
      clear ho3 hb3 CR
      go_upto_region 32 with (fail)
      obtain ⟨W4, hW4⟩ : ∃ W4, W4 = (w3.alloc (Obj.cells #[Value.int IntKind.i64 no, Value.slice A3 n3 c4, Value.int IntKind.i64 cost, Value.bool best] 34)) := ⟨_, rfl⟩
      rw [← hW4]
      have hbelW : Below wr.heap.size wr W4 := by rw [hW4]; exact HB3.out.alloc HB3.out.size _
      have hbx : W4.heap[w3.heap.size]? = some (.cells #[Value.int IntKind.i64 no, Value.slice A3 n3 c4, Value.int IntKind.i64 cost, Value.bool best] 34 (0, 0)) := by rw [hW4]; exact heap_alloc_new _ _
      have hO4 : W4.ownsRow w1.heap.size 104 2 (.slice A3 n3 c4) n3 (flat week) := by rw [hW4]; exact HO3.out.alloc _
      have hbr4 : W4.heap[b]? = some (.cells #[.int .i64 ((s + k : Nat) : Int)] 3 (0, 0)) := (hbelW.block b (Array.getElem?_eq_some_iff.1 HBR.out).1).trans HBR.out
      have hbne : b ≠ w3.heap.size := by have := HB3.out.size; omega
      obtain ⟨P, hP⟩ : ∃ P, P = w3.heap.size := ⟨_, rfl⟩
      rw [← hP] at hbx hbne ⊢
      have hPlt : P < W4.heap.size := (Array.getElem?_eq_some_iff.1 hbx).1
      have CN := Lib.hid (from1_any W4.drew b (s + k) (by omega) hbr4)
      have x0 : W4.cell? ⟨P, 0, none⟩ = some (.int .i64 no) := by rw [cell_of_row _ _ _ _ _ _ hbx]; rfl
      have hnq : (no != ((s + k : Nat) : Int)) = false := by have := HNO.out; simp; omega
      have hnq2 : (no != ((s : Int) + (k : Int))) = false := by have := HNO.out; simp; omega
      have HBELW := Lib.hid hbelW
      have HBX := Lib.hid hbx
      have HO4 := Lib.hid hO4
      clear hW4 hbelW hbx hO4 hbr4 hP
      go_region_held3 (fun w' => w'.cell? ⟨P, 0, none⟩ = some (.int .i64 no)) (first | (exact x0) | (exact x1) | go_keep)
        (first
          | (refine (CN.out).mono ?_
             rintro e w5 ⟨rfl, hb5, hg5⟩
             have j5 := grown_keep hg5 HBX.out (fun e => by injection e with e; exact hbne e)
             have x1 : w5.cell? ⟨P, 0, none⟩ = some (.int .i64 no) := by rw [cell_of_row _ _ _ _ _ _ j5]; rfl
             have J5 := Lib.hid j5
             have HB5 := Lib.hid hb5
             have HG5 := Lib.hid hg5
             clear j5 hb5 hg5))
      have y1 : w5.cell? ⟨P, 1, none⟩ = some (.slice A3 n3 c4) := by rw [cell_of_row _ _ _ _ _ _ J5.out]; rfl
      have y2 : w5.cell? ⟨P, 2, none⟩ = some (.int .i64 cost) := by rw [cell_of_row _ _ _ _ _ _ J5.out]; rfl
      have y3 : w5.cell? ⟨P, 3, none⟩ = some (.bool best) := by rw [cell_of_row _ _ _ _ _ _ J5.out]; rfl
      have hgw : wr.grownBy w5 (some b) := (below_grown (World.grownBy.refl _ _) (HBELW.out.drew)).trans HG5.out
      have hsz5 : w1.heap.size ≤ w5.heap.size := Nat.le_trans hsz hgw.size
      have hown5 : OwnV w5 w1.heap.size (.slice A2 k c3) (vs.take k) := HOWN.out.keep (fun _ h => (own_below h HBELW.out.drew (Nat.le_refl _)).kept HG5.out (.inr fun e => by have := (h.lt _ e).1; omega))
      obtain ⟨cells, hcl1, hcl2⟩ := hown5
      rw [HLK.out] at hcl1
      have hr5 : w5.ownsRow w1.heap.size 104 2 (.slice A3 n3 c4) n3 (flat week) := (HO4.out.drew).kept HG5.out (.inr fun e => by have := (HO4.out.lt _ e).1; omega)
      have HCL2 := Lib.hid hcl2
      have HR5 := Lib.hid hr5
      have HGT := Lib.hid (HGR.out.trans hgw)
      clear hcl2 hr5 hgw x0 hnq hnq2
      go_wp2_with (first
        | (at_builtin
           go_must (refine wpList_append_any _ rfl (.tmp 41) (.tmp 43) _ rfl w1.heap.size 34 i0 _ 4 48 Tryz.underlying37 hi0 hz0 hz1 hz2 rfl (by omega) (.slice A2 k c3) k cells (by rfl) (hcl1.alloc _) _ (some ⟨w5.heap.size, 0, none⟩) 1 1 [.int .i64 no, .slice A3 n3 c4, .int .i64 cost, .bool best] (by rfl) (lit_reads w5 _ 34 4 1 rfl) (fun u hu => by simp at hu; rcases hu with rfl | rfl | rfl | rfl <;> rfl) (by simp only [maxLen]; omega) (by omega) (by simp; omega) ?_)
           intro v9 w9 ho9 hg9 hb9
           obtain ⟨A9, c9, rfl⟩ := own_form ho9))
      have hg9' := grown_alloc_then hg9
      have hS : OwnV w9 w1.heap.size (.slice A9 (k + 1) c9) (vs.take (k + 1)) := by
        rw [HTK.out]
        have hcl1' : w5.ownsRow w1.heap.size 34 4 (.slice A2 k c3) (vs.take k).length cells := by rw [HLK.out]; exact hcl1
        exact OwnV.snoc (v := ⟨no, week, cost, best⟩) hcl1' HCL2.out HR5.out (by rw [HLK.out]; exact ho9) hg9'
      have hb9' : w9.heap[b]? = some (.cells #[.int .i64 ((s + (k + 1) : Nat) : Int)] 3 (0, 0)) := by
        have e : ((s + (k + 1) : Nat) : Int) = ((s + k : Nat) : Int) + 1 := by omega
        rw [e]
        exact grown_keep hg9' HB5.out (fun e => by have := (hcl1.lt _ e).1; omega)
      have hgf : w1.grownBy w9 (some b) := by
        have h0 := HGT.out
        exact ⟨hg9'.os.trans h0.os, hg9'.tape.trans h0.tape, hg9'.output.trans h0.output, Nat.le_trans h0.size hg9'.size, fun j hj hne => (hg9'.block j (Nat.lt_of_lt_of_le hj h0.size) (fun e => by have := (hcl1.lt j e.symm).1; omega)).trans (h0.block j hj hne)⟩
      have HS := Lib.hid hS
      have HB9 := Lib.hid hb9'
      have HGF := Lib.hid hgf
      clear hS hb9' hgf hg9 hg9' hb9 ho9 hcl1
      go_roundw
      case rel => exact ⟨k + 1, A9, c9, by omega, by go_num, rfl, HS.out, HB9.out, HGF.out⟩
      case measure => simp [intOf]; omega
    · obtain rfl : M = k := by omega
      have hfull : vs.take M = vs := List.take_of_length_le (by have := HM.out; omega)
      rw [hfull] at hown
      have HOWN := Lib.hid (hown.base (HB1.out.size))
      have HBR := Lib.hid hbr
      have HGF : Hid (w.grownBy wr (some b)) := Lib.hid ((below_grown (World.grownBy.refl _ _) HB1.out).trans hgr)
      clear hown hbr hgr hfull
      go_wp2_with (fail)
      go_ret2
      have h1 := HOWN.out
      have h2 := HBR.out
      rw [HM.out] at h1 h2
      exact ⟨A2, c3, by rw [HM.out]; rfl, h1, h2, HGF.out⟩
end Go.Proofs.YtpncejdamjbnlaaGreatDoor
end
section
namespace Go.Proofs.YtpncejdamjbnlaaGreatDoor
open Go.RowKit
abbrev Mv := Nat × Pl
instance : Flat Mv := ⟨3, fun m => [.int .i64 (m.1 : Int), .int .i64 m.2.1, .int .i64 m.2.2], fun _ => rfl, by decide, fun _ u hu => by simp at hu; rcases hu with rfl | rfl | rfl <;> rfl⟩
theorem mv_size : Flat.size Mv = 3 := rfl
theorem mv_info : (Tryz.prog.info? 158).map (fun i => (i.zero, i.size, i.bytes)) = some (some (.agg #[.int .i64 0, .int .i64 0, .int .i64 0]), 3, 24) := by kernel_rfl
theorem diff_snoc {P : Type} [DecidableEq P] : ∀ (xs bs : List P) (i : Nat) (a b : P), xs.length = bs.length → Feed.diff i (xs ++ [a]) (bs ++ [b]) = Feed.diff i xs bs ++ (if b = a then [] else [(i + xs.length, b)])
  | [], [], i, a, b, _ => by simp [Feed.diff]
  | [], _ :: _, _, _, _, h => by simp at h
  | _ :: _, [], _, _, _, h => by simp at h
  | x :: xs, y :: bs, i, a, b, h => by
    have hl : xs.length = bs.length := by simpa using h
    have ih := diff_snoc xs bs (i + 1) a b hl
    have e : i + 1 + xs.length = i + (xs.length + 1) := by omega
    simp only [List.cons_append, Feed.diff, ih, List.length_cons, e]
    split <;> simp
theorem diff_len {P : Type} [DecidableEq P] : ∀ (xs bs : List P) (i : Nat), (Feed.diff i xs bs).length ≤ xs.length
  | [], _, _ => by simp [Feed.diff]
  | _ :: _, [], _ => by simp [Feed.diff]
  | a :: xs, b :: bs, i => by
    have := diff_len xs bs (i + 1)
    simp only [Feed.diff]
    split <;> simp <;> omega
theorem diff_take {ps qs : List Pl} {k : Nat} {p q : Pl} (hp : ps[k]? = some p) (hq : qs[k]? = some q) : Feed.diff 0 (ps.take (k + 1)) (qs.take (k + 1)) = Feed.diff 0 (ps.take k) (qs.take k) ++ (if q = p then [] else [(k, q)]) := by
  have h1 := (List.getElem?_eq_some_iff.1 hp).1
  have h2 := (List.getElem?_eq_some_iff.1 hq).1
  rw [List.take_succ, List.take_succ, hp, hq]
  show Feed.diff 0 (ps.take k ++ [p]) (qs.take k ++ [q]) = _
  rw [diff_snoc _ _ _ _ _ (by simp; omega)]
  congr 2
  simp; omega
def RetDiff (w : World) (ms : List Mv) (e : Ending) (w' : World) : Prop := ∃ A n c, e = .returned (.tuple #[.slice A n c, .int .i64 0]) ∧ w'.ownsRow w.heap.size 158 3 (.slice A n c) n (flat ms) ∧ Below w.heap.size w w'
set_option maxHeartbeats 2000000 in
set_option maxRecDepth 100000 in
theorem diff_any (w : World) (n c c' : Nat) (A A' : Option Addr) (ps qs : List Pl) (hP : Arr w A n c ps) (hQ : Arr w A' n c' qs) (hn : n ≤ 64) :
    Calls Tryz.prog 33 #[.agg #[.slice A n c], .agg #[.slice A' n c']] w (RetDiff w (Feed.diff 0 ps qs)) := by
  obtain ⟨i0, hi0, hz0, hz1, hz2⟩ := info_parts' mv_info
  have HP := Lib.hid hP
  have HQ := Lib.hid hQ
  have HL := Lib.hid hP.len
  have HL' := Lib.hid hQ.len
  have hbb : Below w.heap.size w ((w.alloc (.cells #[.slice A n c] 32)).alloc (.cells #[.slice A' n c'] 32)) := below_then (alloc_lt _) (alloc_lt _)
  obtain ⟨hx, hy⟩ := two_boxes w (.slice A n c) (.slice A' n c') 32
  rw [show (w.alloc (.cells #[.slice A n c] 32)).heap.size = w.heap.size + 1 by simp] at hy
  have cap1 := hP.cap
  have cap2 := hQ.cap
  have max1 := hP.max
  have max2 := hQ.max
  unfold maxLen at max1 max2
  have HX := Lib.hid hx
  have HY := Lib.hid hy
  have HBB := Lib.hid hbb
  clear hP hQ hx hy hbb
  go_enter Tryz.func33, Tryz.ntmps33
  go_wp2_with (fail)
  go_loopw [4, 6, 7, 18] (fun v _ _ i wr => ∃ (k m : Nat) (A2 : Option Addr) (c2 : Nat), k ≤ n ∧ i = .int .i64 k ∧ v = .slice A2 m c2 ∧ wr.ownsRow (w.heap.size + 2) 158 3 (.slice A2 m c2) m (flat (Feed.diff 0 (ps.take k) (qs.take k))) ∧
    wr.heap[w.heap.size]? = some (.cells #[.slice A n c] 32 (0, 0)) ∧ wr.heap[w.heap.size + 1]? = some (.cells #[.slice A' n c'] 32 (0, 0)) ∧ Below w.heap.size w wr) (fun _ _ _ i _ => n - (intOf i).toNat)
  case atStart => exact ⟨0, 0, none, 0, Nat.zero_le _, rfl, rfl, World.ownsRow_nil _ _ _ _, HX.out, HY.out, HBB.out⟩
  case round =>
    obtain ⟨k, m, A2, c2, hk, rfl, rfl, hown, hbx, hby, hb⟩ := hrel
    by_cases hlt : k < n
    · obtain ⟨⟨p1, p2⟩, hp⟩ : ∃ p, ps[k]? = some p := ⟨_, List.getElem?_eq_getElem (by have := HL.out; omega)⟩
      obtain ⟨⟨q1, q2⟩, hq⟩ : ∃ p, qs[k]? = some p := ⟨_, List.getElem?_eq_getElem (by have := HL'.out; omega)⟩
      obtain ⟨ad, rfl, hadS, hc1, hc2⟩ := HP.out.pl hp
      obtain ⟨ad', rfl, hadS', hd1, hd2⟩ := HQ.out.pl hq
      have e3 := (hb.cell (p := ad'.add (k * 2)) (by rw [block_of_add]; exact hadS')).trans hd1
      have e4 := (hb.cell (p := ⟨(ad'.add (k * 2)).block, (ad'.add (k * 2)).off + 1, none⟩) (by show (ad'.add (k * 2)).block < _; rw [block_of_add]; exact hadS')).trans hd2
      dsimp only at e3 e4
      have hsz2 : w.heap.size + 1 < wr.heap.size := (Array.getElem?_eq_some_iff.1 hby).1
      have hdt := diff_take hp hq
      have hm := hown.1
      rw [flat_len, mv_size] at hm
      have hdl := diff_len (ps.take k) (qs.take k) 0
      have htl : (ps.take k).length ≤ 64 := by rw [List.length_take]; omega
      generalize Feed.diff 0 (ps.take k) (qs.take k) = D at *
      have hm64 : m ≤ 64 := by omega
      have HDT := Lib.hid hdt
      have HB := Lib.hid hb
      have HO := Lib.hid hown
      have HBX := Lib.hid hbx
      have HBY := Lib.hid hby
      have HC1 := Lib.hid ((hb.cell (p := ad.add (k * 2)) (by rw [block_of_add]; exact hadS)).trans hc1)
      have HC2 := Lib.hid ((hb.cell (p := ⟨(ad.add (k * 2)).block, (ad.add (k * 2)).off + 1, none⟩) (by show (ad.add (k * 2)).block < _; rw [block_of_add]; exact hadS)).trans hc2)
      have HAD : Hid (ad.block < wr.heap.size) := Lib.hid (Nat.lt_of_lt_of_le hadS hb.size)
      clear hp hq hadS hadS' hc1 hc2 hd1 hd2 hb hown hbx hby hdt hm hdl htl
      go_upto_region 23 with (fail)
      obtain ⟨W1, hW1⟩ : ∃ W1, W1 = (wr.alloc (Obj.cells #[Value.int IntKind.i64 q1, Value.int IntKind.i64 q2] 104)) := ⟨_, rfl⟩
      rw [← hW1]
      have hA : Below wr.heap.size wr W1 := by rw [hW1]; exact alloc_lt _
      have x12 := two_cells wr (.int .i64 q1) (.int .i64 q2) 104
      have x1 : W1.cell? ⟨wr.heap.size, 0, none⟩ = some (.int .i64 q1) := by rw [hW1]; exact x12.1
      have x2 : W1.cell? ⟨wr.heap.size, 1, none⟩ = some (.int .i64 q2) := by rw [hW1]; exact x12.2
      have k1 := cell_of_one ((hA.block _ (by omega)).trans HBX.out)
      have e1 := (hA.cell (p := ad.add (k * 2)) (by rw [block_of_add]; exact HAD.out)).trans HC1.out
      have e2 := (hA.cell (p := ⟨(ad.add (k * 2)).block, (ad.add (k * 2)).off + 1, none⟩) (by show (ad.add (k * 2)).block < _; rw [block_of_add]; exact HAD.out)).trans HC2.out
      have HA := Lib.hid hA
      clear hA hW1 x12 e3 e4
      by_cases hpq : (q1, q2) = (p1, p2)
      · injection hpq with ha hb
        subst ha hb
        rw [if_pos rfl, List.append_nil] at HDT
        go_quiet (fail)
        have HBD := Lib.hid (below_drewN HA.out nq)
        generalize W1.drewN nq = W2 at *
        clear x1 x2 k1 e1 e2
        go_wp2_with (fail)
        go_roundw
        case rel => exact ⟨k + 1, m, A2, c2, by omega, by go_num, rfl, by rw [HDT.out]; exact own_below HO.out HBD.out (Nat.le_refl _), (HBD.out.block _ (by omega)).trans HBX.out, (HBD.out.block _ (by omega)).trans HBY.out, HB.out.trans (HBD.out.mono HB.out.size)⟩
        case measure => simp [intOf]; omega
      · rw [if_neg hpq] at HDT
        by_cases h1 : q1 = p1
        · subst h1
          have h2 : q2 ≠ p2 := fun e => hpq (by rw [e])
          go_quiet (fail)
          have HBD := Lib.hid (below_drewN HA.out nq)
          have y1 : (W1.drewN nq).cell? ⟨wr.heap.size, 0, none⟩ = some (.int .i64 q1) := x1
          have y2 : (W1.drewN nq).cell? ⟨wr.heap.size, 1, none⟩ = some (.int .i64 q2) := x2
          have HO2 := Lib.hid (own_below HO.out HBD.out (Nat.le_refl _))
          generalize W1.drewN nq = W2 at *
          have hsz3 : wr.heap.size ≤ W2.heap.size := HBD.out.size
          clear x1 x2 k1 e1 e2 hpq HO
          go_wp2_with (first
            | (at_builtin
               go_must (refine wpList_append_any _ rfl (.tmp 30) (.tmp 34) _ rfl (w.heap.size + 2) 158 i0 _ 3 24 Tryz.underlying44 hi0 hz0 hz1 hz2 rfl (by omega) (.slice A2 m c2) m (flat D) (by rfl) (HO2.out.alloc _) _ (some ⟨W2.heap.size, 0, none⟩) 1 1 [.int .i64 k, .int .i64 q1, .int .i64 q2] (by rfl) (lit_reads W2 _ 158 3 1 rfl) (fun u hu => by simp at hu; rcases hu with rfl | rfl | rfl <;> rfl) (by simp only [maxLen]; omega) (by omega) (by simp; omega) ?_)
               intro v9 w9 ho9 hg9 hb9
               obtain ⟨A9, c9, rfl⟩ := own_form ho9))
          have hg9' := grown_alloc_then hg9
          have hne9 : ∀ b, b < w.heap.size + 2 → (Value.slice A2 m c2).ownBlock ≠ some b := fun b hb e => by have := (HO2.out.lt _ e).1; omega
          have bx : w9.heap[w.heap.size]? = some (.cells #[.slice (some ad) n c] 32 (0, 0)) := grown_keep hg9' ((HBD.out.block _ (by omega)).trans HBX.out) (hne9 _ (by omega))
          have by' : w9.heap[w.heap.size + 1]? = some (.cells #[.slice (some ad') n c'] 32 (0, 0)) := grown_keep hg9' ((HBD.out.block _ (by omega)).trans HBY.out) (hne9 _ (by omega))
          have hbw : Below w.heap.size w w9 := (HB.out.trans (HBD.out.mono HB.out.size)).grown hg9' (Nat.le_trans HB.out.size HBD.out.size) (fun b e => by have := (HO2.out.lt _ e).1; omega)
          have HF : Hid (w9.ownsRow (w.heap.size + 2) 158 3 (.slice A9 (m + 1) c9) (m + 1) (flat (D ++ [((k : Nat), ((q1, q2) : Pl))]))) := Lib.hid (by rw [flat_append]; exact ho9)
          have HX9 := Lib.hid bx
          have HY9 := Lib.hid by'
          have HW9 := Lib.hid hbw
          clear hg9 hg9' hb9 ho9 hne9 bx by' hbw
          go_roundw
          case rel => exact ⟨k + 1, m + 1, A9, c9, by omega, by go_num, rfl, by rw [HDT.out]; exact HF.out, HX9.out, HY9.out, HW9.out⟩
          case measure => simp [intOf]; omega
        · go_quiet (fail)
          have HBD := Lib.hid (below_drewN HA.out nq)
          have y1 : (W1.drewN nq).cell? ⟨wr.heap.size, 0, none⟩ = some (.int .i64 q1) := x1
          have y2 : (W1.drewN nq).cell? ⟨wr.heap.size, 1, none⟩ = some (.int .i64 q2) := x2
          have HO2 := Lib.hid (own_below HO.out HBD.out (Nat.le_refl _))
          generalize W1.drewN nq = W2 at *
          have hsz3 : wr.heap.size ≤ W2.heap.size := HBD.out.size
          clear x1 x2 k1 e1 e2 hpq HO
          go_wp2_with (first
            | (at_builtin
               go_must (refine wpList_append_any _ rfl (.tmp 30) (.tmp 34) _ rfl (w.heap.size + 2) 158 i0 _ 3 24 Tryz.underlying44 hi0 hz0 hz1 hz2 rfl (by omega) (.slice A2 m c2) m (flat D) (by rfl) (HO2.out.alloc _) _ (some ⟨W2.heap.size, 0, none⟩) 1 1 [.int .i64 k, .int .i64 q1, .int .i64 q2] (by rfl) (lit_reads W2 _ 158 3 1 rfl) (fun u hu => by simp at hu; rcases hu with rfl | rfl | rfl <;> rfl) (by simp only [maxLen]; omega) (by omega) (by simp; omega) ?_)
               intro v9 w9 ho9 hg9 hb9
               obtain ⟨A9, c9, rfl⟩ := own_form ho9))
          have hg9' := grown_alloc_then hg9
          have hne9 : ∀ b, b < w.heap.size + 2 → (Value.slice A2 m c2).ownBlock ≠ some b := fun b hb e => by have := (HO2.out.lt _ e).1; omega
          have bx : w9.heap[w.heap.size]? = some (.cells #[.slice (some ad) n c] 32 (0, 0)) := grown_keep hg9' ((HBD.out.block _ (by omega)).trans HBX.out) (hne9 _ (by omega))
          have by' : w9.heap[w.heap.size + 1]? = some (.cells #[.slice (some ad') n c'] 32 (0, 0)) := grown_keep hg9' ((HBD.out.block _ (by omega)).trans HBY.out) (hne9 _ (by omega))
          have hbw : Below w.heap.size w w9 := (HB.out.trans (HBD.out.mono HB.out.size)).grown hg9' (Nat.le_trans HB.out.size HBD.out.size) (fun b e => by have := (HO2.out.lt _ e).1; omega)
          have HF : Hid (w9.ownsRow (w.heap.size + 2) 158 3 (.slice A9 (m + 1) c9) (m + 1) (flat (D ++ [((k : Nat), ((q1, q2) : Pl))]))) := Lib.hid (by rw [flat_append]; exact ho9)
          have HX9 := Lib.hid bx
          have HY9 := Lib.hid by'
          have HW9 := Lib.hid hbw
          clear hg9 hg9' hb9 ho9 hne9 bx by' hbw
          go_roundw
          case rel => exact ⟨k + 1, m + 1, A9, c9, by omega, by go_num, rfl, by rw [HDT.out]; exact HF.out, HX9.out, HY9.out, HW9.out⟩
          case measure => simp [intOf]; omega
    · obtain rfl : n = k := by omega
      have e1 : ps.take n = ps := List.take_of_length_le (by have := HL.out; omega)
      have e2 : qs.take n = qs := List.take_of_length_le (by have := HL'.out; omega)
      rw [e1, e2] at hown
      have HO := Lib.hid (own_base hown (show w.heap.size ≤ w.heap.size + 2 by omega))
      have HB := Lib.hid hb
      clear hown hb e1 e2 hbx hby
      go_wp2_with (fail)
      go_ret2
      exact ⟨A2, m, c2, rfl, HO.out, HB.out⟩
end Go.Proofs.YtpncejdamjbnlaaGreatDoor
end
section
namespace Go.Proofs.YtpncejdamjbnlaaGreatDoor
open Go.RowKit
theorem Arr.mv {w : World} {A : Option Addr} {n c k : Nat} {ms : List Mv} {m : Mv} (h : Arr w A n c ms) (hx : ms[k]? = some m) : ∃ ad, A = some ad ∧ ad.block < w.heap.size ∧ w.cell? (ad.add (k * 3)) = some (.int .i64 (m.1 : Int)) ∧ w.cell? ⟨(ad.add (k * 3)).block, (ad.add (k * 3)).off + 1, none⟩ = some (.int .i64 m.2.1) ∧ w.cell? ⟨(ad.add (k * 3)).block, (ad.add (k * 3)).off + 2, none⟩ = some (.int .i64 m.2.2) := by
  obtain ⟨ad, e, hb, hc⟩ := h.at_ hx
  refine ⟨ad, e, hb, hc 0 _ rfl, ?_, ?_⟩
  · have e1 : (⟨(ad.add (k * 3)).block, (ad.add (k * 3)).off + 1, none⟩ : Addr) = (ad.add (k * 3)).add 1 := rfl
    rw [e1, add_of_add]
    exact hc 1 _ rfl
  · have e1 : (⟨(ad.add (k * 3)).block, (ad.add (k * 3)).off + 2, none⟩ : Addr) = (ad.add (k * 3)).add 2 := rfl
    rw [e1, add_of_add]
    exact hc 2 _ rfl
theorem flat_set : ∀ (xs : List Pl) (mi : Nat) (p : Pl), flat (xs.set mi p) = ((flat xs).set (mi * 2) (.int .i64 p.1)).set (mi * 2 + 1) (.int .i64 p.2)
  | [], _, _ => by simp [flat]
  | x :: xs, 0, p => by simp [flat, Flat.cells]
  | x :: xs, mi + 1, p => by
    have ih := flat_set xs mi p
    have e1 : flat ((x :: xs).set (mi + 1) p) = .int .i64 x.1 :: .int .i64 x.2 :: flat (xs.set mi p) := rfl
    have e2 : flat (x :: xs) = .int .i64 x.1 :: .int .i64 x.2 :: flat xs := rfl
    rw [e1, e2, ih, show (mi + 1) * 2 = mi * 2 + 1 + 1 by omega, show mi * 2 + 1 + 1 + 1 = (mi * 2 + 1) + 1 + 1 by omega]
    rfl
theorem own_set2 {w : World} {base g n cap mi : Nat} {xs : List Pl} {p : Pl} (h : w.ownsRow base 104 2 (.slice (some ⟨g, 0, none⟩) n cap) n (flat xs)) (hn : mi < n) :
    ((w.setCell ⟨g, mi * 2, none⟩ (.int .i64 p.1)).setCell ⟨g, mi * 2 + 1, none⟩ (.int .i64 p.2)).ownsRow base 104 2 (.slice (some ⟨g, 0, none⟩) n cap) n (flat (xs.set mi p)) ∧
      w.grownBy ((w.setCell ⟨g, mi * 2, none⟩ (.int .i64 p.1)).setCell ⟨g, mi * 2 + 1, none⟩ (.int .i64 p.2)) (some g) := by
  refine ⟨⟨?_, .inr ?_⟩, (setCell_grown _ _ _ _).trans (setCell_grown _ _ _ _)⟩
  · have := h.1; rw [flat_len] at this ⊢; rwa [List.length_set]
  · rcases h.2 with ⟨hv, h0⟩ | ⟨g', cap', cur, hv, hg, hh, h1, h2, h3, h4⟩
    · omega
    · injection hv with h5 h6 h7
      injection h5 with h5
      injection h5 with h5
      subst h5 h7
      refine ⟨g, cap, _, rfl, hg, one_put (one_put hh), h1, h2, by simpa using h3, ?_⟩
      rw [Array.toList_setIfInBounds, Array.toList_setIfInBounds, List.take_set, List.take_set, h4, flat_set]
def RetWeekOk (w : World) (ps : List Pl) (e : Ending) (w' : World) : Prop := ∃ A n c, e = .returned (.tuple #[.agg #[.slice A n c], .int .i64 0]) ∧ w'.ownsRow w.heap.size 104 2 (.slice A n c) n (flat ps) ∧ Below w.heap.size w w'
set_option maxHeartbeats 2000000 in
set_option maxRecDepth 100000 in
theorem apply_any (w : World) (n c n' c' : Nat) (A A' : Option Addr) (ps qs : List Pl) (ms : List Mv) (hP : Arr w A n c ps) (hQ : Arr w A' n' c' ms) (hn : n ≤ 64) (hn' : n' ≤ 64) (hap : Feed.apply (-1) ps ms = some qs) :
    Calls Tryz.prog 37 #[.agg #[.slice A n c], .slice A' n' c'] w (RetWeekOk w qs) := by
  have HQ := Lib.hid hQ
  have HL' := Lib.hid hQ.len
  have HAP := Lib.hid hap
  have HLP := Lib.hid hP.len
  obtain ⟨W0, hW0⟩ : ∃ W0, W0 = ((w.alloc (.cells #[.slice A n c] 32)).alloc (.cells #[.slice none 0 0] 32)) := ⟨_, rfl⟩
  have hbb : Below w.heap.size w W0 := by rw [hW0]; exact below_then (alloc_lt _) (alloc_lt _)
  obtain ⟨hx, hy⟩ := two_boxes w (.slice A n c) (.slice none 0 0) 32
  rw [show (w.alloc (.cells #[.slice A n c] 32)).heap.size = w.heap.size + 1 by simp] at hy
  rw [← hW0] at hx hy
  have cap1 := hP.cap
  have cap2 := hQ.cap
  have max1 := hP.max
  have max2 := hQ.max
  unfold maxLen at max1 max2
  have C1 := Lib.hid (clone_places W0 n c A ps (hP.belowLt hbb) (by omega))
  rw [hW0] at C1
  have HX := Lib.hid hx
  have HY := Lib.hid hy
  have HBB := Lib.hid hbb
  clear hP hQ hx hy hbb hap
  go_enter Tryz.func37, Tryz.ntmps37
  go_wp2_with (fail)
  (with_reducible refine C1.out.mono ?_)
  rintro e w1 ⟨A1, n1, c1, rfl, ho1, hb1⟩
  rw [← hW0] at ho1 hb1
  have hsz0 : W0.heap.size = w.heap.size + 2 := by rw [hW0]; simp
  rw [hsz0] at ho1
  obtain rfl : n1 = n := by have := (Arr.of_own ho1).len; rw [this]; exact HLP.out.symm
  have HO1 := Lib.hid ho1
  have HB1 := Lib.hid hb1
  clear ho1 hb1 C1 hW0
  go_wp2_with (fail)
  obtain ⟨W2, hW2⟩ : ∃ W2, W2 = ((w1.alloc (Obj.cells #[Value.slice none 0 0] 32)).setCell { block := w1.heap.size, off := 0 } (Value.slice A1 n1 c1)) := ⟨_, rfl⟩
  go_loopw [7, 9, 16] (fun l _ i wr => ∃ (k : Nat) (last : Int) (xs : List Pl), k ≤ n' ∧ -1 ≤ last ∧ i = .int .i64 k ∧ l = .int .i64 last ∧ xs.length = n1 ∧ Feed.apply last xs (ms.drop k) = some qs ∧ wr.ownsRow (w.heap.size + 2) 104 2 (.slice A1 n1 c1) n1 (flat xs) ∧
    wr.heap[w1.heap.size]? = some (.cells #[.slice A1 n1 c1] 32 (0, 0)) ∧ wr.heap[w.heap.size]? = some (.cells #[.slice A n1 c] 32 (0, 0)) ∧ wr.heap[w.heap.size + 1]? = some (.cells #[.slice none 0 0] 32 (0, 0)) ∧ Below w.heap.size w wr) (fun _ _ i _ => n' - (intOf i).toNat)
  case atStart =>
    have hA : Below w1.heap.size w1 (w1.alloc (Obj.cells #[Value.slice A1 n1 c1] 32)) := alloc_lt _
    have hs1 := HB1.out.size
    exact ⟨0, -1, ps, Nat.zero_le _, Int.le_refl _, rfl, rfl, HLP.out.symm, by rw [List.drop_zero]; exact HAP.out, own_below HO1.out hA (Nat.le_refl _), heap_alloc_new _ _, (hA.block _ (by omega)).trans ((HB1.out.block _ (by omega)).trans HX.out), (hA.block _ (by omega)).trans ((HB1.out.block _ (by omega)).trans HY.out), HBB.out.trans ((below_then HB1.out hA).mono (by omega))⟩
  case round =>
    obtain ⟨k, last, xs, hk, hlast, rfl, rfl, hxl, hap, hown, hbX, hbx, hby, hb⟩ := hrel
    by_cases hlt : k < n'
    · obtain ⟨⟨mi, q1, q2⟩, hm⟩ : ∃ p, ms[k]? = some p := ⟨_, List.getElem?_eq_getElem (by have := HL'.out; omega)⟩
      have hdr : ms.drop k = (mi, q1, q2) :: ms.drop (k + 1) := by rw [List.drop_eq_getElem?_toList_append, hm]; rfl
      rw [hdr] at hap
      simp only [Feed.apply] at hap
      split at hap
      · cases hap
      · rename_i hno
        have hmi1 : decide ((mi : Int) ≤ last) = false := by simp; omega
        have hmi2 : decide (n1 ≤ mi) = false := by simp; omega
        obtain ⟨adM, rfl, hadM, hc1, hc2, hc3⟩ := HQ.out.mv hm
        have e1 := (hb.cell (p := adM.add (k * 3)) (by rw [block_of_add]; exact hadM)).trans hc1
        have e2 := (hb.cell (p := ⟨(adM.add (k * 3)).block, (adM.add (k * 3)).off + 1, none⟩) (by show (adM.add (k * 3)).block < _; rw [block_of_add]; exact hadM)).trans hc2
        have e3 := (hb.cell (p := ⟨(adM.add (k * 3)).block, (adM.add (k * 3)).off + 2, none⟩) (by show (adM.add (k * 3)).block < _; rw [block_of_add]; exact hadM)).trans hc3
        dsimp only at e1 e2 e3
        have HAP2 := Lib.hid hap
        have HO := Lib.hid hown
        have HX' := Lib.hid hbX
        have HBX := Lib.hid hbx
        have HBY := Lib.hid hby
        have HB := Lib.hid hb
        have HNO : Hid (last < mi ∧ mi < n1) := Lib.hid (by omega)
        have HXL := Lib.hid hxl
        have HXX : Hid (w1.heap.size < wr.heap.size) := Lib.hid (Array.getElem?_eq_some_iff.1 hbX).1
        clear hdr hap hown hbX hbx hby hb hno hm hadM hc1 hc2 hc3 hxl
        obtain ⟨W3, hW3⟩ : ∃ W3, W3 = wr.alloc (Obj.cells #[Value.int IntKind.i64 mi, Value.int IntKind.i64 q1, Value.int IntKind.i64 q2] 158) := ⟨_, rfl⟩
        have hA : Below wr.heap.size wr W3 := by rw [hW3]; exact alloc_lt _
        have HA := Lib.hid hA
        have hk1 := cell_of_one ((hA.block _ (Array.getElem?_eq_some_iff.1 HBX.out).1).trans HBX.out)
        have hk2 := cell_of_one ((hA.block _ (Array.getElem?_eq_some_iff.1 HX'.out).1).trans HX'.out)
        rw [hW3] at hk1 hk2
        have hAs : ∃ g, A1 = some ⟨g, 0, none⟩ := by
          rcases HO.out.2 with ⟨hv, h0⟩ | ⟨g, cap, cur, hv, _⟩
          · have := HNO.out; omega
          · injection hv with h1; exact ⟨g, h1⟩
        obtain ⟨g, rfl⟩ := hAs
        have hmlt : mi < n1 := HNO.out.2
        have hcp := own_caps HO.out
        have hcp1 := hcp.1
        have hcp2 := hcp.2
        unfold maxLen at hcp2
        clear hcp
        have hrow : ∃ cap cur, wr.heap[g]? = some (.cells cur 104 (0, 0)) ∧ w.heap.size + 2 ≤ g ∧ n1 ≤ cap ∧ cap = c1 ∧ cur.size = cap * 2 ∧ cur.toList.take (n1 * 2) = flat xs := by
          rcases HO.out.2 with ⟨hv, h0⟩ | ⟨g', cap, cur, hv, hg, hh, h1, h2, h3, h4⟩
          · have := HNO.out; omega
          · injection hv with h5 h6 h7
            injection h5 with h5
            injection h5 with h5
            subst h5
            exact ⟨cap, cur, hh, hg, h1, h7.symm, h3, h4⟩
        obtain ⟨cap, cur, hgr, hgb, hcap1, rfl, hcs, hct⟩ := hrow
        have hgr3 := (hA.block _ (Array.getElem?_eq_some_iff.1 hgr).1).trans hgr
        rw [hW3] at hgr3
        have z1 : (wr.alloc (Obj.cells #[Value.int IntKind.i64 mi, Value.int IntKind.i64 q1, Value.int IntKind.i64 q2] 158)).cell? ⟨g, mi * 2, none⟩ = some (cur[mi * 2]'(by rw [hcs]; omega)) := by rw [cell_of_row _ _ _ _ _ _ hgr3]; simp
        have z2 : (wr.alloc (Obj.cells #[Value.int IntKind.i64 mi, Value.int IntKind.i64 q1, Value.int IntKind.i64 q2] 158)).cell? ⟨g, mi * 2 + 1, none⟩ = some (cur[mi * 2 + 1]'(by rw [hcs]; omega)) := by rw [cell_of_row _ _ _ _ _ _ hgr3]; simp
        have z3 : (wr.alloc (Obj.cells #[Value.int IntKind.i64 mi, Value.int IntKind.i64 q1, Value.int IntKind.i64 q2] 158)).frozen? ⟨g, mi * 2, none⟩ = false := by simp [World.frozen?, hgr3]
        have z4 : (wr.alloc (Obj.cells #[Value.int IntKind.i64 mi, Value.int IntKind.i64 q1, Value.int IntKind.i64 q2] 158)).frozen? ⟨g, mi * 2 + 1, none⟩ = false := by simp [World.frozen?, hgr3]
        have HGR := Lib.hid hgr
        have HGR3 := Lib.hid hgr3
        have HCT := Lib.hid hct
        have HCS := Lib.hid hcs
        have HGB := Lib.hid hgb
        generalize cur[mi * 2]'(by rw [hcs]; omega) = y1 at z1
        generalize cur[mi * 2 + 1]'(by rw [hcs]; omega) = y2 at z2
        clear hgr hgr3 hct hcs hgb hcap1
        go_wp2_with (fail)
        have hE := (own_set2 (mi := mi) (p := (q1, q2)) (own_below HO.out HA.out (Nat.le_refl _)) (HNO.out.2))
        rw [hW3] at hE
        dsimp only at hE
        have hgB := HGB.out
        have hne1 : w1.heap.size ≠ g := fun e => by have h1 := HX'.out; rw [e, HGR.out] at h1; injection h1 with h1; injection h1 with _ h2; exact absurd h2 (by decide)
        have hgw := (below_grown (World.grownBy.refl _ _) (by have := HA.out; rw [hW3] at this; exact this)).trans hE.2
        have HE1 := Lib.hid hE.1
        have HGW := Lib.hid hgw
        clear hE hgw
        generalize ((wr.alloc (Obj.cells #[Value.int IntKind.i64 mi, Value.int IntKind.i64 q1, Value.int IntKind.i64 q2] 158)).setCell ⟨g, mi * 2, none⟩ (Value.int IntKind.i64 q1)).setCell ⟨g, mi * 2 + 1, none⟩ (Value.int IntKind.i64 q2) = W9 at *
        go_roundw
        case rel => exact ⟨k + 1, mi, xs.set mi (q1, q2), by omega, by omega, by go_num, rfl, by rw [List.length_set]; exact HXL.out, HAP2.out, HE1.out, grown_keep HGW.out HX'.out (fun e => hne1 (by injection e with e; exact e.symm)), grown_keep HGW.out HBX.out (fun e => by injection e with e; omega), grown_keep HGW.out HBY.out (fun e => by injection e with e; omega), HB.out.grown HGW.out HB.out.size (fun b e => by injection e with e; omega)⟩
        case measure => simp [intOf]; omega
    · obtain rfl : n' = k := by omega
      rw [List.drop_of_length_le (by have := HL'.out; omega)] at hap
      simp only [Feed.apply] at hap
      injection hap with hap
      subst hap
      have k1 := cell_of_one hbX
      have k2 := cell_of_one hby
      have k3 := free_of_one hby
      have HO := Lib.hid hown
      have HBX := Lib.hid hbx
      have HBY := Lib.hid hby
      have HB := Lib.hid hb
      clear hown hbX hbx hby hb hxl
      have q0 : (wr.setCell ⟨w.heap.size + 1, 0, none⟩ (.slice A1 n1 c1)).cell? ⟨w.heap.size + 1, 0, none⟩ = some (.slice A1 n1 c1) := cell_of_one (one_setCell HBY.out)
      go_wp2_with (fail)
      refine bodyPost_ret (v := .tuple #[.agg #[.slice A1 n1 c1], .int .i64 0]) (by simp [results, Tryz.results37, go_sem, q0]) rfl ⟨A1, n1, c1, rfl, ?_, ?_⟩
      · exact own_base (ownsRow_setCell_other HO.out (own_other HO.out HBY.out (fun cs e => by injection e; rename_i e1 e2 e3; exact absurd e2 (by decide))) _) (by omega)
      · exact HB.out.setCell (by show w.heap.size ≤ w.heap.size + 1; omega) _
end Go.Proofs.YtpncejdamjbnlaaGreatDoor
end
