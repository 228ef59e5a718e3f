/-
  chalklineref19.Steps: it compares; chalklineref14.Few, chalklinelaw19.few: small enough?
-/
import Derived.Test.YtelgabamdhaplaaTrailCheck
import Derived.Deep.QuietTactic
import Derived.BigQuiet
namespace Go.Proofs.Ytelgabamdhaplaa
open Go.RowKit

set_option maxHeartbeats 2000000 in
theorem steps_eq (w : World) (n c n' c' : Nat) (A A' : Option Addr) (xs ys : List TStep) (h1 : Steps w A n c xs) (h2 : Steps w A' n' c' ys) :
    Calls Try.prog 16 #[.slice A n c, .slice A' n' c'] w (RetBoolBelow w (decide (xs = ys))) := by
  have hl1 := h1.len
  have hl2 := h2.len
  have hc1 := h1.cap
  have hc2 := h2.cap
  have hm1 := h1.max
  have hm2 := h2.max
  unfold maxLen at hm1 hm2
  have HI1 := Lib.hid h1
  have HI2 := Lib.hid h2
  clear h1 h2
  by_cases hne : n = n'
  case neg =>
    have hb : ((n : Int) != (n' : Int)) = true := by simp; omega
    have hd : decide (xs = ys) = false := by simp; intro e; rw [e] at hl1; omega
    rw [hd]
    clear hd hl1 hl2
    go_enter Try.func16, Try.ntmps16
    go_wp2
    go_ret
    exact ⟨rfl, Below.refl _ _⟩
  subst hne
  have hb : ((n : Int) != (n : Int)) = false := by simp
  have HL1 := Lib.hid hl1
  have HL2 := Lib.hid hl2
  clear hl1 hl2
  go_enter Try.func16, Try.ntmps16
  go_wp2
  clear hb
  go_loopw [5] (fun i wr => ∃ k : Nat, k ≤ n ∧ i = .int .i64 k ∧ xs.take k = ys.take k ∧ Below w.heap.size w wr) (fun i _ => n - (intOf i).toNat)
  case atStart => exact ⟨0, Nat.zero_le _, rfl, by simp, Below.refl _ _⟩
  case round =>
    obtain ⟨k, hk, rfl, ht, hbl⟩ := hrel
    have HT := Lib.hid ht
    clear ht
    by_cases hlt : k < n
    · obtain ⟨ad, rfl, hadS, hc1, hc2⟩ := HI1.out.at_ hlt
      obtain ⟨ad', rfl, hadS', hc3, hc4⟩ := HI2.out.at_ hlt
      have e1 := (hbl.cell (p := ad.add (k * 2)) (by rw [block_of_add]; exact hadS)).trans hc1
      have e2 := (hbl.cell (p := ⟨(ad.add (k * 2)).block, (ad.add (k * 2)).off + 1, none⟩) (by show (ad.add (k * 2)).block < _; rw [block_of_add]; exact hadS)).trans hc2
      have e3 := (hbl.cell (p := ad'.add (k * 2)) (by rw [block_of_add]; exact hadS')).trans hc3
      have e4 := (hbl.cell (p := ⟨(ad'.add (k * 2)).block, (ad'.add (k * 2)).off + 1, none⟩) (by show (ad'.add (k * 2)).block < _; rw [block_of_add]; exact hadS')).trans hc4
      have z1 : (0 : Int) ≤ (k : Int) := by omega
      have z2 : (k : Int) < (n : Int) := by omega
      clear hc1 hc2 hc3 hc4 hadS hadS'
      by_cases hxy : xs.getD k (0, 0) = ys.getD k (0, 0)
      · have HT2 := Lib.hid (take_snoc_eq (by have := HL1.out; omega) (by have := HL2.out; omega) HT.out hxy)
        rw [hxy] at e1 e2
        clear hxy
        generalize ys.getD k (0, 0) = y at *
        obtain ⟨y1, y2⟩ := y
        go_wp2
        go_quiet (fail)
        go_wp2
        go_roundw
        case rel => exact ⟨k + 1, by omega, by go_num, HT2.out, ⟨hbl.os, hbl.tape, hbl.output, hbl.size, hbl.block⟩⟩
        case measure => simp [intOf]; omega
      · have HD : Hid (decide (xs = ys) = false) := by show decide (xs = ys) = false; simp; intro e; exact hxy (by rw [e])
        generalize xs.getD k (0, 0) = x at *
        generalize ys.getD k (0, 0) = y at *
        obtain ⟨x1, x2⟩ := x
        obtain ⟨y1, y2⟩ := y
        by_cases h1 : x1 = y1
        · have h2 : (x2 == y2) = false := by simp; intro e; exact hxy (by rw [h1, e])
          subst h1
          clear hxy
          go_wp2
          go_quiet (fail)
          go_wp2
          go_ret
          exact ⟨by rw [HD.out]; rfl, ⟨hbl.os, hbl.tape, hbl.output, hbl.size, hbl.block⟩⟩
        · have h2 : (x1 == y1) = false := by simpa using h1
          clear hxy h1
          go_wp2
          go_quiet (fail)
          go_wp2
          go_ret
          exact ⟨by rw [HD.out]; rfl, ⟨hbl.os, hbl.tape, hbl.output, hbl.size, hbl.block⟩⟩
    · have HD : Hid (decide (xs = ys) = true) := by
        show decide (xs = ys) = true
        have h := HT.out
        rw [List.take_of_length_le (by have := HL1.out; omega), List.take_of_length_le (by have := HL2.out; omega)] at h
        simp [h]
      go_wp2
      go_ret
      exact ⟨by rw [HD.out]; rfl, hbl⟩

def RetFew (w : World) (n : Nat) (e : Ending) (w' : World) : Prop := ∃ b, e = .returned (.bool b) ∧ (b = true → n ≤ 200) ∧ Below w.heap.size w w'
set_option maxHeartbeats 2000000 in
theorem few14 (w : World) (A : Option Addr) (n c : Nat) (cs : List (List Int)) (hR : Rows2 w A n c cs) : Calls Try.prog 27 #[.slice A n c] w (RetFew w n) := by
  have hcap := hR.cap
  have hmax := hR.max
  unfold maxLen at hmax
  have HR := Lib.hid hR
  clear hR
  go_enter Try.func27, Try.ntmps27
  go_wp2
  go_loopw [3, 4] (fun v3 v4 wr => ∃ (k : Nat) (x : Int), k ≤ n ∧ k ≤ 200 ∧ v4 = .int .i64 k ∧ v3 = .int .i64 x ∧ w = wr) (fun _ v _ => n - (intOf v).toNat)
  case atStart => exact ⟨0, 0, Nat.zero_le _, by omega, rfl, rfl, rfl⟩
  case round =>
    obtain ⟨k, x, hk, hk2, rfl, rfl, rfl⟩ := hrel
    by_cases hlt : k < n
    · by_cases hlt2 : k < 200
      · obtain ⟨ad, A', n', c', rfl, _, hcl, hI⟩ := HR.out.at_ hlt
        have h1 := hI.cap
        have h2 := hI.max
        unfold maxLen at h2
        have hq : decide ((k : Int) < 200) = true := by simp; omega
        clear hI
        go_wp2
        go_roundw
        case rel => exact ⟨k + 1, _, by omega, by omega, by go_num, rfl, trivial⟩
        case measure => simp [intOf]; omega
      · have hq : decide ((k : Int) < 200) = false := by simp; omega
        by_cases hn : n ≤ 200
        · have hn' : decide ((n : Int) ≤ 200) = true := by simp; omega
          go_wp2
          go_ret
          exact ⟨_, rfl, fun _ => hn, Below.refl _ _⟩
        · have hn' : decide ((n : Int) ≤ 200) = false := by simp; omega
          go_wp2
          go_ret
          exact ⟨false, rfl, (fun h => by cases h), Below.refl _ _⟩
    · have hn : n ≤ 200 := by omega
      have hn' : decide ((n : Int) ≤ 200) = true := by simp; omega
      go_wp2
      go_ret
      exact ⟨_, rfl, fun _ => hn, Below.refl _ _⟩
def RetFew2 (w : World) (n m : Nat) (e : Ending) (w' : World) : Prop := ∃ b, e = .returned (.bool b) ∧ (b = true → n ≤ 200 ∧ m ≤ 60) ∧ Below w.heap.size w w'
set_option maxHeartbeats 2000000 in
theorem few19 (w : World) (N : Int) (A : Option Addr) (n c : Nat) (cs : List (List Int)) (A' : Option Addr) (m c' : Nat) (hR : Rows2 w A n c cs) :
    Calls Try.prog 12 #[.agg #[.int .i64 N, .slice A n c], .slice A' m c'] w (RetFew2 w n m) := by
  obtain ⟨W, hW⟩ : ∃ W, W = w.alloc (.cells #[.int .i64 N, .slice A n c] 24) := ⟨_, rfl⟩
  have hb : Below w.heap.size w W := by rw [hW]; exact alloc_lt _
  have b1 : W.heap[w.heap.size]? = some (.cells #[.int .i64 N, .slice A n c] 24 (0, 0)) := by rw [hW]; exact heap_alloc_new w _
  have call := few14 W A n c cs (hR.belowLt hb)
  have c1 : W.cell? ⟨w.heap.size, 1, none⟩ = some (.slice A n c) := by rw [cell_of_row _ _ _ _ _ _ b1]; rfl
  have HB := Lib.hid hb
  have CALL := Lib.hid call
  clear hR hb b1 call
  go_enter Try.func12, Try.ntmps12
  go_upto_region 1 with (fail)
  rw [← hW]
  clear hW
  go_wp2_with (fail)
  (with_reducible refine CALL.out.mono ?_)
  rintro e w1 ⟨b, rfl, hbn, hb1⟩
  have HBN := Lib.hid hbn
  have HB1 := Lib.hid hb1
  clear hbn hb1
  cases b
  · go_wp2
    go_ret
    exact ⟨false, rfl, (fun h => by cases h), below_then HB.out HB1.out⟩
  · by_cases hm : m ≤ 60
    · have hm' : decide ((m : Int) ≤ 60) = true := by simp; omega
      go_wp2
      go_ret
      exact ⟨true, rfl, fun h => ⟨HBN.out (by simp), hm⟩, below_then HB.out HB1.out⟩
    · have hm' : decide ((m : Int) ≤ 60) = false := by simp; omega
      go_wp2
      go_ret
      exact ⟨false, rfl, (fun h => by cases h), below_then HB.out HB1.out⟩
end Go.Proofs.Ytelgabamdhaplaa
