/-
  chalklineref16.Same: it compares.
-/
import Derived.Test.YtanbkdfffojpnaaBase
import Derived.Test.YtanbkdfffojpnaaSpec16
import Derived.BigQuiet
import Derived.Deep.QuietTactic
namespace Go.Proofs.Ytanbkdfffojpnaa
open Go.RowKit

set_option maxHeartbeats 2000000 in
set_option maxRecDepth 100000 in
theorem same_any (w : World) (n c n' c' : Nat) (A A' : Option Addr) (xs ys : List (List Int)) (h1 : Rows2 w A n c xs) (h2 : Rows2 w A' n' c' ys) :
    Calls Try.prog 15 #[.slice A n c, .slice A' n' c'] w (RetBoolBelow w (decide (xs = ys))) := by
  have hl1 := h1.len
  have hl2 := h2.len
  have hc1 := h1.cap
  have hc2 := h2.cap
  have hm1 := h1.max
  have hm2 := h2.max
  unfold maxLen at hm1 hm2
  have HI1 := Lib.hid h1
  have HI2 := Lib.hid h2
  clear h1 h2
  by_cases hne : n = n'
  case neg =>
    have hb : ((n : Int) != (n' : Int)) = true := by simp; omega
    have hd : decide (xs = ys) = false := by simp; intro e; rw [e] at hl1; omega
    rw [hd]
    clear hd hl1 hl2
    go_enter Try.func15, Try.ntmps15
    go_wp2
    go_ret
    exact ⟨rfl, Below.refl _ _⟩
  subst hne
  have hb : ((n : Int) != (n : Int)) = false := by simp
  have HL1 := Lib.hid hl1
  have HL2 := Lib.hid hl2
  clear hl1 hl2
  go_enter Try.func15, Try.ntmps15
  go_wp2
  clear hb
  go_loopw [14] (fun i wr => ∃ k : Nat, k ≤ n ∧ i = .int .i64 k ∧ xs.take k = ys.take k ∧ Below w.heap.size w wr) (fun i _ => n - (intOf i).toNat)
  case atStart => exact ⟨0, Nat.zero_le _, rfl, by simp, Below.refl _ _⟩
  case round =>
    obtain ⟨k, hk, rfl, ht, hbl⟩ := hrel
    have HT := Lib.hid ht
    clear ht
    by_cases hlt : k < n
    case neg =>
      have HD : Hid (decide (xs = ys) = true) := by
        show decide (xs = ys) = true
        have h := HT.out
        rw [List.take_of_length_le (by have := HL1.out; omega), List.take_of_length_le (by have := HL2.out; omega)] at h
        simp [h]
      go_wp2
      go_ret
      exact ⟨by rw [HD.out]; rfl, hbl⟩
    obtain ⟨ad, B1, m1, k1, rfl, hadS, hcell, hr1⟩ := HI1.out.at_ hlt
    obtain ⟨ad', B2, m2, k2, rfl, hadS', hcell', hr2⟩ := HI2.out.at_ hlt
    have e1 := (hbl.cell (p := ad.add k) (by rw [block_of_add]; exact hadS)).trans hcell
    have e2 := (hbl.cell (p := ad'.add k) (by rw [block_of_add]; exact hadS')).trans hcell'
    have z1 : (0 : Int) ≤ (k : Int) := by omega
    have z2 : (k : Int) < (n : Int) := by omega
    have b1 := hr1.cap
    have b2 := hr2.cap
    have b3 := hr1.max
    have b4 := hr2.max
    unfold maxLen at b3 b4
    have HR1 := Lib.hid hr1
    have HR2 := Lib.hid hr2
    have E1 := Lib.hid hcell
    have E2 := Lib.hid hcell'
    have S1 := Lib.hid hadS
    have S2 := Lib.hid hadS'
    have L1 : Hid (m1 = (xs.getD k []).length) := hr1.len
    have L2 : Hid (m2 = (ys.getD k []).length) := hr2.len
    clear hcell hcell' hadS hadS' hr1 hr2
    by_cases hmm : m1 = m2
    case neg =>
      have hq : ((m1 : Int) != (m2 : Int)) = true := by simp; omega
      have HD : Hid (decide (xs = ys) = false) := by
        show decide (xs = ys) = false
        simp
        intro e
        subst e
        exact hmm (L1.out.trans L2.out.symm)
      go_wp2
      go_quiet (fail)
      go_wp2
      go_ret
      exact ⟨by rw [HD.out]; rfl, ⟨hbl.os, hbl.tape, hbl.output, hbl.size, hbl.block⟩⟩
    subst hmm
    have hq : ((m1 : Int) != (m1 : Int)) = false := by simp
    have hbd : Below w.heap.size w wr.drew := hbl.drew
    obtain ⟨wo, rfl⟩ : ∃ wo : World, wo = wr := ⟨_, rfl⟩
    have dk : decide (k < n) = true := by simp; omega
    go_wp2
    go_quiet (fail)
    go_wp2
    go_loopw [33] (fun i wy => ∃ j : Nat, j ≤ m1 ∧ i = .int .i64 j ∧ (xs.getD k []).take j = (ys.getD k []).take j ∧ Below w.heap.size w wy) (fun i _ => m1 - (intOf i).toNat)
    case atStart => exact ⟨0, Nat.zero_le _, rfl, by simp, ⟨hbl.os, hbl.tape, hbl.output, hbl.size, hbl.block⟩⟩
    case round =>
      obtain ⟨j, hj, rfl, htj, hbj⟩ := hrel
      clear e1 e2 hbl hbd
      have HTJ := Lib.hid htj
      clear htj
      by_cases hjl : j < m1
      case neg =>
        have he : xs.getD k [] = ys.getD k [] := by
          have h := HTJ.out
          rwa [List.take_of_length_le (by have := L1.out; omega), List.take_of_length_le (by have := L2.out; omega)] at h
        have HT2 := Lib.hid (take_snoc_eq (by have := HL1.out; omega) (by have := HL2.out; omega) HT.out he)
        clear he
        go_wp2
        go_roundw
        case rel => exact ⟨k + 1, by omega, by go_num, HT2.out, hbj⟩
        case measure => simp [intOf]; omega
      obtain ⟨ae, rfl, haeS, hce⟩ := HR1.out.at_ hjl
      obtain ⟨ae', rfl, haeS', hce'⟩ := HR2.out.at_ hjl
      have f1 := (hbj.cell (p := ad.add k) (by rw [block_of_add]; exact S1.out)).trans E1.out
      have f2 := (hbj.cell (p := ad'.add k) (by rw [block_of_add]; exact S2.out)).trans E2.out
      have f3 := (hbj.cell (p := ae.add j) (by rw [block_of_add]; exact haeS)).trans hce
      have f4 := (hbj.cell (p := ae'.add j) (by rw [block_of_add]; exact haeS')).trans hce'
      have y1 : (0 : Int) ≤ (j : Int) := by omega
      have y2 : (j : Int) < (m1 : Int) := by omega
      clear hce hce' haeS haeS'
      by_cases hxy : (xs.getD k []).getD j 0 = (ys.getD k []).getD j 0
      · have hqq : ((xs.getD k []).getD j 0 != (ys.getD k []).getD j 0) = false := by simpa using hxy
        have HT2 := Lib.hid (take_snoc_eq (by have := L1.out; omega) (by have := L2.out; omega) HTJ.out hxy)
        clear hxy
        generalize (xs.getD k []).getD j 0 = x at *
        generalize (ys.getD k []).getD j 0 = y at *
        go_wp2
        go_quiet (fail)
        go_wp2
        go_roundw
        case rel => exact ⟨j + 1, by omega, by go_num, HT2.out, ⟨hbj.os, hbj.tape, hbj.output, hbj.size, hbj.block⟩⟩
        case measure => simp [intOf]; omega
      · have hqq : ((xs.getD k []).getD j 0 != (ys.getD k []).getD j 0) = true := by simpa using hxy
        have HD : Hid (decide (xs = ys) = false) := by show decide (xs = ys) = false; simp; intro e; exact hxy (by rw [e])
        clear hxy
        generalize (xs.getD k []).getD j 0 = x at *
        generalize (ys.getD k []).getD j 0 = y at *
        go_wp2
        go_quiet (fail)
        go_wp2
        go_ret
        exact ⟨by rw [HD.out]; rfl, ⟨hbj.os, hbj.tape, hbj.output, hbj.size, hbj.block⟩⟩
end Go.Proofs.Ytanbkdfffojpnaa
