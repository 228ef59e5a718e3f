/-
  chalklineref15.Ints and Clauses: they compare.
-/
import Derived.Test.YtohffgggogdgmaaTotal
namespace Go.Proofs.Ytohffgggogdgmaa
open Go.RowKit

set_option maxHeartbeats 1000000 in
theorem ints_eq (w : World) (n c n' c' : Nat) (A A' : Option Addr) (xs ys : List Int) (h1 : Ints w (Lt w) A n c xs) (h2 : Ints w (Lt w) A' n' c' ys) :
    Calls Try.prog 13 #[.slice A n c, .slice A' n' c'] w (RetBoolBelow w (decide (xs = ys))) := by
  have hl1 := h1.len
  have hl2 := h2.len
  have hc1 := h1.cap
  have hc2 := h2.cap
  have hm1 := h1.max
  have hm2 := h2.max
  unfold maxLen at hm1 hm2
  have HI1 := Lib.hid h1
  have HI2 := Lib.hid h2
  clear h1 h2
  by_cases hne : n = n'
  case neg =>
    have hb : ((n : Int) != (n' : Int)) = true := by simp; omega
    have hd : decide (xs = ys) = false := by simp; intro e; rw [e] at hl1; omega
    rw [hd]
    clear hd hl1 hl2
    go_enter Try.func13, Try.ntmps13
    go_wp2
    go_ret
    exact ⟨rfl, Below.refl _ _⟩
  subst hne
  have hb : ((n : Int) != (n : Int)) = false := by simp
  have HL1 := Lib.hid hl1
  have HL2 := Lib.hid hl2
  clear hl1 hl2
  go_enter Try.func13, Try.ntmps13
  go_wp2
  clear hb
  go_loopw [5] (fun i wr => ∃ k : Nat, k ≤ n ∧ i = .int .i64 k ∧ xs.take k = ys.take k ∧ Below w.heap.size w wr) (fun i _ => n - (intOf i).toNat)
  case atStart => exact ⟨0, Nat.zero_le _, rfl, by simp, Below.refl _ _⟩
  case round =>
    obtain ⟨k, hk, rfl, ht, hbl⟩ := hrel
    have HT := Lib.hid ht
    clear ht
    by_cases hlt : k < n
    · obtain ⟨ad, rfl, hadS, hcell⟩ := HI1.out.at_ hlt
      obtain ⟨ad', rfl, hadS', hcell'⟩ := HI2.out.at_ hlt
      have e1 := (hbl.cell (p := ad.add k) (by rw [block_of_add]; exact hadS)).trans hcell
      have e2 := (hbl.cell (p := ad'.add k) (by rw [block_of_add]; exact hadS')).trans hcell'
      have z1 : (0 : Int) ≤ (k : Int) := by omega
      have z2 : (k : Int) < (n : Int) := by omega
      clear hcell hcell' hadS hadS'
      by_cases hxy : xs.getD k 0 = ys.getD k 0
      · have hq : (xs.getD k 0 != ys.getD k 0) = false := by simpa using hxy
        have HT2 := Lib.hid (take_snoc_eq (by have := HL1.out; omega) (by have := HL2.out; omega) HT.out hxy)
        clear hxy
        generalize xs.getD k 0 = x at *
        generalize ys.getD k 0 = y at *
        go_wp2
        go_quiet (fail)
        go_wp2
        go_roundw
        case rel => exact ⟨k + 1, by omega, by go_num, HT2.out, ⟨hbl.os, hbl.tape, hbl.output, hbl.size, hbl.block⟩⟩
        case measure => simp [intOf]; omega
      · have hq : (xs.getD k 0 != ys.getD k 0) = true := by simpa using hxy
        have HD : Hid (decide (xs = ys) = false) := by show decide (xs = ys) = false; simp; intro e; exact hxy (by rw [e])
        clear hxy
        generalize xs.getD k 0 = x at *
        generalize ys.getD k 0 = y at *
        go_wp2
        go_quiet (fail)
        go_wp2
        go_ret
        exact ⟨by rw [HD.out]; rfl, ⟨hbl.os, hbl.tape, hbl.output, hbl.size, hbl.block⟩⟩
    · have HD : Hid (decide (xs = ys) = true) := by
        show decide (xs = ys) = true
        have h := HT.out
        rw [List.take_of_length_le (by have := HL1.out; omega), List.take_of_length_le (by have := HL2.out; omega)] at h
        simp [h]
      go_wp2
      go_ret
      exact ⟨by rw [HD.out]; rfl, hbl⟩

set_option maxHeartbeats 1000000 in
theorem clauses_eq (w : World) (n c n' c' : Nat) (A A' : Option Addr) (xs ys : List (List Int)) (h1 : Rows2 w A n c xs) (h2 : Rows2 w A' n' c' ys) :
    Calls Try.prog 14 #[.slice A n c, .slice A' n' c'] w (RetBoolBelow w (decide (xs = ys))) := by
  have hl1 := h1.len
  have hl2 := h2.len
  have hc1 := h1.cap
  have hc2 := h2.cap
  have hm1 := h1.max
  have hm2 := h2.max
  unfold maxLen at hm1 hm2
  have HI1 := Lib.hid h1
  have HI2 := Lib.hid h2
  clear h1 h2
  by_cases hne : n = n'
  case neg =>
    have hb : ((n : Int) != (n' : Int)) = true := by simp; omega
    have hd : decide (xs = ys) = false := by simp; intro e; rw [e] at hl1; omega
    rw [hd]
    clear hd hl1 hl2
    go_enter Try.func14, Try.ntmps14
    go_wp2
    go_ret
    exact ⟨rfl, Below.refl _ _⟩
  subst hne
  have hb : ((n : Int) != (n : Int)) = false := by simp
  have HL1 := Lib.hid hl1
  have HL2 := Lib.hid hl2
  clear hl1 hl2
  go_enter Try.func14, Try.ntmps14
  go_wp2
  clear hb
  go_loopw [5] (fun i wr => ∃ k : Nat, k ≤ n ∧ i = .int .i64 k ∧ xs.take k = ys.take k ∧ Below w.heap.size w wr) (fun i _ => n - (intOf i).toNat)
  case atStart => exact ⟨0, Nat.zero_le _, rfl, by simp, Below.refl _ _⟩
  case round =>
    obtain ⟨k, hk, rfl, ht, hbl⟩ := hrel
    have HT := Lib.hid ht
    clear ht
    by_cases hlt : k < n
    · obtain ⟨ad, B1, m1, k1, rfl, hadS, hcell, hr1⟩ := HI1.out.at_ hlt
      obtain ⟨ad', B2, m2, k2, rfl, hadS', hcell', hr2⟩ := HI2.out.at_ hlt
      have e1 := (hbl.cell (p := ad.add k) (by rw [block_of_add]; exact hadS)).trans hcell
      have e2 := (hbl.cell (p := ad'.add k) (by rw [block_of_add]; exact hadS')).trans hcell'
      have z1 : (0 : Int) ≤ (k : Int) := by omega
      have z2 : (k : Int) < (n : Int) := by omega
      have hbd : Below w.heap.size w wr.drew := hbl.drew
      have call := ints_eq wr.drew m1 k1 m2 k2 B1 B2 _ _ (hr1.belowLt hbd) (hr2.belowLt hbd)
      have d1 : (ad.add k).block < wr.heap.size := by rw [block_of_add]; exact Nat.lt_of_lt_of_le hadS hbl.size
      have d2 : (ad'.add k).block < wr.heap.size := by rw [block_of_add]; exact Nat.lt_of_lt_of_le hadS' hbl.size
      clear hcell hcell' hadS hadS' hr1 hr2
      by_cases hxy : xs.getD k [] = ys.getD k []
      · have hq : decide (xs.getD k [] = ys.getD k []) = true := by simpa using hxy
        rw [hq] at call
        have CALL := Lib.hid call
        have HT2 := Lib.hid (take_snoc_eq (by have := HL1.out; omega) (by have := HL2.out; omega) HT.out hxy)
        clear hxy hq call
        go_wp2
        go_region_held3 (fun w' => w'.cell? (ad.add k) = some (.slice B1 m1 k1) ∧ w'.cell? (ad'.add k) = some (.slice B2 m2 k2)) (first | (exact ⟨f1, f2⟩) | (exact ⟨e1, e2⟩) | go_keep)
          (first | (go_at_call 13; (with_reducible refine CALL.out.mono ?_); rintro e w1 ⟨rfl, hb1⟩; have f1 := (hb1.cell (p := ad.add k) d1).trans e1; have f2 := (hb1.cell (p := ad'.add k) d2).trans e2))
        go_wp2
        go_roundw
        case rel => exact ⟨k + 1, by omega, by go_num, HT2.out, hbd.trans (hb1.mono hbl.size)⟩
        case measure => simp [intOf]; omega
      · have hq : decide (xs.getD k [] = ys.getD k []) = false := by simpa using hxy
        have HD : Hid (decide (xs = ys) = false) := by show decide (xs = ys) = false; simp; intro e; exact hxy (by rw [e])
        rw [hq] at call
        have CALL := Lib.hid call
        clear hxy hq call
        go_wp2
        go_region_held3 (fun w' => w'.cell? (ad.add k) = some (.slice B1 m1 k1) ∧ w'.cell? (ad'.add k) = some (.slice B2 m2 k2)) (first | (exact ⟨f1, f2⟩) | (exact ⟨e1, e2⟩) | go_keep)
          (first | (go_at_call 13; (with_reducible refine CALL.out.mono ?_); rintro e w1 ⟨rfl, hb1⟩; have f1 := (hb1.cell (p := ad.add k) d1).trans e1; have f2 := (hb1.cell (p := ad'.add k) d2).trans e2))
        go_wp2
        go_ret
        exact ⟨by rw [HD.out]; rfl, hbd.trans (hb1.mono hbl.size)⟩
    · have HD : Hid (decide (xs = ys) = true) := by
        show decide (xs = ys) = true
        have h := HT.out
        rw [List.take_of_length_le (by have := HL1.out; omega), List.take_of_length_le (by have := HL2.out; omega)] at h
        simp [h]
      go_wp2
      go_ret
      exact ⟨by rw [HD.out]; rfl, hbl⟩
end Go.Proofs.Ytohffgggogdgmaa
