/-
  chalklineref14: Ints, Has, Is, Check.
-/
import Derived.Test.YtelgabamdhaplaaTrailCheck
import Derived.Deep.QuietTactic
import Derived.BigQuiet
namespace Go.Proofs.Ytelgabamdhaplaa
open Go.RowKit

set_option maxHeartbeats 1000000 in
theorem ints_eq (w : World) (n c n' c' : Nat) (A A' : Option Addr) (xs ys : List Int) (h1 : Ints w (Lt w) A n c xs) (h2 : Ints w (Lt w) A' n' c' ys) :
    Calls Try.prog 13 #[.slice A n c, .slice A' n' c'] w (RetBoolBelow w (decide (xs = ys))) := by
  have hl1 := h1.len
  have hl2 := h2.len
  have hc1 := h1.cap
  have hc2 := h2.cap
  have hm1 := h1.max
  have hm2 := h2.max
  unfold maxLen at hm1 hm2
  have HI1 := Lib.hid h1
  have HI2 := Lib.hid h2
  clear h1 h2
  by_cases hne : n = n'
  case neg =>
    have hb : ((n : Int) != (n' : Int)) = true := by simp; omega
    have hd : decide (xs = ys) = false := by simp; intro e; rw [e] at hl1; omega
    rw [hd]
    clear hd hl1 hl2
    go_enter Try.func13, Try.ntmps13
    go_wp2
    go_ret
    exact ⟨rfl, Below.refl _ _⟩
  subst hne
  have hb : ((n : Int) != (n : Int)) = false := by simp
  have HL1 := Lib.hid hl1
  have HL2 := Lib.hid hl2
  clear hl1 hl2
  go_enter Try.func13, Try.ntmps13
  go_wp2
  clear hb
  go_loopw [5] (fun i wr => ∃ k : Nat, k ≤ n ∧ i = .int .i64 k ∧ xs.take k = ys.take k ∧ Below w.heap.size w wr) (fun i _ => n - (intOf i).toNat)
  case atStart => exact ⟨0, Nat.zero_le _, rfl, by simp, Below.refl _ _⟩
  case round =>
    obtain ⟨k, hk, rfl, ht, hbl⟩ := hrel
    have HT := Lib.hid ht
    clear ht
    by_cases hlt : k < n
    · obtain ⟨ad, rfl, hadS, hcell⟩ := HI1.out.at_ hlt
      obtain ⟨ad', rfl, hadS', hcell'⟩ := HI2.out.at_ hlt
      have e1 := (hbl.cell (p := ad.add k) (by rw [block_of_add]; exact hadS)).trans hcell
      have e2 := (hbl.cell (p := ad'.add k) (by rw [block_of_add]; exact hadS')).trans hcell'
      have z1 : (0 : Int) ≤ (k : Int) := by omega
      have z2 : (k : Int) < (n : Int) := by omega
      clear hcell hcell' hadS hadS'
      by_cases hxy : xs.getD k 0 = ys.getD k 0
      · have hq : (xs.getD k 0 != ys.getD k 0) = false := by simpa using hxy
        have HT2 := Lib.hid (take_snoc_eq (by have := HL1.out; omega) (by have := HL2.out; omega) HT.out hxy)
        clear hxy
        generalize xs.getD k 0 = x at *
        generalize ys.getD k 0 = y at *
        go_wp2
        go_quiet (fail)
        go_wp2
        go_roundw
        case rel => exact ⟨k + 1, by omega, by go_num, HT2.out, ⟨hbl.os, hbl.tape, hbl.output, hbl.size, hbl.block⟩⟩
        case measure => simp [intOf]; omega
      · have hq : (xs.getD k 0 != ys.getD k 0) = true := by simpa using hxy
        have HD : Hid (decide (xs = ys) = false) := by show decide (xs = ys) = false; simp; intro e; exact hxy (by rw [e])
        clear hxy
        generalize xs.getD k 0 = x at *
        generalize ys.getD k 0 = y at *
        go_wp2
        go_quiet (fail)
        go_wp2
        go_ret
        exact ⟨by rw [HD.out]; rfl, ⟨hbl.os, hbl.tape, hbl.output, hbl.size, hbl.block⟩⟩
    · have HD : Hid (decide (xs = ys) = true) := by
        show decide (xs = ys) = true
        have h := HT.out
        rw [List.take_of_length_le (by have := HL1.out; omega), List.take_of_length_le (by have := HL2.out; omega)] at h
        simp [h]
      go_wp2
      go_ret
      exact ⟨by rw [HD.out]; rfl, hbl⟩


theorem mem_snoc {xs : List Int} {k : Nat} {x : Int} (hk : k < xs.length) (h0 : x ∉ xs.take k) (h1 : xs.getD k 0 ≠ x) : x ∉ xs.take (k + 1) := by
  rw [List.take_succ_eq_append_getElem hk]
  rw [List.getD_eq_getElem?_getD, List.getElem?_eq_getElem hk] at h1
  simp at h1
  intro h
  rcases List.mem_append.1 h with h | h
  · exact h0 h
  · simp at h; exact h1 h.symm

set_option maxHeartbeats 1000000 in
theorem has_any (w : World) (n c : Nat) (A : Option Addr) (xs : List Int) (x : Int) (h1 : Ints w (Lt w) A n c xs) :
    Calls Try.prog 29 #[.slice A n c, .int .i64 x] w (RetBoolSame w (decide (x ∈ xs))) := by
  have hc1 := h1.cap
  have hm1 := h1.max
  unfold maxLen at hm1
  have HL := Lib.hid h1.len
  have HI := Lib.hid h1
  clear h1
  go_enter Try.func29, Try.ntmps29
  go_wp2
  go_loopw [5] (fun i wr => ∃ k : Nat, k ≤ n ∧ i = .int .i64 k ∧ x ∉ xs.take k ∧ w = wr) (fun i _ => n - (intOf i).toNat)
  case atStart => exact ⟨0, Nat.zero_le _, rfl, by simp, rfl⟩
  case round =>
    obtain ⟨k, hk, rfl, ht, rfl⟩ := hrel
    have HT := Lib.hid ht
    clear ht
    by_cases hlt : k < n
    · obtain ⟨ad, rfl, hadS, hcell⟩ := HI.out.at_ hlt
      by_cases hxy : xs.getD k 0 = x
      · have hq : (xs.getD k 0 == x) = true := by simpa using hxy
        have HD : Hid (decide (x ∈ xs) = true) := by
          show decide (x ∈ xs) = true
          simp only [decide_eq_true_eq]
          rw [← hxy, List.getD_eq_getElem?_getD, List.getElem?_eq_getElem (by have := HL.out; omega)]; simp
        clear hxy hadS
        generalize xs.getD k 0 = y at *
        go_wp2
        go_ret
        exact ⟨by rw [HD.out]; rfl, rfl⟩
      · have hq : (xs.getD k 0 == x) = false := by simpa using hxy
        have HN := Lib.hid (mem_snoc (by have := HL.out; omega) HT.out hxy)
        clear hxy hadS
        generalize xs.getD k 0 = y at *
        go_wp2
        go_roundw
        case rel => exact ⟨k + 1, by omega, by go_num, HN.out, trivial⟩
        case measure => simp [intOf]; omega
    · have HD : Hid (decide (x ∈ xs) = false) := by
        show decide (x ∈ xs) = false
        have := HT.out
        rw [List.take_of_length_le (by have := HL.out; omega)] at this
        simpa using this
      go_wp2
      go_ret
      exact ⟨by rw [HD.out]; rfl, rfl⟩

set_option maxHeartbeats 1000000 in
theorem is_any (w : World) (x n : Int) (h0 : 0 ≤ n) (h1 : n ≤ 65536) : Calls Try.prog 39 #[.int .i64 x, .int .i64 n] w (RetBoolSame w (mayB x n)) := by
  have hw : IntKind.i64.wrap (-n) = -n := IntWalk.i64_in _ (by omega)
  have hw' : IntKind.i64.wrap (0 - n) = -n := by rw [show (0 : Int) - n = -n by omega]; exact hw
  have hm : mayB x n = ((x != 0) && decide (-n ≤ x) && decide (x ≤ n)) := by
    unfold mayB
    rw [Bool.eq_iff_iff]
    simp
    omega
  rw [hm]
  clear hm
  by_cases g1 : x = 0
  · have q1 : (x != 0) = false := by simpa using g1
    rw [q1]
    clear g1
    go_enter Try.func39, Try.ntmps39
    go_wp2
    go_ret
    exact ⟨rfl, rfl⟩
  have q1 : (x != 0) = true := by simpa using g1
  by_cases g2 : -n ≤ x
  · have q2 : decide (-n ≤ x) = true := by simpa using g2
    rw [q1, q2]
    clear g1 g2
    generalize hz : decide (x ≤ n) = z
    go_enter Try.func39, Try.ntmps39
    go_wp2
    go_ret
    exact ⟨by cases z <;> rfl, rfl⟩
  · have q2 : decide (-n ≤ x) = false := by simpa using g2
    rw [q1, q2]
    clear g1 g2
    go_enter Try.func39, Try.ntmps39
    go_wp2
    go_ret
    exact ⟨rfl, rfl⟩
end Go.Proofs.Ytelgabamdhaplaa
