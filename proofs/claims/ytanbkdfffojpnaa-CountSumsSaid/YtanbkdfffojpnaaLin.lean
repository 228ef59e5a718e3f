/-
  lin.Value at the constraint that CountSums builds: unit coefficients, right literals, a small bound.
-/
import Derived.Test.YtanbkdfffojpnaaMeans
namespace Go.Proofs.Ytanbkdfffojpnaa
open Go.RowKit

set_option maxHeartbeats 400000 in
theorem contains0 (w : World) (A : Option Addr) (n c : Nat) (xs : List Int) (g : FuncId) (p : Int → Bool) (hI : Ints w (Lt w) A n c xs) (ht : Tests w g #[] xs p) (hg : Enters g) :
    Calls Try.prog 33 #[.slice A n c, .func (.func g) #[] #[]] w (RetBoolBelow w (xs.any p)) := by
  have CALL := Lib.hid (index0 w A n c xs g p hI ht hg)
  have HF := Lib.hid (findI_any p xs)
  clear hI ht hg
  generalize xs.any p = b at *
  generalize findI p xs = v at *
  go_enter Try.func33, Try.ntmps33
  go_wp2_with (fail)
  (with_reducible refine CALL.out.mono ?_)
  rintro e w1 ⟨rfl, hb1⟩
  go_wp2_with (fail)
  go_ret
  exact ⟨by rw [← HF.out]; rfl, hb1⟩


set_option maxHeartbeats 400000 in
theorem within_any (w : World) (x : Int) (h0 : -200 ≤ x) (h1 : x ≤ 200) : Calls Try.prog 54 #[.int .i64 x] w (RetBoolSame w true) := by
  have d1 : decide ((-1099511627776 : Int) ≤ x) = true := by simp; omega
  have d2 : decide (x ≤ (1099511627776 : Int)) = true := by simp; omega
  go_enter Try.func54, Try.ntmps54
  go_wp2
  go_ret
  exact ⟨rfl, rfl⟩
set_option maxHeartbeats 400000 in
theorem odd_any (w : World) (x : Int) (h0 : -200 ≤ x) (h1 : x ≤ 200) : Calls Try.prog 53 #[.int .i64 x] w (RetBoolBelow w false) := by
  have CALL := Lib.hid (within_any w x h0 h1)
  go_enter Try.func53, Try.ntmps53
  go_wp2_with (fail)
  (with_reducible refine CALL.out.mono ?_)
  rintro e w1 ⟨rfl, rfl⟩
  go_wp2_with (fail)
  go_ret
  exact ⟨rfl, Below.refl _ _⟩
set_option maxHeartbeats 400000 in
theorem wrong_any (w : World) (x : Int) (b : Nat) (hb : w.heap[b]? = some (.cells #[.int .i64 65536] 3 (0, 0))) (hx : x ≠ 0) (h0 : -65536 ≤ x) (h1 : x ≤ 65536) : Calls Try.prog 55 #[.int .i64 x, .pointer (some ⟨b, 0, none⟩)] w (RetBoolBelow w false) := by
  have c1 := cell_of_one hb
  have q1 : (x == 0) = false := by simpa using hx
  have d1 : decide ((65536 : Int) < x) = false := by simp; omega
  have d2 : decide (x < (-65536 : Int)) = false := by simp; omega
  clear hb hx
  go_enter Try.func55, Try.ntmps55
  go_wp2
  go_ret
  exact ⟨rfl, Below.refl _ _⟩
set_option maxHeartbeats 400000 in
theorem linOf_any (w : World) (x : Int) (h0 : -70000 ≤ x) (h1 : x ≤ 70000) : Calls Try.prog 41 #[.int .i64 x] w (RetNatSame w x.natAbs) := by
  by_cases h : 0 ≤ x
  · obtain ⟨v, rfl⟩ := Int.eq_ofNat_of_zero_le h
    rw [Int.natAbs_natCast]
    go_enter Try.func41, Try.ntmps41
    go_wp2
    go_ret
    exact ⟨by simp, rfl⟩
  · obtain ⟨v, hv⟩ := Int.eq_ofNat_of_zero_le (show 0 ≤ -x by omega)
    obtain rfl : x = -(v : Int) := by omega
    rw [Int.natAbs_neg, Int.natAbs_natCast]
    clear hv
    go_enter Try.func41, Try.ntmps41
    go_wp2
    go_ret
    exact ⟨by simp, rfl⟩

set_option maxHeartbeats 2000000 in
set_option maxRecDepth 100000 in
theorem linCheck_any (w : World) (n c c' : Nat) (A A' : Option Addr) (xs ones : List Int) (k : Int) (hL : Ints w (Lt w) A n c xs) (hC : Ints w (Lt w) A' n c' ones) (h1 : ∀ x ∈ ones, x = 1) (hx : ∀ x ∈ xs, x ≠ 0 ∧ -65536 ≤ x ∧ x ≤ 65536) (hk0 : -100 ≤ k) (hk1 : k ≤ 100) (hn : n ≤ 100) :
    Calls Try.prog 52 #[.agg #[.slice A' n c', .slice A n c, .int .i64 k], .int .i64 65536] w (RetIntBelow w 0) := by
  obtain ⟨W, hW⟩ : ∃ W, W = (w.alloc (.cells #[.slice A' n c', .slice A n c, .int .i64 k] 43)).alloc (.cells #[.int .i64 65536] 3) := ⟨_, rfl⟩
  have hb : Below w.heap.size w W := by rw [hW]; exact below_then (alloc_lt _) (alloc_lt _)
  have b1 : W.heap[w.heap.size]? = some (.cells #[.slice A' n c', .slice A n c, .int .i64 k] 43 (0, 0)) := by
    rw [hW, Below.heap_alloc _ _ _ (by simp)]; exact heap_alloc_new w _
  have b2 : W.heap[w.heap.size + 1]? = some (.cells #[.int .i64 65536] 3 (0, 0)) := by
    rw [hW]
    have := heap_alloc_new (w.alloc (.cells #[.slice A' n c', .slice A n c, .int .i64 k] 43)) (.cells #[.int .i64 65536] 3)
    simpa using this
  have hE53 : ∀ (a : Array Value) (w : World), (callFunc 53 a).run Try.prog w = .ok (.enter 53 a) w := fun _ _ => by kernel_rfl
  have call1 := fun w1 (hb1 : Below W.heap.size W w1) => contains0 w1 A' n c' ones 53 (fun _ => false) ((hC.belowLt hb).belowLt hb1) (fun x hx' w' _ => odd_any w' x (by rw [h1 x hx']; omega) (by rw [h1 x hx']; omega)) hE53
  have e1 : ones.any (fun _ => false) = false := by simp
  rw [e1] at call1
  have call2 := fun w1 (hb1 : Below W.heap.size W w1) => contains1 w1 A n c xs 55 (.pointer (some ⟨w.heap.size + 1, 0, none⟩)) (fun _ => false) ((hL.belowLt hb).belowLt hb1)
    (fun x hx' w' hb' => wrong_any w' x (w.heap.size + 1) ((hb'.block _ (Nat.lt_of_lt_of_le (lt_of_block b2) hb1.size)).trans ((hb1.block _ (lt_of_block b2)).trans b2)) (hx x hx').1 (hx x hx').2.1 (hx x hx').2.2) (fun _ _ => by kernel_rfl)
  have e2 : xs.any (fun _ => false) = false := by simp
  rw [e2] at call2
  have c0 : W.cell? ⟨w.heap.size, 0, none⟩ = some (.slice A' n c') := by rw [cell_of_row _ _ _ _ _ _ b1]; rfl
  have c1 : W.cell? ⟨w.heap.size, 1, none⟩ = some (.slice A n c) := by rw [cell_of_row _ _ _ _ _ _ b1]; rfl
  have c2 : W.cell? ⟨w.heap.size, 2, none⟩ = some (.int .i64 k) := by rw [cell_of_row _ _ _ _ _ _ b1]; rfl
  have c3 := cell_of_one b2
  have hcn := hL.cap
  have hcn' := hC.cap
  have CODD := Lib.hid (odd_any W k (by omega) (by omega))
  have CALL1 := Lib.hid call1
  have CALL2 := Lib.hid call2
  have HB := Lib.hid hb
  have B1 := Lib.hid b1
  have q1 : ((n : Int) != (n : Int)) = false := by simp
  clear call1 call2 hL hC h1 hx e1 e2 hb b1 b2
  go_enter Try.func52, Try.ntmps52
  go_upto_region 3 with (fail)
  rw [← hW]
  clear hW
  go_wp2_with (fail)
  (with_reducible refine CODD.out.mono ?_)
  rintro e w1 ⟨rfl, hb1⟩
  have bb := (hb1.block _ (lt_of_block B1.out)).trans B1.out
  have c0' : w1.cell? ⟨w.heap.size, 0, none⟩ = some (.slice A' n c') := by rw [cell_of_row _ _ _ _ _ _ bb]; rfl
  have c1' : w1.cell? ⟨w.heap.size, 1, none⟩ = some (.slice A n c) := by rw [cell_of_row _ _ _ _ _ _ bb]; rfl
  have HB1 := Lib.hid hb1
  clear hb1 bb
  go_wp2_with (fail)
  (with_reducible refine (CALL1.out w1 HB1.out).mono ?_)
  rintro e w2 ⟨rfl, hb2⟩
  have hb2' := below_then HB1.out hb2
  have bb := (hb2'.block _ (lt_of_block B1.out)).trans B1.out
  have c1'' : w2.cell? ⟨w.heap.size, 1, none⟩ = some (.slice A n c) := by rw [cell_of_row _ _ _ _ _ _ bb]; rfl
  have HB2 := Lib.hid hb2'
  clear hb2 hb2' bb
  go_wp2_with (fail)
  (with_reducible refine (CALL2.out w2 HB2.out).mono ?_)
  rintro e w3 ⟨rfl, hb3⟩
  have hb3' := below_then HB2.out hb3
  have bb := (hb3'.block _ (lt_of_block B1.out)).trans B1.out
  have c13 : w3.cell? ⟨w.heap.size, 1, none⟩ = some (.slice A n c) := by rw [cell_of_row _ _ _ _ _ _ bb]; rfl
  have HB3 := Lib.hid hb3'
  clear hb3 hb3' bb
  have d9 : decide ((4096 : Int) < (n : Int)) = false := by simp; omega
  go_wp2
  go_ret
  exact ⟨rfl, below_then HB.out HB3.out⟩

/-- A literal as lin.Value takes it: its value under a. -/
theorem linStep_any (w : World) (b : Nat) (A : Option Addr) (n c : Nat) (a : List Bool) (q lit : Int) (hb : w.heap[b]? = some (.cells #[.slice A n c] 30 (0, 0))) (hB : Bools w A n c a) (hx : lit ≠ 0) (h0 : -65536 ≤ lit) (h1 : lit ≤ 65536) (hq0 : 0 ≤ q) (hq1 : q ≤ 1000) :
    Calls Try.prog 40 #[.int .i64 q, .int .i64 1, .int .i64 lit, .pointer (some ⟨b, 0, none⟩)] w (RetIntBelow w (q + if litT lit a = true then 1 else 0)) := by
  have c1 := cell_of_one hb
  have CALL := Lib.hid (linOf_any w lit (by omega) (by omega))
  have hlt : litT lit a = (varT a lit.natAbs == decide (0 < lit)) := by
    unfold litT
    have : mayB lit 65536 = true := by simp only [mayB, decide_eq_true_eq]; exact ⟨hx, h0, h1⟩
    rw [if_pos this]
  have hlen := hB.len
  have hcn := hB.cap
  have hmx := hB.max
  unfold maxLen at hmx
  have HB := Lib.hid hB
  have HLT := Lib.hid hlt
  have hv6 : lit.natAbs ≤ 65536 := by omega
  clear hb hB hlt
  generalize hva : lit.natAbs = va at *
  clear hva
  generalize hres : (q + if litT lit a = true then (1 : Int) else 0) = res
  have HRES := Lib.hid hres
  clear hres
  by_cases hvn : va < n
  · obtain ⟨ad, rfl, hadS, hcell⟩ := HB.out.at_ hvn
    have e : varT a va = a.getD va false := rfl
    rw [← e] at hcell
    have dv : decide (va < n) = true := by simpa using hvn
    clear hadS e
    generalize varT a va = bv at *
    cases hbt : (bv == decide (0 < lit))
    · have hr : res = q := by rw [← HRES.out, HLT.out, hbt]; simp
      subst hr
      clear hlen
      go_enter Try.func40, Try.ntmps40
      go_wp2_with (fail)
      (with_reducible refine CALL.out.mono ?_)
      rintro e w1 ⟨rfl, rfl⟩
      go_wp2
      go_ret
      exact ⟨rfl, Below.refl _ _⟩
    · have hr : res = q + 1 := by rw [← HRES.out, HLT.out, hbt]; simp
      subst hr
      clear hlen
      go_enter Try.func40, Try.ntmps40
      go_wp2_with (fail)
      (with_reducible refine CALL.out.mono ?_)
      rintro e w1 ⟨rfl, rfl⟩
      go_wp2
      go_ret
      exact ⟨rfl, Below.refl _ _⟩
  · have e : varT a va = false := by
      unfold varT
      rw [List.getD_eq_getElem?_getD, List.getElem?_eq_none (by omega)]; rfl
    have dv : decide (va < n) = false := by simpa using hvn
    rw [e] at HLT
    clear e
    cases hbt : (false == decide (0 < lit))
    · have hr : res = q := by rw [← HRES.out, HLT.out, hbt]; simp
      subst hr
      clear hlen
      go_enter Try.func40, Try.ntmps40
      go_wp2_with (fail)
      (with_reducible refine CALL.out.mono ?_)
      rintro e w1 ⟨rfl, rfl⟩
      go_wp2
      go_ret
      exact ⟨rfl, Below.refl _ _⟩
    · have hr : res = q + 1 := by rw [← HRES.out, HLT.out, hbt]; simp
      subst hr
      clear hlen
      go_enter Try.func40, Try.ntmps40
      go_wp2_with (fail)
      (with_reducible refine CALL.out.mono ?_)
      rintro e w1 ⟨rfl, rfl⟩
      go_wp2
      go_ret
      exact ⟨rfl, Below.refl _ _⟩
end Go.Proofs.Ytanbkdfffojpnaa
