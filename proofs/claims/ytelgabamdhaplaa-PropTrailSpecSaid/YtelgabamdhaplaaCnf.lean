/-
  cnf.Holds and what it calls; slices of bools; slices.ContainsFunc over ints.
-/
import Derived.Test.YtelgabamdhaplaaBase
import Derived.Deep.RegionHeld3
import Derived.Deep.DrawnRows
import Derived.BigQuiet
import Derived.Deep.QuietTactic
import Derived.Deep.CutRange
import Derived.Deep.DeepCutAuto
namespace Go.Proofs.Ytelgabamdhaplaa
open Go.RowKit

/-- A slice of bools. -/
structure Bools (w : World) (A : Option Addr) (n c : Nat) (bs : List Bool) : Prop where
  len : n = bs.length
  cap : n ≤ c
  max : c ≤ maxLen
  reads : Reads w (Lt w) 1 A n (bs.map Value.bool)
theorem Bools.belowLt {w w' : World} {A : Option Addr} {n c : Nat} {bs : List Bool} (h : Bools w A n c bs) (hb : Below w.heap.size w w') : Bools w' A n c bs :=
  ⟨h.len, h.cap, h.max, h.reads.keep' (fun p hp => hb.cell hp) (fun _ hk => Nat.lt_of_lt_of_le hk hb.size)⟩
theorem Bools.at_ {w : World} {A : Option Addr} {n c : Nat} {bs : List Bool} {k : Nat} (h : Bools w A n c bs) (hk : k < n) : ∃ ad, A = some ad ∧ ad.block < w.heap.size ∧ w.cell? (ad.add k) = some (.bool (bs.getD k false)) := by
  obtain ⟨ad, u, e, hb, hx, hc⟩ := h.reads.at_ hk
  have hl := h.len
  refine ⟨ad, e, hb, ?_⟩
  rw [hc]
  simp only [List.getElem?_map] at hx
  have : bs[k]? = some (bs.getD k false) := by
    rw [List.getD_eq_getElem?_getD, List.getElem?_eq_getElem (by omega)]; rfl
  rw [this] at hx
  simp at hx
  rw [← hx]; simp

/-! ### the literal -/
def mayB (x n : Int) : Bool := decide (x ≠ 0 ∧ -n ≤ x ∧ x ≤ n)
/-- The value of variable v. -/
def varT (a : List Bool) (v : Nat) : Bool := a.getD v false
/-- cnf: a literal's truth. -/
def litT (x : Int) (a : List Bool) : Bool := if mayB x 65536 then (varT a x.natAbs == decide (0 < x)) else false
def holdsT (l : List Int) (a : List Bool) : Bool := l.any (litT · a)

def RetBoolSame (w : World) (b : Bool) (e : Ending) (w' : World) : Prop := e = .returned (.bool b) ∧ w = w'
set_option maxHeartbeats 400000 in
theorem may_any (w : World) (x n : Int) (h0 : 0 ≤ n) (h1 : n ≤ 65536) : Calls Try.prog 44 #[.int .i64 x, .int .i64 n] w (RetBoolSame w (mayB x n)) := by
  by_cases c0 : x = 0
  · have e : mayB x n = false := by simp [mayB, c0]
    rw [e]
    subst c0
    clear e
    go_enter Try.func44, Try.ntmps44
    go_wp2
    go_ret
    exact ⟨rfl, rfl⟩
  have b0 : (x != 0) = true := by simpa using c0
  by_cases c1 : -n ≤ x
  · by_cases c2 : x ≤ n
    · have e : mayB x n = true := by simp only [mayB, decide_eq_true_eq]; exact ⟨c0, c1, c2⟩
      rw [e]
      clear e c0
      go_enter Try.func44, Try.ntmps44
      go_wp2
      go_ret
      exact ⟨ret_bool (by first | (simp; done) | (simp; omega)), rfl⟩
    · have e : mayB x n = false := by simp only [mayB, decide_eq_false_iff_not]; exact fun h => c2 h.2.2
      rw [e]
      clear e c0
      go_enter Try.func44, Try.ntmps44
      go_wp2
      go_ret
      exact ⟨ret_bool (by first | (simp; done) | (simp; omega)), rfl⟩
  · have e : mayB x n = false := by simp only [mayB, decide_eq_false_iff_not]; exact fun h => c1 h.2.1
    rw [e]
    clear e c0
    have b1 : decide (-n ≤ x) = false := by simpa using c1
    go_enter Try.func44, Try.ntmps44
    go_wp2
    go_ret
    exact ⟨ret_bool (by simp), rfl⟩

def RetNatSame (w : World) (v : Nat) (e : Ending) (w' : World) : Prop := e = .returned (.int .i64 v) ∧ w = w'
set_option maxHeartbeats 400000 in
theorem of_any (w : World) (x : Int) (h0 : -70000 ≤ x) (h1 : x ≤ 70000) : Calls Try.prog 52 #[.int .i64 x] w (RetNatSame w x.natAbs) := by
  by_cases c : 0 ≤ x
  · go_enter Try.func52, Try.ntmps52
    go_wp2
    all_goals go_ret
    all_goals exact ⟨ret_int (by omega), rfl⟩
  · go_enter Try.func52, Try.ntmps52
    go_wp2
    all_goals go_ret
    all_goals exact ⟨ret_int (by omega), rfl⟩

set_option maxHeartbeats 1000000 in
theorem true_any (w : World) (x : Int) (A : Option Addr) (n c : Nat) (a : List Bool) (h : Bools w A n c a) : Calls Try.prog 46 #[.int .i64 x, .slice A n c] w (RetBoolSame w (litT x a)) := by
  have hl := h.len
  have hc := h.cap
  have hm := h.max
  unfold maxLen at hm
  have HB := Lib.hid h
  have HL := Lib.hid hl
  clear h hl
  have call := may_any w x 65536 (by omega) (by omega)
  by_cases c0 : mayB x 65536 = true
  case neg =>
    have c0' : mayB x 65536 = false := by simpa using c0
    have e : litT x a = false := by simp [litT, c0']
    rw [c0'] at call
    rw [e]
    have CALL := Lib.hid call
    clear c0 c0' e call
    go_enter Try.func46, Try.ntmps46
    go_wp2_with (fail)
    (with_reducible refine CALL.out.mono ?_)
    rintro e w' ⟨rfl, rfl⟩
    go_wp2
    go_ret
    exact ⟨rfl, rfl⟩
  have hb : x ≠ 0 ∧ -65536 ≤ x ∧ x ≤ 65536 := by simpa [mayB] using c0
  have e : litT x a = (varT a x.natAbs == decide (0 < x)) := by simp [litT, c0]
  rw [c0] at call
  rw [e]
  have CALL := Lib.hid call
  obtain ⟨hx0, hx1, hx2⟩ := hb
  have CALL2 := Lib.hid (of_any w x (by omega) (by omega))
  clear c0 e call
  generalize hv : x.natAbs = v at *
  have hv1 : v ≤ 65536 := by omega
  clear hv
  by_cases c1 : v < n
  · obtain ⟨ad, rfl, hadS, hcell⟩ := HB.out.at_ c1
    have hvt : varT a v = a.getD v false := rfl
    rw [hvt]
    generalize a.getD v false = b at *
    clear hvt hadS
    by_cases c2 : 0 < x
    · have d2 : decide (0 < x) = true := by simpa using c2
      rw [d2]
      go_enter Try.func46, Try.ntmps46
      go_wp2_with (first | (go_at_call 44; (with_reducible refine CALL.out.mono ?_); rintro e w' ⟨rfl, rfl⟩) | (go_at_call 52; (with_reducible refine CALL2.out.mono ?_); rintro e w' ⟨rfl, rfl⟩))
      all_goals go_ret
      all_goals exact ⟨ret_bool (by cases b <;> rfl), rfl⟩
    · have d2 : decide (0 < x) = false := by simpa using c2
      rw [d2]
      go_enter Try.func46, Try.ntmps46
      go_wp2_with (first | (go_at_call 44; (with_reducible refine CALL.out.mono ?_); rintro e w' ⟨rfl, rfl⟩) | (go_at_call 52; (with_reducible refine CALL2.out.mono ?_); rintro e w' ⟨rfl, rfl⟩))
      all_goals go_ret
      all_goals exact ⟨ret_bool (by cases b <;> rfl), rfl⟩
  · have hvt : varT a v = false := by
      unfold varT
      rw [List.getD_eq_getElem?_getD, List.getElem?_eq_none (by have := HL.out; omega)]; rfl
    rw [hvt]
    clear hvt
    by_cases c2 : 0 < x
    · have d2 : decide (0 < x) = true := by simpa using c2
      rw [d2]
      go_enter Try.func46, Try.ntmps46
      go_wp2_with (first | (go_at_call 44; (with_reducible refine CALL.out.mono ?_); rintro e w' ⟨rfl, rfl⟩) | (go_at_call 52; (with_reducible refine CALL2.out.mono ?_); rintro e w' ⟨rfl, rfl⟩))
      all_goals go_ret
      all_goals exact ⟨ret_bool rfl, rfl⟩
    · have d2 : decide (0 < x) = false := by simpa using c2
      rw [d2]
      go_enter Try.func46, Try.ntmps46
      go_wp2_with (first | (go_at_call 44; (with_reducible refine CALL.out.mono ?_); rintro e w' ⟨rfl, rfl⟩) | (go_at_call 52; (with_reducible refine CALL2.out.mono ?_); rintro e w' ⟨rfl, rfl⟩))
      all_goals go_ret
      all_goals exact ⟨ret_bool rfl, rfl⟩
end Go.Proofs.Ytelgabamdhaplaa
