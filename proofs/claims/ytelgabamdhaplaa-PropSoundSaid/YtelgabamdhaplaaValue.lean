/-
  cnf.Value: do all clauses hold? Through slices.ContainsFunc over rows.
-/
import Derived.Test.YtelgabamdhaplaaCheck
namespace Go.Proofs.Ytelgabamdhaplaa
open Go.RowKit

/-- A closure that tests rows. -/
def TestsR (w : World) (g : FuncId) (caps : Array Value) (cs : List (List Int)) (p : List Int → Bool) : Prop :=
  ∀ l ∈ cs, ∀ (A : Option Addr) (n c : Nat) (w' : World), Below w.heap.size w w' → Ints w' (Lt w') A n c l → Calls Try.prog g (#[.slice A n c] ++ caps) w' (RetBoolBelow w' (p l))
def findR (p : List Int → Bool) (xs : List (List Int)) : Int := match xs.findIdx? p with | some i => i | none => -1
theorem findR_hit {p : List Int → Bool} {xs : List (List Int)} {k : Nat} (hk : k < xs.length) (h0 : (xs.take k).any p = false) (h1 : p (xs.getD k []) = true) : findR p xs = k := by
  have : xs.findIdx? p = some k := by
    rw [List.findIdx?_eq_some_iff_getElem]
    refine ⟨hk, ?_, fun j hj => ?_⟩
    · rw [List.getD_eq_getElem?_getD, List.getElem?_eq_getElem hk] at h1; simpa using h1
    · have := List.any_eq_false.1 h0 xs[j] (List.mem_take_iff_getElem.2 ⟨j, by omega, rfl⟩)
      simpa using this
  unfold findR
  rw [this]
theorem findR_miss {p : List Int → Bool} {xs : List (List Int)} (h0 : xs.any p = false) : findR p xs = -1 := by
  have : xs.findIdx? p = none := by
    rw [List.findIdx?_eq_none_iff]
    intro x hx
    simpa using List.any_eq_false.1 h0 x hx
  unfold findR
  rw [this]
theorem findR_any (p : List Int → Bool) (xs : List (List Int)) : decide (0 ≤ findR p xs) = xs.any p := by
  cases h : xs.any p with
  | false => rw [findR_miss h]; rfl
  | true =>
    unfold findR
    cases hf : xs.findIdx? p with
    | none =>
      rw [List.findIdx?_eq_none_iff] at hf
      obtain ⟨x, hx, hp⟩ := List.any_eq_true.1 h
      rw [hf x hx] at hp; cases hp
    | some i => simp

set_option maxHeartbeats 1000000 in
theorem indexR (w : World) (A : Option Addr) (n c : Nat) (xs : List (List Int)) (g : FuncId) (c1 : Value) (p : List Int → Bool) (hI : Rows2 w A n c xs) (ht : TestsR w g #[c1] xs p) (hg : Enters g) :
    Calls Try.prog 53 #[.slice A n c, .func (.func g) #[] #[c1]] w (RetIntBelow w (findR p xs)) := by
  have hc := hI.cap
  have hm := hI.max
  unfold maxLen at hm
  have HI := Lib.hid hI
  have HT := Lib.hid ht
  unfold Enters at hg
  clear hI ht
  go_enter Try.func53, Try.ntmps53
  go_wp2_with (fail)
  go_loopw [8] (fun i wr => ∃ k : Nat, k ≤ n ∧ i = .int .i64 k ∧ (xs.take k).any p = false ∧ Below w.heap.size w wr) (fun i _ => n - (intOf i).toNat)
  case atStart => exact ⟨0, Nat.zero_le _, rfl, by simp, Below.refl _ _⟩
  case round =>
    obtain ⟨k, hk, rfl, hany, hbl⟩ := hrel
    have HA := Lib.hid hany
    clear hany
    by_cases hlt : k < n
    · obtain ⟨ad, A1, n1, c1', rfl, hadS, hcell, hI1⟩ := HI.out.at_ hlt
      have hl := HI.out.len
      have e1 := (hbl.cell (p := ad.add k) (by rw [block_of_add]; exact hadS)).trans hcell
      have hmem : xs.getD k [] ∈ xs := by rw [List.getD_eq_getElem?_getD, List.getElem?_eq_getElem (by omega)]; simp
      have call := HT.out (xs.getD k []) hmem A1 n1 c1' wr hbl (hI1.belowLt hbl)
      have call' : Calls Try.prog g #[.slice A1 n1 c1', c1] wr (RetBoolBelow wr (p (xs.getD k []))) := call
      have HL := Lib.hid hl
      clear hcell hadS hmem call hl hI1
      cases hp : p (xs.getD k [])
      · rw [hp] at call'
        have CALL := Lib.hid call'
        have HN := Lib.hid (anyR_snoc (by have := HL.out; omega) HA.out hp)
        clear call' hp
        go_wp2_with (fail)
        (with_reducible refine CALL.out.mono ?_)
        rintro e w1 ⟨rfl, hb1⟩
        go_wp2_with (fail)
        go_roundw
        case rel => exact ⟨k + 1, by omega, by go_num, HN.out, hbl.trans (hb1.mono hbl.size)⟩
        case measure => simp [intOf]; omega
      · rw [hp] at call'
        have CALL := Lib.hid call'
        have HN := Lib.hid (findR_hit (by have := HL.out; omega) HA.out hp)
        clear call' hp
        go_wp2_with (fail)
        (with_reducible refine CALL.out.mono ?_)
        rintro e w1 ⟨rfl, hb1⟩
        go_wp2_with (fail)
        go_ret
        exact ⟨by rw [HN.out]; rfl, hbl.trans (hb1.mono hbl.size)⟩
    · have HN := Lib.hid (findR_miss (p := p) (xs := xs) (by have := HA.out; rwa [List.take_of_length_le (by have := HI.out.len; omega)] at this))
      go_wp2_with (fail)
      go_ret
      exact ⟨by rw [HN.out]; rfl, hbl⟩

set_option maxHeartbeats 400000 in
theorem containsR (w : World) (A : Option Addr) (n c : Nat) (xs : List (List Int)) (g : FuncId) (c1 : Value) (p : List Int → Bool) (hI : Rows2 w A n c xs) (ht : TestsR w g #[c1] xs p) (hg : Enters g) :
    Calls Try.prog 48 #[.slice A n c, .func (.func g) #[] #[c1]] w (RetBoolBelow w (xs.any p)) := by
  have CALL := Lib.hid (indexR w A n c xs g c1 p hI ht hg)
  have HF := Lib.hid (findR_any p xs)
  clear hI ht hg
  generalize xs.any p = b at *
  generalize findR p xs = v at *
  go_enter Try.func48, Try.ntmps48
  go_wp2_with (fail)
  (with_reducible refine CALL.out.mono ?_)
  rintro e w1 ⟨rfl, hb1⟩
  go_wp2_with (fail)
  go_ret
  exact ⟨by rw [← HF.out]; rfl, hb1⟩

set_option maxHeartbeats 400000 in
theorem value1 (w : World) (A : Option Addr) (n c : Nat) (l : List Int) (b : Nat) (A' : Option Addr) (n' c' : Nat) (a : List Bool) (hI : Ints w (Lt w) A n c l) (h : Bools w A' n' c' a) (hb : w.cell? ⟨b, 0, none⟩ = some (.slice A' n' c')) :
    Calls Try.prog 47 #[.slice A n c, .pointer (some ⟨b, 0, none⟩)] w (RetBoolBelow w (!holdsT l a)) := by
  have CALL := Lib.hid (holds_any w A n c l A' n' c' a hI h)
  clear h hI
  generalize holdsT l a = r at *
  go_enter Try.func47, Try.ntmps47
  go_wp2_with (fail)
  (with_reducible refine CALL.out.mono ?_)
  rintro e w1 ⟨rfl, hb1⟩
  go_wp2_with (fail)
  go_ret
  exact ⟨rfl, hb1⟩

/-- Does the formula hold? -/
def valueT (N : Int) (cs : List (List Int)) (a : List Bool) : Bool := decide (checkR N cs = 0) && !(cs.any fun l => !holdsT l a)

set_option maxHeartbeats 1000000 in
theorem value_any (w : World) (N : Int) (A : Option Addr) (n c : Nat) (cs : List (List Int)) (A' : Option Addr) (n' c' : Nat) (a : List Bool) (hR : Rows2 w A n c cs) (hB : Bools w A' n' c' a) :
    Calls Try.prog 32 #[.agg #[.int .i64 N, .slice A n c], .slice A' n' c'] w (RetBoolBelow w (valueT N cs a)) := by
  obtain ⟨W, hW⟩ : ∃ W, W = (w.alloc (.cells #[.int .i64 N, .slice A n c] 24)).alloc (.cells #[.slice A' n' c'] 48) := ⟨_, rfl⟩
  have hal : Below w.heap.size w W := by rw [hW]; exact below_then (alloc_lt _) (alloc_lt _)
  have b0 : W.heap[w.heap.size]? = some (.cells #[.int .i64 N, .slice A n c] 24 (0, 0)) := by
    rw [hW, Below.heap_alloc _ _ _ (by simp)]; exact heap_alloc_new w _
  have b1 : W.heap[w.heap.size + 1]? = some (.cells #[.slice A' n' c'] 48 (0, 0)) := by
    have := heap_alloc_new (w.alloc (.cells #[.int .i64 N, .slice A n c] 24)) (.cells #[.slice A' n' c'] 48)
    rw [hW]; simpa using this
  have c0 : W.cell? ⟨w.heap.size, 0, none⟩ = some (.int .i64 N) := by rw [cell_of_row _ _ _ _ _ _ b0]; rfl
  have c1 : W.cell? ⟨w.heap.size, 1, none⟩ = some (.slice A n c) := by rw [cell_of_row _ _ _ _ _ _ b0]; rfl
  have CHK := Lib.hid (check_any W N A n c cs (hR.belowLt hal))
  have HAL := Lib.hid hal
  have HR := Lib.hid (hR.belowLt hal)
  have HB := Lib.hid (hB.belowLt hal)
  have B0 := Lib.hid b0
  have B1 := Lib.hid b1
  clear hR hB hal b0 b1
  unfold valueT
  generalize checkR N cs = er at *
  by_cases he : er = 0
  · subst he
    rw [show (decide ((0 : Int) = 0)) = true from rfl, Bool.true_and]
    generalize hr : (cs.any fun l => !holdsT l a) = r
    have HRR := Lib.hid hr
    clear hr
    go_enter Try.func32, Try.ntmps32
    go_upto_region 2 with (fail)
    rw [← hW]
    clear hW
    go_wp2_with (fail)
    (with_reducible refine CHK.out.mono ?_)
    rintro e w1 ⟨rfl, hb1⟩
    have ht : TestsR w1 47 #[.pointer (some ⟨w.heap.size + 1, 0, none⟩)] cs (fun l => !holdsT l a) := fun l _ A1 n1 c1' w' hb hI1 => by
      refine value1 w' A1 n1 c1' l (w.heap.size + 1) A' n' c' a hI1 ((HB.out.belowLt hb1).belowLt hb) ?_
      exact cell_of_one ((hb.block _ (Nat.lt_of_lt_of_le (lt_of_block B1.out) hb1.size)).trans ((hb1.block _ (lt_of_block B1.out)).trans B1.out))
    have CALL := Lib.hid (containsR w1 A n c cs 47 (.pointer (some ⟨w.heap.size + 1, 0, none⟩)) (fun l => !holdsT l a) (HR.out.belowLt hb1) ht (fun _ _ => by kernel_rfl))
    have d1 : w1.cell? ⟨w.heap.size, 1, none⟩ = some (.slice A n c) := (hb1.cell (lt_of_block B0.out)).trans c1
    have HB1 := Lib.hid (below_then HAL.out hb1)
    have hrr := HRR.out
    rw [hrr] at CALL
    clear ht hb1 CHK hrr
    go_wp2_with (fail)
    (with_reducible refine CALL.out.mono ?_)
    rintro e w2 ⟨rfl, hb2⟩
    go_wp2_with (fail)
    go_ret
    exact ⟨rfl, below_then HB1.out hb2⟩
  · rw [show decide (er = 0) = false by simpa using he, Bool.false_and]
    have hq : (er == 0) = false := by simpa using he
    go_enter Try.func32, Try.ntmps32
    go_upto_region 2 with (fail)
    rw [← hW]
    clear hW
    go_wp2_with (fail)
    (with_reducible refine CHK.out.mono ?_)
    rintro e w1 ⟨rfl, hb1⟩
    go_wp2_with (fail)
    go_ret
    exact ⟨rfl, below_then HAL.out hb1⟩
end Go.Proofs.Ytelgabamdhaplaa
