/-
  slices.IndexFunc, slices.ContainsFunc over a slice of ints and a closure that only tests; cnf.Holds.
-/
import Derived.Test.YtelgabamdhaplaaCnf
import Derived.Laws.EntriesVeiled
namespace Go.Proofs.Ytelgabamdhaplaa
open Go.RowKit

/-- A closure that tests: whatever the world that has grown out of w, it answers p x. -/
def Tests (w : World) (g : FuncId) (caps : Array Value) (xs : List Int) (p : Int → Bool) : Prop :=
  ∀ x ∈ xs, ∀ w', Below w.heap.size w w' → Calls Try.prog g (#[.int .i64 x] ++ caps) w' (RetBoolBelow w' (p x))

/-- A function with a body of its own is entered. -/
def Enters (g : FuncId) : Prop := ∀ (a : Array Value) (w : World), (callFunc g a).run Try.prog w = .ok (.enter g a) w
/-- The index of the first hit, or -1. -/
def findI (p : Int → Bool) (xs : List Int) : Int := match xs.findIdx? p with | some i => i | none => -1
def RetIntBelow (w : World) (x : Int) (e : Ending) (w' : World) : Prop := e = .returned (.int .i64 x) ∧ Below w.heap.size w w'

theorem findI_hit {p : Int → Bool} {xs : List Int} {k : Nat} (hk : k < xs.length) (h0 : (xs.take k).any p = false) (h1 : p (xs.getD k 0) = true) : findI p xs = k := by
  unfold findI
  have : xs.findIdx? p = some k := by
    rw [List.findIdx?_eq_some_iff_getElem]
    rw [List.getD_eq_getElem?_getD, List.getElem?_eq_getElem hk] at h1
    refine ⟨hk, h1, fun j hj => ?_⟩
    have := List.any_eq_false.1 h0 (xs[j]'(by omega)) (List.mem_take_iff_getElem.2 ⟨j, by omega, rfl⟩)
    simpa using this
  rw [this]
theorem findI_miss {p : Int → Bool} {xs : List Int} (h0 : xs.any p = false) : findI p xs = -1 := by
  unfold findI
  have : xs.findIdx? p = none := by
    rw [List.findIdx?_eq_none_iff]
    intro x hx
    simpa using List.any_eq_false.1 h0 x hx
  rw [this]
theorem findI_any (p : Int → Bool) (xs : List Int) : decide (0 ≤ findI p xs) = xs.any p := by
  unfold findI
  cases h : xs.findIdx? p with
  | some i =>
    have : xs.any p = true := by
      rw [List.findIdx?_eq_some_iff_getElem] at h
      obtain ⟨hi, hp, _⟩ := h
      exact List.any_eq_true.2 ⟨_, List.getElem_mem hi, hp⟩
    rw [this]
    simp
  | none =>
    have : xs.any p = false := by
      rw [List.findIdx?_eq_none_iff] at h
      exact List.any_eq_false.2 fun x hx => by simp [h x hx]
    rw [this]
    simp
theorem any_snoc {p : Int → Bool} {xs : List Int} {k : Nat} (hk : k < xs.length) (h0 : (xs.take k).any p = false) (h1 : p (xs.getD k 0) = false) : (xs.take (k + 1)).any p = false := by
  rw [List.getD_eq_getElem?_getD, List.getElem?_eq_getElem hk] at h1
  simp only [Option.getD_some] at h1
  rw [List.take_succ_eq_append_getElem hk, List.any_append, h0]
  simp [h1]

set_option maxHeartbeats 1000000 in
theorem index1 (w : World) (A : Option Addr) (n c : Nat) (xs : List Int) (g : FuncId) (c1 : Value) (p : Int → Bool) (hI : Ints w (Lt w) A n c xs) (ht : Tests w g #[c1] xs p) (hg : Enters g) :
    Calls Try.prog 50 #[.slice A n c, .func (.func g) #[] #[c1]] w (RetIntBelow w (findI p xs)) := by
  have hc := hI.cap
  have hm := hI.max
  unfold maxLen at hm
  have HI := Lib.hid hI
  have HT := Lib.hid ht
  unfold Enters at hg
  clear hI ht
  go_enter Try.func50, Try.ntmps50
  go_wp2_with (fail)
  go_loopw [8] (fun i wr => ∃ k : Nat, k ≤ n ∧ i = .int .i64 k ∧ (xs.take k).any p = false ∧ Below w.heap.size w wr) (fun i _ => n - (intOf i).toNat)
  case atStart => exact ⟨0, Nat.zero_le _, rfl, by simp, Below.refl _ _⟩
  case round =>
    obtain ⟨k, hk, rfl, hany, hbl⟩ := hrel
    have HA := Lib.hid hany
    clear hany
    by_cases hlt : k < n
    · obtain ⟨ad, rfl, hadS, hcell⟩ := HI.out.at_ hlt
      have hl := HI.out.len
      have e1 := (hbl.cell (p := ad.add k) (by rw [block_of_add]; exact hadS)).trans hcell
      have hmem : xs.getD k 0 ∈ xs := by rw [List.getD_eq_getElem?_getD, List.getElem?_eq_getElem (by omega)]; simp
      have call := HT.out (xs.getD k 0) hmem wr hbl
      have call' : Calls Try.prog g #[.int .i64 (xs.getD k 0), c1] wr (RetBoolBelow wr (p (xs.getD k 0))) := call
      have HL := Lib.hid hl
      clear hcell hadS hmem call hl
      cases hp : p (xs.getD k 0)
      · rw [hp] at call'
        have CALL := Lib.hid call'
        have HN := Lib.hid (any_snoc (by have := HL.out; omega) HA.out hp)
        clear call' hp
        generalize xs.getD k 0 = x at *
        go_wp2_with (fail)
        (with_reducible refine CALL.out.mono ?_)
        rintro e w1 ⟨rfl, hb1⟩
        go_wp2_with (fail)
        go_roundw
        case rel => exact ⟨k + 1, by omega, by go_num, HN.out, hbl.trans (hb1.mono hbl.size)⟩
        case measure => simp [intOf]; omega
      · rw [hp] at call'
        have CALL := Lib.hid call'
        have HN := Lib.hid (findI_hit (by have := HL.out; omega) HA.out hp)
        clear call' hp
        generalize xs.getD k 0 = x at *
        go_wp2_with (fail)
        (with_reducible refine CALL.out.mono ?_)
        rintro e w1 ⟨rfl, hb1⟩
        go_wp2_with (fail)
        go_ret
        exact ⟨by rw [HN.out]; rfl, hbl.trans (hb1.mono hbl.size)⟩
    · have HN := Lib.hid (findI_miss (p := p) (xs := xs) (by have := HA.out; rwa [List.take_of_length_le (by have := HI.out.len; omega)] at this))
      go_wp2_with (fail)
      go_ret
      exact ⟨by rw [HN.out]; rfl, hbl⟩

set_option maxHeartbeats 400000 in
theorem contains1 (w : World) (A : Option Addr) (n c : Nat) (xs : List Int) (g : FuncId) (c1 : Value) (p : Int → Bool) (hI : Ints w (Lt w) A n c xs) (ht : Tests w g #[c1] xs p) (hg : Enters g) :
    Calls Try.prog 36 #[.slice A n c, .func (.func g) #[] #[c1]] w (RetBoolBelow w (xs.any p)) := by
  have CALL := Lib.hid (index1 w A n c xs g c1 p hI ht hg)
  have HF := Lib.hid (findI_any p xs)
  clear hI ht hg
  generalize xs.any p = b at *
  generalize findI p xs = v at *
  go_enter Try.func36, Try.ntmps36
  go_wp2_with (fail)
  (with_reducible refine CALL.out.mono ?_)
  rintro e w1 ⟨rfl, hb1⟩
  go_wp2_with (fail)
  go_ret
  exact ⟨by rw [← HF.out]; rfl, hb1⟩

set_option maxHeartbeats 400000 in
theorem holds1 (w : World) (x : Int) (b : Nat) (A : Option Addr) (n c : Nat) (a : List Bool) (h : Bools w A n c a) (hb : w.cell? ⟨b, 0, none⟩ = some (.slice A n c)) :
    Calls Try.prog 45 #[.int .i64 x, .pointer (some ⟨b, 0, none⟩)] w (RetBoolBelow w (litT x a)) := by
  have CALL := Lib.hid (true_any w x A n c a h)
  clear h
  generalize litT x a = r at *
  go_enter Try.func45, Try.ntmps45
  go_wp2_with (fail)
  (with_reducible refine CALL.out.mono ?_)
  rintro e w1 ⟨rfl, rfl⟩
  go_wp2_with (fail)
  go_ret
  exact ⟨rfl, Below.refl _ _⟩

set_option maxHeartbeats 400000 in
theorem holds_any (w : World) (A : Option Addr) (n c : Nat) (l : List Int) (A' : Option Addr) (n' c' : Nat) (a : List Bool) (hI : Ints w (Lt w) A n c l) (hB : Bools w A' n' c' a) :
    Calls Try.prog 31 #[.slice A n c, .slice A' n' c'] w (RetBoolBelow w (holdsT l a)) := by
  have hal := alloc_lt (w := w) (.cells #[.slice A' n' c'] 48)
  have hnew : (w.alloc (.cells #[.slice A' n' c'] 48)).heap[w.heap.size]? = some (.cells #[.slice A' n' c'] 48 (0, 0)) := heap_alloc_new w _
  have ht : Tests (w.alloc (.cells #[.slice A' n' c'] 48)) 45 #[.pointer (some ⟨w.heap.size, 0, none⟩)] l (litT · a) := fun x _ w' hb => by
    refine holds1 w' x w.heap.size A' n' c' a ((hB.belowLt hal).belowLt hb) ?_
    exact cell_of_one ((hb.block _ (lt_of_block hnew)).trans hnew)
  have CALL := Lib.hid (contains1 _ A n c l 45 (.pointer (some ⟨w.heap.size, 0, none⟩)) (litT · a) (hI.belowLt hal) ht (fun _ _ => by kernel_rfl))
  have HAL := Lib.hid hal
  clear hI hB ht hnew hal
  have he : l.any (litT · a) = holdsT l a := rfl
  rw [he] at CALL
  clear he
  generalize holdsT l a = r at *
  go_enter Try.func31, Try.ntmps31
  go_wp2_with (fail)
  (with_reducible refine CALL.out.mono ?_)
  rintro e w1 ⟨rfl, hb1⟩
  go_wp2_with (fail)
  go_ret
  exact ⟨rfl, below_then HAL.out hb1⟩
end Go.Proofs.Ytelgabamdhaplaa
