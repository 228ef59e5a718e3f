/-
  total.at[int] and total.Total$2 ('not'): what they hand back.
-/
import Derived.Test.YtanbkdfffojpnaaWords
namespace Go.Proofs.Ytanbkdfffojpnaa
open Go.RowKit

set_option maxHeartbeats 400000 in
theorem at_any (w : World) (S : Nat → Prop) (n c : Nat) (A : Option Addr) (xs : List Int) (k : Int) (h : Ints w S A n c xs) :
    Calls Try.prog 46 #[.slice A n c, .int .i64 k] w (RetIntsSame w S (atL xs k)) := by
  have hl := h.len
  have hcap := h.cap
  have hc := h.max
  unfold maxLen at hc
  by_cases h0 : k < 0
  · have e : atL xs k = [] := by simp [atL]; omega
    rw [e]; clear e hl
    go_enter Try.func46, Try.ntmps46
    go_wp2
    go_ret
    exact ⟨none, 0, 0, rfl, Ints.nil_, rfl⟩
  · by_cases h1 : (n : Int) ≤ k
    · have e : atL xs k = [] := by simp [atL]; omega
      rw [e]; clear e hl
      go_enter Try.func46, Try.ntmps46
      go_wp2
      go_ret
      exact ⟨none, 0, 0, rfl, Ints.nil_, rfl⟩
    · obtain ⟨m, rfl⟩ := Int.eq_ofNat_of_zero_le (show 0 ≤ k by omega)
      have hm : m < n := by omega
      obtain ⟨ad, rfl, hb, hcell⟩ := h.at_ hm
      have e : atL xs m = (xs.drop m).take (m + 1 - m) := by
        have hx : m < xs.length := by omega
        simp only [atL]
        rw [if_pos (by omega)]
        have : m + 1 - m = 1 := by omega
        rw [this, Int.toNat_natCast, List.getD_eq_getElem?_getD, List.getElem?_eq_getElem hx, List.drop_eq_getElem_cons hx]; rfl
      have hp := h.piece (ad := ad) rfl (i := m) (j := m + 1) (c' := c - m) (by omega) (by omega) (by omega) (by unfold maxLen; omega)
      rw [← e, show m + 1 - m = 1 from by omega] at hp
      have HP := Lib.hid hp
      clear e hp hl hcell h hb
      generalize atL xs m = ys at *
      go_enter Try.func46, Try.ntmps46
      go_wp2
      go_ret
      exact ⟨some (ad.add m), 1, c - m, rfl, HP.out, rfl⟩

theorem own_new (w : World) (e : TypeId) (v : Value) : (w.alloc (.cells #[v] e)).ownsRow w.heap.size e 1 (.slice (some ⟨w.heap.size, 0, none⟩) 1 1) 1 [v] :=
  ⟨by simp, .inr ⟨w.heap.size, 1, #[v], rfl, Nat.le_refl _, heap_alloc_new w _, Nat.le_refl _, by simp [maxLen], by simp, by simp⟩⟩

set_option maxHeartbeats 400000 in
theorem not_any (w : World) (S : Nat → Prop) (n c : Nat) (A : Option Addr) (xs : List Int) (h : Ints w S A n c xs) (hx : Small xs) :
    Calls Try.prog 44 #[.slice A n c] w (RetIntsNew w (notL xs)) := by
  have hl := h.len
  cases xs with
  | nil =>
    subst hl
    clear h hx
    go_enter Try.func44, Try.ntmps44
    go_wp2
    go_ret
    exact ⟨none, 0, 0, rfl, World.ownsRow_nil _ _ _ _, Below.refl _ _⟩
  | cons x xs =>
    obtain ⟨m, rfl⟩ : ∃ m, n = m + 1 := ⟨xs.length, by simpa using hl⟩
    obtain ⟨ad, rfl, hb, hcell⟩ := h.at_ (k := 0) (by omega)
    have hxx := hx x (by simp)
    rw [add_zero] at hcell
    have hcell : w.cell? ad = some (.int .i64 x) := by simpa using hcell
    obtain ⟨hx1, hx2⟩ := hxx
    have hm : (((m + 1 : Nat) : Int) == 0) = false := by simp; omega
    clear h hx hl
    go_enter Try.func44, Try.ntmps44
    go_wp2
    go_ret
    exact ⟨some ⟨w.heap.size, 0, none⟩, 1, 1, rfl, own_new w _ _, (Below.refl _ _).alloc (Nat.le_refl _) _⟩
end Go.Proofs.Ytanbkdfffojpnaa
