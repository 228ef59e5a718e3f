/-
  chalklineref14.Truths: some assignment of the right length (which one, no proof here asks).
-/
import Derived.Test.YtelgabamdhaplaaBits
namespace Go.Proofs.Ytelgabamdhaplaa
open Go.RowKit

theorem bool_info : (Try.prog.info? 4).map (fun i => (i.zero, i.size, i.bytes)) = some (some (.bool false), 1, 1) := by kernel_rfl
theorem info_parts4 {P : Program} {t : TypeId} {z : Value} {s b : Nat} (h : (P.info? t).map (fun i => (i.zero, i.size, i.bytes)) = some (some z, s, b)) : ∃ i, P.info? t = some i ∧ i.zero = some z ∧ i.size = s ∧ i.bytes = b := by
  cases hi : P.info? t with
  | none => rw [hi] at h; cases h
  | some i => rw [hi] at h; simp at h; exact ⟨i, rfl, h.1, h.2.1, h.2.2⟩
theorem Bools.of_own {w : World} {base : Nat} {e : TypeId} {A : Option Addr} {n c : Nat} {bs : List Bool} (h : w.ownsRow base e 1 (.slice A n c) n (bs.map Value.bool)) : Bools w A n c bs := by
  have hx : n ≤ c ∧ c ≤ maxLen := by
    rcases h.2 with ⟨hv, hn⟩ | ⟨g, cap, cur, hv, _, _, hc, hm, _⟩
    · injection hv with _ _ hcap; subst hn hcap; simp [maxLen]
    · injection hv with _ _ hcap; subst hcap; exact ⟨hc, hm⟩
  exact ⟨by have := h.1; simpa using this.symm, hx.1, hx.2, (Reads.of_own h).more fun _ h => h.2⟩
def RetSome (w : World) (n : Nat) (e : Ending) (w' : World) : Prop := ∃ A c bs, e = .returned (.slice A n c) ∧ Bools w' A n c bs ∧ Below w.heap.size w w'

set_option maxHeartbeats 2000000 in
set_option maxRecDepth 100000 in
theorem truths_any (w : World) (N m K : Nat) (hK : K = N + 1) (hN : N ≤ 64) (hm : m ≤ 65536) :
    Calls Try.prog 30 #[.int .i64 N, .int .i64 m] w (RetSome w K) := by
  have HK := Lib.hid hK
  have hK64 : K ≤ 65 := by omega
  have hNK : N < K := by omega
  clear hK
  obtain ⟨i1, hi1, hy0, hy1, hy2⟩ := info_parts4 bool_info
  go_enter Try.func30, Try.ntmps30
  go_wp2_with (first
    | (at_make
       (refine wpList_make_full _ rfl _ _ _ rfl w.heap.size 4 i1 _ 1 Try.underlying48 hi1 hy0 hy1 .i64 .i64 ((N : Int) + 1) ((N : Int) + 1) K (by rfl) (by rfl) (by have := HK.out; omega) (by have := HK.out; omega) (by rw [hy2]; omega) (by simp only [maxLen]; omega) (Nat.le_refl _) ?_)
       intro w4 hown4 hg4))
  have hb4 : Below w.heap.size w w4 := (Below.refl _ _).grown hg4 (Nat.le_refl _) (by simp)
  have hown4' : w4.ownsRow w.heap.size 4 1 (.slice (some ⟨w.heap.size, 0, none⟩) K K) K ((List.replicate K false).map Value.bool) := by
    have e : (madeCells (Value.cells (.bool false)) (K * 1)).toList = (List.replicate K false).map Value.bool := by
      show (madeCells #[.bool false] (K * 1)).toList = _
      rw [toList_madeCells_one]; simp
    rw [e] at hown4
    exact hown4
  clear hown4 hg4 hi1 hy0 hy1 hy2
  generalize hgg : w.heap.size = g at *
  have HGG := Lib.hid hgg
  clear hgg
  go_loopw [6] (fun v wy => ∃ (i : Nat) (bs : List Bool), i ≤ N ∧ v = .int .i64 ((i : Int) + 1) ∧ wy.ownsRow g 4 1 (.slice (some ⟨g, 0, none⟩) K K) K (bs.map Value.bool) ∧ Below g w wy) (fun v _ => N + 1 - (intOf v).toNat)
  case atStart => exact ⟨0, _, Nat.zero_le _, by simp, hown4', hb4⟩
  case round =>
    clear hown4' hb4
    obtain ⟨i, bs, hi, rfl, hown, hb⟩ := hrel
    have hbl : bs.length = K := by have := hown.1; simp at this; omega
    by_cases hil : i < N
    case pos =>
      have hfz := hown.frozenAt (i + 1)
      obtain ⟨u, hu⟩ : ∃ u, wr.cell? ⟨g, i + 1, none⟩ = some u := by
        rw [hown.cellAt (i + 1) (by omega)]
        exact ⟨_, List.getElem?_eq_getElem (by rw [List.length_map]; omega)⟩
      have hs1 := fun b : Bool => hown.stored (i + 1) (.bool b)
      have hg1 : g ≤ (⟨g, i + 1, none⟩ : Addr).block := Nat.le_refl _
      have HO : Hid (∀ b : Bool, (wr.setCell ⟨g, i + 1, none⟩ (.bool b)).ownsRow g 4 1 (.slice (some ⟨g, 0, none⟩) K K) K ((bs.set (i + 1) b).map Value.bool)) := fun b => by
        have h := (hs1 b).1
        rw [← List.map_set] at h
        exact h
      have HB9 : Hid (∀ b : Bool, Below g w (wr.setCell ⟨g, i + 1, none⟩ (.bool b))) := fun b => hb.setCell hg1 _
      have hq : decide ((i : Int) + 1 ≤ (N : Int)) = true := by simp; omega
      have z1 : (0 : Int) ≤ (i : Int) + 1 := by omega
      have z2 : (i : Int) + 1 < (K : Int) := by omega
      clear hs1 hown hb hg1 hbl
      go_wp2
      go_roundw
      case rel => exact ⟨i + 1, _, by omega, by go_num, HO.out _, HB9.out _⟩
      case measure => simp [intOf]; omega
    obtain rfl : i = N := by omega
    have hq : decide ((i : Int) + 1 ≤ (i : Int)) = false := by simp; omega
    have HBO := Lib.hid (Bools.of_own hown)
    have HB := Lib.hid hb
    clear hown hb hbl
    go_wp2
    go_ret
    exact ⟨_, _, bs, rfl, HBO.out, by rw [HGG.out]; exact HB.out⟩
end Go.Proofs.Ytelgabamdhaplaa
