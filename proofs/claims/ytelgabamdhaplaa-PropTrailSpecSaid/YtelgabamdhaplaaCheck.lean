/-
  cnf.Check: what it answers.
-/
import Derived.Test.YtelgabamdhaplaaHolds
namespace Go.Proofs.Ytelgabamdhaplaa
open Go.RowKit

def badB (cs : List (List Int)) (N : Int) : Bool := cs.any fun l => l.any fun x => !mayB x N
def checkR (N : Int) (cs : List (List Int)) : Int := if N < 0 ∨ 65536 < N then 1 else if badB cs N = true then 1 else if 65536 < cs.length then 2 else 0

set_option maxHeartbeats 400000 in
theorem check1 (w : World) (x N : Int) (b : Nat) (v : Value) (h0 : 0 ≤ N) (h1 : N ≤ 65536) (hb : w.heap[b]? = some (.cells #[.int .i64 N, v] 24 (0, 0))) :
    Calls Try.prog 43 #[.int .i64 x, .pointer (some ⟨b, 0, none⟩)] w (RetBoolBelow w (!mayB x N)) := by
  have hc : w.cell? ⟨b, 0, none⟩ = some (.int .i64 N) := by rw [cell_of_row w b 0 _ _ _ hb]; rfl
  have CALL := Lib.hid (may_any w x N h0 h1)
  clear hb
  generalize mayB x N = r at *
  go_enter Try.func43, Try.ntmps43
  go_wp2_with (fail)
  (with_reducible refine CALL.out.mono ?_)
  rintro e w1 ⟨rfl, rfl⟩
  go_wp2_with (fail)
  go_ret
  exact ⟨rfl, Below.refl _ _⟩

theorem anyR_snoc {p : List Int → Bool} {xs : List (List Int)} {k : Nat} (hk : k < xs.length) (h0 : (xs.take k).any p = false) (h1 : p (xs.getD k []) = false) : (xs.take (k + 1)).any p = false := by
  rw [List.getD_eq_getElem?_getD, List.getElem?_eq_getElem hk] at h1
  simp only [Option.getD_some] at h1
  rw [List.take_succ_eq_append_getElem hk, List.any_append, h0]
  simp [h1]
theorem anyR_hit {p : List Int → Bool} {xs : List (List Int)} {k : Nat} (hk : k < xs.length) (h1 : p (xs.getD k []) = true) : xs.any p = true := by
  rw [List.getD_eq_getElem?_getD, List.getElem?_eq_getElem hk] at h1
  simp only [Option.getD_some] at h1
  exact List.any_eq_true.2 ⟨_, List.getElem_mem hk, h1⟩

set_option maxHeartbeats 1000000 in
theorem check_any (w : World) (N : Int) (A : Option Addr) (n c : Nat) (cs : List (List Int)) (hR : Rows2 w A n c cs) :
    Calls Try.prog 28 #[.agg #[.int .i64 N, .slice A n c]] w (RetIntBelow w (checkR N cs)) := by
  have hc := hR.cap
  have hm := hR.max
  unfold maxLen at hm
  have hal := alloc_lt (w := w) (.cells #[.int .i64 N, .slice A n c] 24)
  have hnew : (w.alloc (.cells #[.int .i64 N, .slice A n c] 24)).heap[w.heap.size]? = some (.cells #[.int .i64 N, .slice A n c] 24 (0, 0)) := heap_alloc_new w _
  have HNEW := Lib.hid hnew
  have HAL := Lib.hid hal
  have HR := Lib.hid (hR.belowLt hal)
  have HLEN := Lib.hid hR.len
  clear hR hnew hal
  by_cases h1 : N < 0
  · have e : checkR N cs = 1 := by unfold checkR; rw [if_pos (.inl h1)]
    rw [e]; clear e
    go_enter Try.func28, Try.ntmps28
    go_wp2
    go_ret
    exact ⟨rfl, HAL.out⟩
  by_cases h2 : 65536 < N
  · have e : checkR N cs = 1 := by unfold checkR; rw [if_pos (.inr h2)]
    rw [e]; clear e
    go_enter Try.func28, Try.ntmps28
    go_wp2
    go_ret
    exact ⟨rfl, HAL.out⟩
  have k1 : 0 ≤ N := by omega
  have k2 : N ≤ 65536 := by omega
  have d1 : decide (N < 0) = false := by simpa using h1
  have d2 : decide (65536 < N) = false := by simpa using h2
  have he : checkR N cs = if badB cs N = true then 1 else if 65536 < cs.length then 2 else 0 := by unfold checkR; rw [if_neg (by omega)]
  rw [he]
  clear he
  generalize hres : (if badB cs N = true then (1 : Int) else if 65536 < cs.length then 2 else 0) = res
  have HRES := Lib.hid hres
  clear hres
  go_enter Try.func28, Try.ntmps28
  go_wp2
  clear d1 d2
  go_loopw [16] (fun i wr => ∃ k : Nat, k ≤ n ∧ i = .int .i64 k ∧ (cs.take k).any (fun l => l.any fun x => !mayB x N) = false ∧ Below (w.heap.size + 1) (w.alloc (.cells #[.int .i64 N, .slice A n c] 24)) wr) (fun i _ => n - (intOf i).toNat)
  case atStart => exact ⟨0, Nat.zero_le _, rfl, by simp, Below.refl _ _⟩
  case round =>
    obtain ⟨k, hk, rfl, hany, hbl⟩ := hrel
    have hbl' : Below (w.alloc (.cells #[.int .i64 N, .slice A n c] 24)).heap.size (w.alloc (.cells #[.int .i64 N, .slice A n c] 24)) wr := by simpa using hbl
    have HA := Lib.hid hany
    have HBW := Lib.hid hbl'
    have hbox := (hbl.block w.heap.size (by omega)).trans HNEW.out
    have HBOX := Lib.hid hbox
    clear hany hbl hbl' hbox
    by_cases hlt : k < n
    · obtain ⟨ad, B1, m1, k1', rfl, hadS, hcell, hr1⟩ := HR.out.at_ hlt
      have e1 := (HBW.out.cell (p := ad.add k) (by rw [block_of_add]; exact hadS)).trans hcell
      have hrw := hr1.belowLt HBW.out
      have ht : Tests wr 43 #[.pointer (some ⟨w.heap.size, 0, none⟩)] (cs.getD k []) (fun x => !mayB x N) := fun x _ w' hb => check1 w' x N w.heap.size (.slice (some ad) n c) k1 k2 ((hb.block _ (lt_of_block HBOX.out)).trans HBOX.out)
      have call := contains1 wr B1 m1 k1' (cs.getD k []) 43 (.pointer (some ⟨w.heap.size, 0, none⟩)) (fun x => !mayB x N) hrw ht (fun _ _ => by kernel_rfl)
      clear hcell hadS hr1 hrw ht
      cases hp : (cs.getD k []).any (fun x => !mayB x N)
      · rw [hp] at call
        have HN := Lib.hid (anyR_snoc (p := fun l => l.any fun x => !mayB x N) (by have := HLEN.out; omega) HA.out hp)
        have CALL := Lib.hid call
        clear hp call
        go_wp2_with (fail)
        (with_reducible refine CALL.out.mono ?_)
        rintro e w1 ⟨rfl, hb1⟩
        have hb2 := below_then HBW.out hb1
        have HB2 : Hid (Below (w.heap.size + 1) (w.alloc (.cells #[.int .i64 N, .slice (some ad) n c] 24)) w1) := by
          have := hb2
          rw [show (w.alloc (.cells #[.int .i64 N, .slice (some ad) n c] 24)).heap.size = w.heap.size + 1 by simp] at this
          exact this
        clear hb1 hb2
        go_wp2_with (fail)
        go_roundw
        case rel => exact ⟨k + 1, by omega, by go_num, HN.out, HB2.out⟩
        case measure => simp [intOf]; omega
      · rw [hp] at call
        have HN : Hid (badB cs N = true) := anyR_hit (p := fun l => l.any fun x => !mayB x N) (by have := HLEN.out; omega) hp
        have CALL := Lib.hid call
        clear hp call
        go_wp2_with (fail)
        (with_reducible refine CALL.out.mono ?_)
        rintro e w1 ⟨rfl, hb1⟩
        go_wp2_with (fail)
        go_ret
        exact ⟨by rw [← HRES.out, if_pos HN.out]; rfl, below_then (below_then HAL.out HBW.out) hb1⟩
    · have HN : Hid (badB cs N = false) := by have := HA.out; rwa [List.take_of_length_le (by have := HLEN.out; omega)] at this
      have hcL : wr.cell? ⟨w.heap.size, 1, none⟩ = some (.slice A n c) := by rw [cell_of_row wr w.heap.size 1 _ _ _ HBOX.out]; rfl
      have hfin : (if badB cs N = true then (1 : Int) else if 65536 < cs.length then 2 else 0) = if 65536 < n then 2 else 0 := by rw [HN.out, HLEN.out]; simp
      have HFIN := Lib.hid hfin
      clear hfin
      by_cases hn6 : 65536 < n
      · go_wp2
        go_ret
        exact ⟨by rw [← HRES.out, HFIN.out, if_pos hn6]; rfl, below_then HAL.out HBW.out⟩
      · go_wp2
        go_ret
        exact ⟨by rw [← HRES.out, HFIN.out, if_neg hn6]; rfl, below_then HAL.out HBW.out⟩
end Go.Proofs.Ytelgabamdhaplaa
