/-
  chalklineref14.Check: the same as cnf.Check.
-/
import Derived.Test.YtelgabamdhaplaaRefTrail
namespace Go.Proofs.Ytelgabamdhaplaa
open Go.RowKit

theorem quiet_bool {P : Program} {f : FuncId} {args : Array Value} {w : World} {n : Nat} {b : Bool} (h : Calls P f args (w.drewN n) (RetBoolSame (w.drewN n) b)) : Calls P f args (w.drewN n) fun e w'' => e = .returned (.bool b) ∧ ∃ m, w'' = w.drewN m :=
  h.mono fun _ _ ⟨he, hm⟩ => ⟨he, n, hm.symm⟩
theorem below_drewN {B : Nat} {w w' : World} (h : Below B w w') (n : Nat) : Below B w (w'.drewN n) := ⟨h.os, h.tape, h.output, h.size, h.block⟩

set_option maxHeartbeats 4000000 in
set_option maxRecDepth 100000 in
theorem check14_any (w : World) (N : Int) (A : Option Addr) (n c : Nat) (cs : List (List Int)) (hR : Rows2 w A n c cs) :
    Calls Try.prog 38 #[.agg #[.int .i64 N, .slice A n c]] w (RetIntBelow w (checkR N cs)) := by
  have hc := hR.cap
  have hm := hR.max
  unfold maxLen at hm
  obtain ⟨W, hW⟩ : ∃ W, W = w.alloc (.cells #[.int .i64 N, .slice A n c] 24) := ⟨_, rfl⟩
  have hal : Below w.heap.size w W := by rw [hW]; exact alloc_lt _
  have hnew : W.heap[w.heap.size]? = some (.cells #[.int .i64 N, .slice A n c] 24 (0, 0)) := by rw [hW]; exact heap_alloc_new w _
  have c0 : W.cell? ⟨w.heap.size, 0, none⟩ = some (.int .i64 N) := by rw [cell_of_row _ _ _ _ _ _ hnew]; rfl
  have c1 : W.cell? ⟨w.heap.size, 1, none⟩ = some (.slice A n c) := by rw [cell_of_row _ _ _ _ _ _ hnew]; rfl
  have HLT := Lib.hid (lt_of_block hnew)
  have HAL := Lib.hid hal
  have HR := Lib.hid (hR.belowLt hal)
  have HLEN := Lib.hid hR.len
  clear hR hnew hal
  by_cases h1 : N < 0
  · have e : checkR N cs = 1 := by unfold checkR; rw [if_pos (.inl h1)]
    rw [e]; clear e
    go_enter Try.func38, Try.ntmps38
    go_upto_region 1 with (fail)
    rw [← hW]
    clear hW
    go_wp2
    go_ret
    exact ⟨rfl, HAL.out⟩
  by_cases h2 : 65536 < N
  · have e : checkR N cs = 1 := by unfold checkR; rw [if_pos (.inr h2)]
    rw [e]; clear e
    have d1 : decide (N < 0) = false := by simpa using h1
    go_enter Try.func38, Try.ntmps38
    go_upto_region 1 with (fail)
    rw [← hW]
    clear hW
    go_wp2
    go_ret
    exact ⟨rfl, HAL.out⟩
  have k1 : 0 ≤ N := by omega
  have k2 : N ≤ 65536 := by omega
  have d1 : decide (N < 0) = false := by simpa using h1
  have d2 : decide (65536 < N) = false := by simpa using h2
  have he : checkR N cs = if badB cs N = true then 1 else if 65536 < cs.length then 2 else 0 := by unfold checkR; rw [if_neg (by omega)]
  rw [he]
  clear he h1 h2
  generalize hres : (if badB cs N = true then (1 : Int) else if 65536 < cs.length then 2 else 0) = res
  have HRES := Lib.hid hres
  have IS := Lib.hid (fun w x => is_any w x N k1 k2)
  clear hres
  go_enter Try.func38, Try.ntmps38
  go_upto_region 1 with (fail)
  rw [← hW]
  clear hW
  go_wp2
  clear d1 d2
  have C0 := Lib.hid c0
  have C1 := Lib.hid c1
  clear c0 c1
  go_loopw [3, 4] (fun v3 _ wr => ∃ i : Nat, i ≤ n ∧ v3 = .int .i64 i ∧ (cs.take i).any (fun l => l.any fun x => !mayB x N) = false ∧ Below W.heap.size W wr) (fun v3 _ _ => n - (intOf v3).toNat)
  case atStart => exact ⟨0, Nat.zero_le _, rfl, by simp, Below.refl _ _⟩
  case round =>
    obtain ⟨i, hi, rfl, hany, hb⟩ := hrel
    have HA := Lib.hid hany
    have HB := Lib.hid hb
    have e0 := (hb.cell HLT.out).trans C0.out
    have e1 := (hb.cell HLT.out).trans C1.out
    clear hany
    by_cases hlt : i < n
    case neg =>
      obtain rfl : n = i := by omega
      have hbad : badB cs N = false := by
        unfold badB
        have := HA.out
        rwa [List.take_of_length_le (by have := HLEN.out; omega)] at this
      have hl := HLEN.out
      by_cases hbig : 65536 < n
      · have HE : Hid (res = 2) := by
          show res = 2
          rw [← HRES.out, hbad, if_neg (by simp), if_pos (by omega)]
        clear hbad hb hl
        go_wp2
        go_ret
        exact ⟨by rw [HE.out]; rfl, below_then HAL.out HB.out⟩
      · have HE : Hid (res = 0) := by
          show res = 0
          rw [← HRES.out, hbad, if_neg (by simp), if_neg (by omega)]
        clear hbad hb hl
        go_wp2
        go_ret
        exact ⟨by rw [HE.out]; rfl, below_then HAL.out HB.out⟩
    obtain ⟨ad, B1, m1, k1', rfl, hadS, hcell, hr1⟩ := HR.out.at_ hlt
    have HAS := Lib.hid hadS
    have HCL := Lib.hid hcell
    have HR1 := Lib.hid hr1
    have HL1 := Lib.hid hr1.len
    have z1 : (0 : Int) ≤ (i : Int) := by omega
    have z2 : (i : Int) < (n : Int) := by omega
    have hk1 := hr1.cap
    have hm1 := hr1.max
    unfold maxLen at hm1
    clear hadS hcell hr1 hb
    obtain ⟨l, hl⟩ : ∃ l, l = cs.getD i [] := ⟨_, rfl⟩
    rw [← hl] at HR1 HL1
    have HLL := Lib.hid hl
    clear hl
    go_wp2
    go_loopw [4] (fun v4 wy => ∃ j : Nat, j ≤ m1 ∧ v4 = .int .i64 j ∧ (l.take j).any (fun x => !mayB x N) = false ∧ Below W.heap.size W wy) (fun v4 _ => m1 - (intOf v4).toNat)
    case atStart => exact ⟨0, Nat.zero_le _, rfl, by simp, HB.out⟩
    case round =>
      obtain ⟨j, hj, rfl, hany, hb⟩ := hrel
      have HA2 := Lib.hid hany
      have HB2 := Lib.hid hb
      have f0 := (hb.cell HLT.out).trans C0.out
      have f1 := (hb.cell HLT.out).trans C1.out
      have g1 := (hb.cell (p := ad.add i) (by rw [block_of_add]; exact HAS.out)).trans HCL.out
      clear hany e0 e1
      by_cases hjl : j < m1
      · obtain ⟨ad2, rfl, hadS2, hc2⟩ := HR1.out.at_ hjl
        have g2 := (hb.cell (p := ad2.add j) (by rw [block_of_add]; exact hadS2)).trans hc2
        have z3 : (0 : Int) ≤ (j : Int) := by omega
        have z4 : (j : Int) < (m1 : Int) := by omega
        clear hadS2 hc2 hb
        have IX := Lib.hid (fun w => IS.out w (l.getD j 0))
        cases hv : mayB (l.getD j 0) N
        · rw [hv] at IX
          have HE : Hid (res = 1) := by
            show res = 1
            have hbad : badB cs N = true := by
              unfold badB
              refine List.any_eq_true.2 ⟨l, ?_, List.any_eq_true.2 ⟨l.getD j 0, ?_, by rw [hv]; rfl⟩⟩
              · rw [HLL.out, List.getD_eq_getElem?_getD, List.getElem?_eq_getElem (by have := HLEN.out; omega)]; simp
              · rw [List.getD_eq_getElem?_getD, List.getElem?_eq_getElem (by have := HL1.out; omega)]; simp
            rw [← HRES.out, hbad, if_pos rfl]
          clear hv
          generalize l.getD j 0 = x at *
          go_wp2
          go_quiet ((go_at_call 39; exact quiet_bool (IX.out _)))
          go_wp2
          go_ret
          exact ⟨by rw [HE.out]; rfl, below_then HAL.out (below_drewN HB2.out _)⟩
        · rw [hv] at IX
          have HN := Lib.hid (byAny_snoc (p := fun x => !mayB x N) (by have := HL1.out; omega) HA2.out (by rw [hv]; rfl))
          clear hv
          generalize l.getD j 0 = x at *
          go_wp2
          go_quiet ((go_at_call 39; exact quiet_bool (IX.out _)))
          go_wp2
          go_roundw
          case rel => exact ⟨j + 1, by omega, by go_num, HN.out, below_drewN HB2.out _⟩
          case measure => simp [intOf]; omega
      obtain rfl : m1 = j := by omega
      have hfull := HA2.out
      rw [List.take_of_length_le (by have := HL1.out; omega)] at hfull
      have HN := Lib.hid (anyR_snoc (p := fun l => l.any fun x => !mayB x N) (by have := HLEN.out; omega) HA.out (by rw [← HLL.out]; exact hfull))
      clear hfull hb
      go_wp2
      go_roundw
      case rel => exact ⟨i + 1, by omega, by go_num, HN.out, HB2.out⟩
      case measure => simp [intOf]; omega
end Go.Proofs.Ytelgabamdhaplaa
