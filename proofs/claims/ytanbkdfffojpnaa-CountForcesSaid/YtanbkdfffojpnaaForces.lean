/-
  chalklinelaw16.CountForces: the walk.
-/
import Derived.Test.YtanbkdfffojpnaaForced
namespace Go.Proofs.Ytanbkdfffojpnaa
open Go.RowKit

/-- The values at the start: the first i variables are set. -/
def trI (a : List Bool) (N i : Nat) : List Int := (a.take i).map (fun b => if b = true then (1 : Int) else -1) ++ List.replicate (N - i) 0
theorem trI_len {a : List Bool} {N i : Nat} (h : i ≤ a.length) (h2 : i ≤ N) : (trI a N i).length = N := by simp [trI]; omega
theorem trI_get {a : List Bool} {N i v : Nat} (h : i ≤ a.length) : (trI a N i).getD v 0 = if v < i then (if a.getD v false = true then 1 else -1) else 0 := by
  unfold trI
  rw [List.getD_eq_getElem?_getD]
  by_cases hv : v < i
  · rw [if_pos hv, List.getElem?_append_left (by simp; omega), List.getElem?_map, List.getElem?_take, if_pos hv, List.getD_eq_getElem?_getD, List.getElem?_eq_getElem (by omega)]
    rfl
  · rw [if_neg hv, List.getElem?_append_right (by simp; omega)]
    simp [List.getElem?_replicate]
    split <;> rfl
theorem trI_tri {a : List Bool} {N i : Nat} (h : i ≤ a.length) : Tri (trI a N i) := fun v => by
  rw [trI_get h]
  split
  · split <;> simp
  · simp
theorem trI_set {a : List Bool} {N i : Nat} (h : i < a.length) (h2 : i < N) : trI a N (i + 1) = (trI a N i).set i (if a.getD i false = true then 1 else -1) := by
  apply List.ext_getElem?
  intro v
  have l1 := trI_len (a := a) (N := N) (i := i + 1) (by omega) (by omega)
  have l2 := trI_len (a := a) (N := N) (i := i) (by omega) (by omega)
  by_cases hv : v < N
  · have g1 := trI_get (a := a) (N := N) (i := i + 1) (v := v) (by omega)
    have g2 := trI_get (a := a) (N := N) (i := i) (v := v) (by omega)
    rw [List.getD_eq_getElem?_getD, List.getElem?_eq_getElem (by omega)] at g1 g2
    simp only [Option.getD_some] at g1 g2
    rw [List.getElem?_eq_getElem (by omega), g1, List.getElem?_set]
    by_cases hi : i = v
    · subst hi
      rw [if_pos (show i < i + 1 by omega), if_pos rfl]
      have h3 : i < (trI a N i).length := by omega
      simp [h3]
    · rw [if_neg hi, List.getElem?_eq_getElem (by omega), g2]
      congr 1
      by_cases h3 : v < i
      · rw [if_pos (by omega), if_pos h3]
      · rw [if_neg (by omega), if_neg h3]
  · rw [List.getElem?_eq_none (by omega), List.getElem?_eq_none (by simp; omega)]
/-- THE LAW: unit propagation finds a conflict exactly if fewer than k literals are true. -/
theorem forces_law {l : List Int} {k : Int} {a : List Bool} {N : Nat} (h0 : (leastR l k a.length).err = 0) (hN : (leastR l k a.length).after = N) : forcedF (leastR l k a.length).cs (N + 1) (trI a N a.length) = decide ((manyT l a : Int) < k) := by
  obtain ⟨hr, hge, hle, hcs⟩ := leastR_after h0
  obtain ⟨h1, h2, h3, hA⟩ := right_among hr
  rw [manyT_count hA (Int.le_refl _)]
  have hcl : l.countP (sval (varT a)) ≤ l.length := List.countP_le_length
  have haN : a.length ≤ N := by omega
  have hlen := trI_len (Nat.le_refl a.length) haN
  have hrange : ∀ x ∈ (leastR l k a.length).cs, ∀ y ∈ x, y ≠ 0 ∧ y.natAbs < (trI a N a.length).length := fun x hx y hy => by
    have := hcs x hx y hy
    rw [hlen]
    exact ⟨this.1, by have := this.2; omega⟩
  by_cases hc : k ≤ l.countP (sval (varT a))
  · rw [decide_eq_false (by omega)]
    have hcomp := leastR_complete h0 (mid := []) (post := []) hA (by simp) hc
    refine forced_no (s := varT (a ++ ([] ++ (regsL a l k ++ [])))) (fun v hv => ?_) hrange hcomp
    rw [trI_get (Nat.le_refl _)]
    by_cases hva : v < a.length
    · rw [if_pos hva]
      have e : varT (a ++ ([] ++ (regsL a l k ++ []))) v = a.getD v false := by
        unfold varT
        rw [List.getD_eq_getElem?_getD, List.getElem?_append_left hva, ← List.getD_eq_getElem?_getD]
      rw [e]
      cases a.getD v false
      · right; left; exact ⟨rfl, rfl⟩
      · left; exact ⟨rfl, rfl⟩
    · rw [if_neg hva]; right; right; rfl
  · rw [decide_eq_true (by omega)]
    by_cases hk2 : (l.length : Int) < k
    · rw [leastR_over hr (by omega) hk2]
      rfl
    obtain ⟨m, rfl⟩ := Int.eq_ofNat_of_zero_le (show 0 ≤ k by omega)
    by_cases hb : 65536 < (a.length : Int) + regs l.length m - 1 ∨ 65536 < 2 * (regs l.length m : Int) - l.length + 1
    · rw [leastR_bound hr (by omega) (by omega) hb] at h0; cases h0
    rw [leastR_ok hr (by omega) (by omega) hb] at hrange hN ⊢
    have hN' : beginAt (a.length : Int) m l.length = N := hN
    refine forced_yes (s := varT a) h1 (fun x hx => ⟨(hA x hx).1, (hA x hx).2⟩) (by rw [hlen, hN']; exact Int.le_refl _) (fun x hx => ?_) (trI_tri (Nat.le_refl _)) (by omega) (by omega) (fun x hx y hy => (hrange x hx y hy).2) (by omega)
    have hxa := hA x hx
    have hlt : x.natAbs < a.length := by have := hxa.2; omega
    unfold litV sval varT
    rw [trI_get (Nat.le_refl _), if_pos hlt]
    by_cases hneg : x < 0
    · rw [if_pos hneg]
      have : decide (0 < x) = false := by simp; omega
      rw [this]
      cases a.getD x.natAbs false <;> rfl
    · rw [if_neg hneg]
      have : decide (0 < x) = true := by have := hxa.1; simp; omega
      rw [this]
      cases a.getD x.natAbs false <;> rfl

set_option maxHeartbeats 4000000 in
set_option maxRecDepth 100000 in
theorem forces_walk (w : World) (n c : Nat) (A : Option Addr) (xs : List Int) (k : Int) (n' c' : Nat) (A' : Option Addr) (bs : List Bool) (hI : Ints w (Lt w) A n c xs) (hf : Fits xs) (hk : (Lit.int .i64 k).wf = true) (hB : Bools w A' n' c' bs) :
    Calls Try.prog 5 #[.slice A n c, .int .i64 k, .slice A' n' c'] w (RetBoolBelow w true) := by
  have hlen := hI.len
  have hIc := hI.cap
  have hIm := hI.max
  have hlb := hB.len
  have hBc := hB.cap
  have hBm := hB.max
  unfold maxLen at hIm hBm
  have HI := Lib.hid hI
  have HF := Lib.hid hf
  have HK := Lib.hid hk
  have HB := Lib.hid hB
  have HL := Lib.hid hlen
  have HLB := Lib.hid hlb
  have LIVE := Lib.hid (live_any w)
  obtain ⟨i0, hi0, hz0, hz1, hz2⟩ := info_parts bool_info
  clear hI hf hk hB hlen hlb
  by_cases g1 : 30 < n'
  case pos =>
    go_enter Try.func5, Try.ntmps5
    go_wp2_with (fail)
    (with_reducible refine LIVE.out.mono ?_)
    rintro e w1 ⟨rfl, hb1⟩
    go_wp2
    go_ret
    exact ⟨rfl, hb1⟩
  have d1 : decide ((30 : Int) < (n' : Int)) = false := by simp; omega
  by_cases g2 : 30 < n
  case pos =>
    go_enter Try.func5, Try.ntmps5
    go_wp2_with (fail)
    (with_reducible refine LIVE.out.mono ?_)
    rintro e w1 ⟨rfl, hb1⟩
    go_wp2
    go_ret
    exact ⟨rfl, hb1⟩
  have d2 : decide ((30 : Int) < (n : Int)) = false := by simp; omega
  go_enter Try.func5, Try.ntmps5
  go_wp2_with (fail)
  (with_reducible refine LIVE.out.mono ?_)
  rintro e w1 ⟨rfl, hb1⟩
  have hal := alloc_lt (w := w1) (.cells #[.bool false] 4)
  have hrd := ((HB.out.belowLt hb1).belowLt hal).reads
  have HB1 := Lib.hid (below_then hb1 hal)
  have HBW1 := Lib.hid hb1.size
  clear hb1 hal LIVE
  go_wp2_with (first
    | (at_builtin
       refine wpList_append_any _ rfl (.tmp 24) (.tmp 25) _ rfl w1.heap.size 4 i0 _ 1 1 Try.underlying30 hi0 hz0 hz1 hz2 rfl (by omega) (.slice (some ⟨w1.heap.size, 0, none⟩) 1 1) 1 [.bool false] (by rfl) (one_false w1) _ A' n' c' _ (by rfl) hrd (bools_oneCell _) (by simp only [maxLen]; omega) (by omega) (by simp) ?_
       intro v2 w2 hown2 hg2 hat2
       obtain ⟨A2, c2, rfl⟩ := own_form hown2))
  have hB2 : Below w.heap.size w w2 := HB1.out.grown hg2 (by have := HB1.out.size; simpa using this) (fun g hg => by
    have e : g = w1.heap.size := by simpa [Value.ownBlock] using hg.symm
    have := HB1.out.size
    simp at this
    have := HBW1.out
    omega)
  have hBa : Bools w2 A2 (1 + n') c2 (false :: bs) := Bools.of_own (e := 4) (base := w1.heap.size) hown2
  have hal : ((false :: bs).length : Int) = 1 + (n' : Int) := by rw [List.length_cons, ← HLB.out]; omega
  have HAL := Lib.hid hal
  have HBA := Lib.hid hBa
  have HB2 := Lib.hid hB2
  have call1 := least_t w2 n c A xs k (1 + (n' : Int)) (HI.out.belowLt hB2) HF.out HK.out
  have CALL1 := Lib.hid call1
  clear hown2 hg2 hat2 hB2 hBa hal call1 HB HB1 hrd
  (with_reducible refine CALL1.out.mono ?_)
  rintro e w3 ⟨A3, n3, c3, rfl, hr3, hb3⟩
  have HR3 := Lib.hid hr3
  have HBA3 := Lib.hid (HBA.out.belowLt hb3)
  have HB3 := Lib.hid (below_then HB2.out hb3)
  have hx60 : xs.length ≤ 60 := by have := HL.out; omega
  have e1 := leastR_room (k := k) hx60 (show 1 + (n' : Int) ≤ 30000 by omega)
  by_cases hr : rightR xs (1 + (n' : Int)) = 0
  case neg =>
    have q1 := leastR_bad0 (show (leastR xs k (1 + (n' : Int))).err ≠ 0 by rw [e1]; exact hr)
    have l3 := HR3.out.len
    rw [q1.1] at l3
    obtain rfl : n3 = 0 := l3
    rw [e1]
    have hne : (rightR xs (1 + (n' : Int)) != 0) = true := by simpa using hr
    clear q1 e1 HR3 hr
    generalize rightR xs (1 + (n' : Int)) = er at *
    generalize (leastR xs k (1 + (n' : Int))).after = af1 at *
    go_wp2_with (fail)
    go_ret
    exact ⟨by simp, HB3.out⟩
  rw [hr] at e1
  rw [e1]
  have hs := small_of_right hr
  have HS := Lib.hid hs
  obtain ⟨_, f1, f2, f3⟩ := leastR_after e1
  obtain ⟨N, hN⟩ := Int.eq_ofNat_of_zero_le (show 0 ≤ (leastR xs k (1 + (n' : Int))).after by omega)
  have k1 : (leastR xs k ((false :: bs).length : Int)).err = 0 := by rw [HAL.out]; exact e1
  have k2 : (leastR xs k ((false :: bs).length : Int)).after = N := by rw [HAL.out]; exact hN
  have hlaw := forces_law k1 k2
  rw [HAL.out] at hlaw
  have hrange : ∀ x ∈ (leastR xs k (1 + (n' : Int))).cs, ∀ y ∈ x, y ≠ 0 ∧ y.natAbs < N := fun x hx y hy => by
    have := f3 x hx y hy
    exact ⟨this.1, by have := this.2; omega⟩
  have hNs : N ≤ 30000 := by
    have hg : (leastR xs k (1 + (n' : Int))).after ≤ 30000 := by
      by_cases hk0 : k ≤ 0
      · rw [leastR_none hr hk0]; show 1 + (n' : Int) ≤ 30000; omega
      by_cases hk2 : (xs.length : Int) < k
      · rw [leastR_over hr hk0 hk2]; show 1 + (n' : Int) ≤ 30000; omega
      obtain ⟨m, rfl⟩ := Int.eq_ofNat_of_zero_le (show 0 ≤ k by omega)
      have hreg : regs xs.length m ≤ 7200 := by
        have a1 : m * (m - 1) ≤ 60 * 60 := Nat.mul_le_mul (by omega) (by omega)
        have a2 : m * (xs.length - m + 1) ≤ 60 * 60 := Nat.mul_le_mul (by omega) (by omega)
        unfold regs
        generalize m * (m - 1) = p at *
        generalize m * (xs.length - m + 1) = q at *
        omega
      rw [leastR_ok hr (by omega) (by omega) (by omega)]
      show beginAt (1 + (n' : Int)) m xs.length ≤ 30000
      rw [beginAt_sum, sumM_regs (by omega) (by omega)]
      omega
    omega
  rw [hN]
  have hN1 : 1 + n' ≤ N := by omega
  have HRANGE := Lib.hid hrange
  have HLAW := Lib.hid hlaw
  clear k1 k2 hr hs e1 f1 f2 f3 hN hlaw hrange
  generalize (leastR xs k (1 + (n' : Int))).cs = cs at *
  obtain ⟨i1, hi1, hy0, hy1, hy2⟩ := info_parts int_info
  have d5 : decide ((N : Int) < 1 + (n' : Int)) = false := by simp; omega
  go_wp2_with (first
    | (at_make
       go_must (refine wpList_make_full _ rfl _ _ _ rfl w3.heap.size 3 i1 _ 1 Try.underlying22 hi1 hy0 hy1 .i64 .i64 _ _ N (by rfl) (by rfl) (by rfl) (by rfl) (by rw [hy2]; omega) (by simp only [maxLen]; omega) (Nat.le_refl _) ?_)
       intro w4 hown4 hg4))
  have hb4 : Below w3.heap.size w3 w4 := (Below.refl _ _).grown hg4 (Nat.le_refl _) (by simp)
  have hown4' : w4.ownsRow w3.heap.size 3 1 (.slice (some ⟨w3.heap.size, 0, none⟩) N N) N ((trI (false :: bs) N 0).map (Value.int .i64)) := by
    have e : (madeCells (Value.cells (.int .i64 0)) (N * 1)).toList = (trI (false :: bs) N 0).map (Value.int .i64) := by
      show (madeCells #[.int .i64 0] (N * 1)).toList = _
      rw [toList_madeCells_one]; simp [trI]
    rw [e] at hown4
    exact hown4
  have HBA4 := Lib.hid (HBA3.out)
  have HLA : Hid (1 + n' = (false :: bs).length) := by show 1 + n' = (false :: bs).length; rw [List.length_cons, ← HLB.out]; omega
  have hcpA := HBA3.out.cap
  have hmxA := HBA3.out.max
  unfold maxLen at hmxA
  clear hown4 hg4 hi0 hz0 hz1 hz2 hi1 hy0 hy1 hy2 d1 d2 d5
  generalize hgg : w3.heap.size = g at *
  have HGG := Lib.hid hgg
  clear hgg
  go_loopw [49] (fun v wy => ∃ i : Nat, i ≤ 1 + n' ∧ v = .int .i64 i ∧ wy.ownsRow g 3 1 (.slice (some ⟨g, 0, none⟩) N N) N ((trI (false :: bs) N i).map (Value.int .i64)) ∧ Below g w3 wy) (fun v _ => 1 + n' - (intOf v).toNat)
  case atStart => exact ⟨0, Nat.zero_le _, rfl, hown4', hb4⟩
  case round =>
    clear hown4' hb4
    obtain ⟨i, hi, rfl, hown, hb⟩ := hrel
    by_cases hil : i < 1 + n'
    case pos =>
      obtain ⟨ad, rfl, hadS, hcell⟩ := HBA4.out.at_ hil
      have e1 := (hb.cell (p := ad.add i) (by rw [block_of_add, ← HGG.out]; exact hadS)).trans hcell
      have hfz := hown.frozenAt i
      obtain ⟨u, hu⟩ : ∃ u, wr.cell? ⟨g, i, none⟩ = some u := by
        rw [hown.cellAt i (by omega)]
        exact ⟨_, List.getElem?_eq_getElem (by rw [List.length_map, trI_len (by have := HLA.out; omega) (by omega)]; omega)⟩
      have hs1 := hown.stored i (.int .i64 (-1))
      have hset := trI_set (a := false :: bs) (N := N) (i := i) (by have := HLA.out; omega) (by omega)
      have hg1 : g ≤ (⟨g, i, none⟩ : Addr).block := Nat.le_refl _
      cases hbv : (false :: bs).getD i false
      · rw [hbv] at e1 hset
        have HO : Hid ((wr.setCell ⟨g, i, none⟩ (.int .i64 (-1))).ownsRow g 3 1 (.slice (some ⟨g, 0, none⟩) N N) N ((trI (false :: bs) N (i + 1)).map (Value.int .i64))) := by
          have h := hs1.1
          rw [← List.map_set] at h
          rw [show (if false = true then (1 : Int) else -1) = -1 from rfl] at hset
          rw [← hset] at h
          exact h
        have HB9 := Lib.hid (hb.setCell hg1 (.int .i64 (-1)))
        clear hs1 hset hbv hown hb hadS hcell hg1
        go_wp2
        go_roundw
        case rel => exact ⟨i + 1, by omega, by go_num, HO.out, HB9.out⟩
        case measure => simp [intOf]; omega
      · rw [hbv] at e1 hset
        have hs2 := hs1.1.stored i (.int .i64 1)
        have hfz2 := hs1.1.frozenAt i
        have hu2 : (wr.setCell ⟨g, i, none⟩ (.int .i64 (-1))).cell? ⟨g, i, none⟩ = some (.int .i64 (-1)) := World.cell?_setCell_same _ _ _ hu
        have HO : Hid (((wr.setCell ⟨g, i, none⟩ (.int .i64 (-1))).setCell ⟨g, i, none⟩ (.int .i64 1)).ownsRow g 3 1 (.slice (some ⟨g, 0, none⟩) N N) N ((trI (false :: bs) N (i + 1)).map (Value.int .i64))) := by
          have h := hs2.1
          rw [List.set_set, ← List.map_set] at h
          rw [show (if true = true then (1 : Int) else -1) = 1 from rfl] at hset
          rw [← hset] at h
          exact h
        have HB9 := Lib.hid ((hb.setCell hg1 (.int .i64 (-1))).setCell hg1 (.int .i64 1))
        clear hs1 hs2 hset hbv hown hb hadS hcell hg1
        go_wp2
        go_roundw
        case rel => exact ⟨i + 1, by omega, by go_num, HO.out, HB9.out⟩
        case measure => simp [intOf]; omega
    obtain rfl : 1 + n' = i := by omega
    have hTr : TrIs w3 wr g N N (trI (false :: bs) N (false :: bs).length) := by
      refine ⟨trI_len (Nat.le_refl _) (by have := HLA.out; omega), trI_tri (Nat.le_refl _), ?_, ?_⟩
      · rw [← HLA.out, HGG.out]; exact hown
      · rw [HGG.out]; exact hb
    have call := forced_any w3 wr A3 n3 c3 cs g N N _ HR3.out hTr HRANGE.out (by omega)
    rw [HLAW.out] at call
    have CALL := Lib.hid call
    have callm := fun w6 (hb6 : Below w3.heap.size w3 w6) => many_any w6 A n c xs A2 (1 + n') c2 (false :: bs) (HI.out.belowLt (below_then HB3.out hb6)) (HBA3.out.belowLt hb6) HS.out (by omega)
    generalize manyT xs (false :: bs) = q at *
    have CALLM := Lib.hid callm
    clear call callm hTr hown hb HLAW
    go_wp2_with (fail)
    (with_reducible refine CALL.out.mono ?_)
    rintro e w6 ⟨rfl, hb6⟩
    have CM := Lib.hid (CALLM.out w6 hb6)
    have HB6 := Lib.hid (below_then HB3.out hb6)
    clear hb6 CALLM
    go_wp2_with (fail)
    (with_reducible refine CM.out.mono ?_)
    rintro e w7 ⟨rfl, rfl⟩
    go_wp2_with (fail)
    go_ret
    exact ⟨by simp, HB6.out⟩
end Go.Proofs.Ytanbkdfffojpnaa
