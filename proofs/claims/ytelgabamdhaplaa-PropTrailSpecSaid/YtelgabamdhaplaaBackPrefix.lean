/-
  chalklinelaw19.PropBackPrefix: the walk.
-/
import Derived.Test.YtelgabamdhaplaaLive19
import Derived.Test.YtelgabamdhaplaaBackLaw
import Derived.Test.YtelgabamdhaplaaOpenS
import Derived.BigQuiet
namespace Go.Proofs.Ytelgabamdhaplaa
open Go.RowKit

/-- What stands behind the box of the formula: the formula, the trail, the box. -/
structure BS (w : World) (N : Int) (A : Option Addr) (n c : Nat) (cs : List (List Int)) (A' : Option Addr) (m c' : Nat) (ts : List TStep) (wk : World) : Prop where
  bel : Below w.heap.size w wk
  rows : Rows2 wk A n c cs
  steps : Steps wk A' m c' ts
  box : wk.heap[w.heap.size]? = some (.cells #[.int .i64 N, .slice A n c] 24 (0, 0))
section
variable {w wk wk' : World} {N : Int} {A : Option Addr} {n c : Nat} {cs : List (List Int)} {A' : Option Addr} {m c' : Nat} {ts : List TStep}
theorem BS.to (h : BS w N A n c cs A' m c' ts wk) (hb : Below wk.heap.size wk wk') : BS w N A n c cs A' m c' ts wk' :=
  ⟨below_then h.bel hb, h.rows.belowLt hb, h.steps.belowLt hb, (hb.block _ (lt_block h.box)).trans h.box⟩
theorem BS.c0 (h : BS w N A n c cs A' m c' ts wk) : wk.cell? ⟨w.heap.size, 0, none⟩ = some (.int .i64 N) := by rw [cell_of_row _ _ _ _ _ _ h.box]; rfl
theorem BS.c1 (h : BS w N A n c cs A' m c' ts wk) : wk.cell? ⟨w.heap.size, 1, none⟩ = some (.slice A n c) := by rw [cell_of_row _ _ _ _ _ _ h.box]; rfl
theorem BS.start (hR : Rows2 w A n c cs) (hS : Steps w A' m c' ts) : BS w N A n c cs A' m c' ts (w.alloc (.cells #[.int .i64 N, .slice A n c] 24)) :=
  ⟨alloc_lt _, hR.belowLt (alloc_lt _), hS.belowLt (alloc_lt _), heap_alloc_new w _⟩
end

set_option maxHeartbeats 8000000 in
set_option maxRecDepth 100000 in
theorem backPrefix_walk (w : World) (N : Int) (A : Option Addr) (n c : Nat) (cs : List (List Int)) (A' : Option Addr) (m c' : Nat) (ts : List TStep) (level : Int) (h1 : InCnf w N A n c cs) (h2 : InSteps w A' m c' ts) (hk : (Lit.int .i64 level).wf = true) :
    Calls Try.prog 7 #[.agg #[.int .i64 N, .slice A n c], .slice A' m c', .int .i64 level] w (RetBoolBelow w true) := by
  obtain ⟨W, hW⟩ : ∃ W, W = w.alloc (.cells #[.int .i64 N, .slice A n c] 24) := ⟨_, rfl⟩
  have hs : BS w N A n c cs A' m c' ts W := by rw [hW]; exact BS.start h1.rows h2.steps
  have hlen := h2.steps.len
  have hcap := h2.steps.cap
  have hmax := h2.steps.max
  unfold maxLen at hmax
  have HL := Lib.hid hlen
  have HS := Lib.hid hs
  have LIVE := Lib.hid (live_any W)
  clear h1 h2 hk hlen hs
  go_enter Try.func7, Try.ntmps7
  go_upto_region 1 with (fail)
  rw [← hW]
  clear hW
  go_wp2_with (fail)
  (with_reducible refine LIVE.out.mono ?_)
  rintro e w1 ⟨rfl, hb1⟩
  have HS1 := Lib.hid (HS.out.to hb1)
  have c0 := HS1.out.c0
  have c1 := HS1.out.c1
  have FEW := Lib.hid (few19 w1 N A n c cs A' m c' HS1.out.rows)
  clear hb1 LIVE HS
  go_wp2_with (fail)
  (with_reducible refine FEW.out.mono ?_)
  rintro e w2 ⟨b, rfl, hbn, hb2⟩
  have HS2 := Lib.hid (HS1.out.to hb2)
  clear HS1 FEW c0 c1 hb2
  cases b
  case false =>
    go_wp2
    go_ret
    exact ⟨rfl, HS2.out.bel⟩
  obtain ⟨hn, hm⟩ := hbn rfl
  have c0 := HS2.out.c0
  have c1 := HS2.out.c1
  have CHK := Lib.hid (trailCheck_any w2 N A n c cs A' m c' ts HS2.out.rows HS2.out.steps (by omega))
  have HCK := Lib.hid (fun h => back_check (N := N) (cs := cs) (ts := ts) level h)
  clear hbn
  generalize checkS N cs ts = er at *
  by_cases he : er = 0
  case neg =>
    have hq : (er != 0) = true := by simpa using he
    go_wp2_with (fail)
    (with_reducible refine CHK.out.mono ?_)
    rintro e w3 ⟨rfl, hb3⟩
    go_wp2
    go_ret
    exact ⟨rfl, below_then HS2.out.bel hb3⟩
  subst he
  have HCK0 : Hid (checkS N cs (backR ts level) = 0) := HCK.out rfl
  clear HCK
  go_wp2_with (fail)
  (with_reducible refine CHK.out.mono ?_)
  rintro e w3 ⟨rfl, hb3⟩
  have HS3 := Lib.hid (HS2.out.to hb3)
  have BACK := Lib.hid (back_any w3 A' m c' ts level HS3.out.steps (by omega))
  clear hb3 CHK HS2 c0 c1
  go_wp2_with (fail)
  (with_reducible refine BACK.out.mono ?_)
  rintro e w4 ⟨Ab, nb, cb, rfl, hob, hb4⟩
  have HS4 := Lib.hid (HS3.out.to hb4)
  have hnb : nb = (backR ts level).length := by have := hob.1; rw [flat_len] at this; omega
  have hsb := Steps.of_own hob
  have HNB := Lib.hid hnb
  have HOB := Lib.hid hsb
  have hnm : nb ≤ m := by have := back_le ts level; have := HL.out; omega
  have hbc := hsb.cap
  have hbm := hsb.max
  unfold maxLen at hbm
  have LEV := Lib.hid (levels_any w4 A' m c' ts HS4.out.steps (by omega))
  clear hb4 BACK HS3 hnb hob hsb
  go_wp2_with (fail)
  (with_reducible refine LEV.out.mono ?_)
  rintro e w5 ⟨Al, nl, cl, rfl, hol, hb5⟩
  obtain rfl : nl = m := by have := hol.1; rw [List.length_map, levR, levG_len] at this; have := HL.out; omega
  have HS5 := Lib.hid (HS4.out.to hb5)
  have HOB5 := Lib.hid (HOB.out.belowLt hb5)
  have hil := Ints.of_ownLt hol
  have HIL := Lib.hid hil
  have hlc := hil.cap
  have hlm := hil.max
  unfold maxLen at hlm
  have CHK2 := Lib.hid (trailCheck_any w5 N A n c cs Ab nb cb _ HS5.out.rows HOB5.out (by omega))
  have hck := HCK0.out
  rw [hck] at CHK2
  clear hck
  have q0 : ((nl : Int) != (nl : Int)) = false := by simp
  have q1 : decide (nl < nb) = false := by simp; omega
  have c0 := HS5.out.c0
  have c1 := HS5.out.c1
  clear hb5 LEV HS4 hol hil HOB
  go_wp2_with (fail)
  (with_reducible refine CHK2.out.mono ?_)
  rintro e w6 ⟨rfl, hb6⟩
  have HS6 := Lib.hid (HS5.out.to hb6)
  have HOB6 := Lib.hid (HOB5.out.belowLt hb6)
  have HIL6 := Lib.hid (HIL.out.belowLt hb6)
  clear hb6 CHK2 HS5 HOB5 HIL c0 c1 HCK0
  go_wp2
  clear q0 q1
  go_loopw [9] (fun v9 wr => ∃ k : Nat, k ≤ nl ∧ v9 = .int .i64 k ∧ Below w6.heap.size w6 wr) (fun v9 _ => nl - (intOf v9).toNat)
  case atStart => exact ⟨0, Nat.zero_le _, rfl, Below.refl _ _⟩
  case round =>
    obtain ⟨k, hk, rfl, hb⟩ := hrel
    by_cases hlt : k < nl
    · obtain ⟨al, rfl, hal, l0⟩ := HIL6.out.at_ hlt
      have HAT := Lib.hid (back_at ts level (i := k) (by have := HL.out; omega))
      have HGE := Lib.hid (fun h => back_get ts level (i := k) h)
      have HNX := Lib.hid (fun h => lev_next (ts := ts) (i := k) (by have := HL.out; omega) h)
      have hsm : 0 ≤ (levR ts).getD k 0 ∧ (levR ts).getD k 0 ≤ nl := by have := lev_small (ts := ts) (i := k) (by have := HL.out; omega); have := HL.out; omega
      have hsm1 : 0 < k → (levR ts).getD (k - 1) 0 ≤ nl := fun h => by have := (lev_small (ts := ts) (i := k - 1) (by have := HL.out; omega)).2; have := HL.out; omega
      have e0 := (hb.cell (p := al.add k) (by rw [block_of_add]; exact hal)).trans l0
      have e1 : 0 < k → wr.cell? (al.add (k - 1)) = some (.int .i64 ((levR ts).getD (k - 1) 0)) := fun h => by
        obtain ⟨al', ea, _, l1⟩ := HIL6.out.at_ (k := k - 1) (by omega)
        injection ea with ea
        subst ea
        exact (hb.cell (p := al.add (k - 1)) (by rw [block_of_add]; exact hal)).trans l1
      obtain ⟨ad, rfl, hadS, hc1, hc2⟩ := HS6.out.steps.at_ hlt
      have t1 := (hb.cell (p := ad.add (k * 2)) (by rw [block_of_add]; exact hadS)).trans hc1
      have t2 := (hb.cell (p := ⟨(ad.add (k * 2)).block, (ad.add (k * 2)).off + 1, none⟩) (by show (ad.add (k * 2)).block < _; rw [block_of_add]; exact hadS)).trans hc2
      have z1 : (0 : Int) ≤ (k : Int) := by omega
      have z2 : (k : Int) < (nl : Int) := by omega
      rw [← HNB.out] at HAT HGE
      clear l0 hal hc1 hc2 hadS
      generalize (levR ts).getD k 0 = lk at *
      by_cases hin : k < nb
      · have hle : lk ≤ level := HAT.out.1 hin
        obtain ⟨ax, hax, hxS, hx1, hx2⟩ := HOB6.out.at_ hin
        subst hax
        have x1 := (hb.cell (p := ax.add (k * 2)) (by rw [block_of_add]; exact hxS)).trans hx1
        have x2 := (hb.cell (p := ⟨(ax.add (k * 2)).block, (ax.add (k * 2)).off + 1, none⟩) (by show (ax.add (k * 2)).block < _; rw [block_of_add]; exact hxS)).trans hx2
        rw [HGE.out hin] at x1 x2
        have z3 : (k : Int) < (nb : Int) := by omega
        have d1 : decide (k < nb) = true := by simp; omega
        have d2 : decide (lk ≤ level) = true := by simpa using hle
        clear hx1 hx2 hxS HAT HGE
        generalize ts.getD k (0, 0) = y at *
        obtain ⟨y1, y2⟩ := y
        by_cases hk0 : k = 0
        · have g1 : decide (0 < k) = false := by simp; omega
          clear e1 HNX hsm1 hk0
          go_wp2
          go_quiet (fail)
          go_wp2
          go_roundw
          case rel => exact ⟨k + 1, by omega, by go_num, ⟨hb.os, hb.tape, hb.output, hb.size, hb.block⟩⟩
          case measure => simp [intOf]; omega
        have e1 := e1 (by omega)
        have hsm1 := hsm1 (by omega)
        have hnx := HNX.out (by omega)
        clear HNX
        have g1 : decide (0 < k) = true := by simp; omega
        have z4 : (0 : Int) ≤ (k : Int) - 1 := by omega
        have z5 : (k : Int) - 1 < (nl : Int) := by omega
        generalize (levR ts).getD (k - 1) 0 = lj at *
        rcases hnx with hnx | hnx
        · subst hnx
          go_wp2
          go_quiet (fail)
          go_wp2
          go_roundw
          case rel => exact ⟨k + 1, by omega, by go_num, ⟨hb.os, hb.tape, hb.output, hb.size, hb.block⟩⟩
          case measure => simp [intOf]; omega
        · subst hnx
          have d3 : (lj + 1 == lj) = false := by simp; omega
          have d4 : (lj + 1 != lj) = true := by simp; omega
          go_wp2
          go_quiet (fail)
          go_wp2
          go_roundw
          case rel => exact ⟨k + 1, by omega, by go_num, ⟨hb.os, hb.tape, hb.output, hb.size, hb.block⟩⟩
          case measure => simp [intOf]; omega
      · have hle : ¬ lk ≤ level := fun h => hin (HAT.out.2 h)
        have d1 : decide (k < nb) = false := by simp; omega
        have d2 : decide (lk ≤ level) = false := by simpa using hle
        clear HAT HGE
        by_cases hk0 : k = 0
        · have g1 : decide (0 < k) = false := by simp; omega
          clear e1 HNX hsm1 hk0
          go_wp2
          go_quiet (fail)
          go_wp2
          go_roundw
          case rel => exact ⟨k + 1, by omega, by go_num, ⟨hb.os, hb.tape, hb.output, hb.size, hb.block⟩⟩
          case measure => simp [intOf]; omega
        have e1 := e1 (by omega)
        have hsm1 := hsm1 (by omega)
        have hnx := HNX.out (by omega)
        clear HNX
        have g1 : decide (0 < k) = true := by simp; omega
        have z4 : (0 : Int) ≤ (k : Int) - 1 := by omega
        have z5 : (k : Int) - 1 < (nl : Int) := by omega
        generalize (levR ts).getD (k - 1) 0 = lj at *
        rcases hnx with hnx | hnx
        · subst hnx
          go_wp2
          go_quiet (fail)
          go_wp2
          go_roundw
          case rel => exact ⟨k + 1, by omega, by go_num, ⟨hb.os, hb.tape, hb.output, hb.size, hb.block⟩⟩
          case measure => simp [intOf]; omega
        · subst hnx
          have d3 : (lj + 1 == lj) = false := by simp; omega
          have d4 : (lj + 1 != lj) = true := by simp; omega
          go_wp2
          go_quiet (fail)
          go_wp2
          go_roundw
          case rel => exact ⟨k + 1, by omega, by go_num, ⟨hb.os, hb.tape, hb.output, hb.size, hb.block⟩⟩
          case measure => simp [intOf]; omega
    obtain rfl : nl = k := by omega
    have HS7 := Lib.hid (HS6.out.to hb)
    have HOB7 := Lib.hid (HOB6.out.belowLt hb)
    have HIL7 := Lib.hid (HIL6.out.belowLt hb)
    have BACK := Lib.hid (back_any wr Ab nb cb _ level HOB7.out (by omega))
    clear HS6 HOB6 HIL6 hb
    go_wp2_with (fail)
    (with_reducible refine BACK.out.mono ?_)
    rintro e w7 ⟨A7, n7, c7, rfl, ho7, hb7⟩
    have HS8 := Lib.hid (HS7.out.to hb7)
    have HIL8 := Lib.hid (HIL7.out.belowLt hb7)
    have STE := Lib.hid (steps_eq w7 n7 c7 nb cb A7 Ab _ _ (Steps.of_own ho7) (HOB7.out.belowLt hb7))
    have hbb := back_back ts level
    rw [hbb, show decide (backR ts level = backR ts level) = true by simp] at STE
    clear hbb ho7 hb7 BACK HS7 HOB7 HIL7
    go_wp2_with (fail)
    (with_reducible refine STE.out.mono ?_)
    rintro e w8 ⟨rfl, hb8⟩
    have HS9 := Lib.hid (HS8.out.to hb8)
    have HIL9 := Lib.hid (HIL8.out.belowLt hb8)
    clear hb8 STE HS8 HIL8
    by_cases hn0 : nl = 0
    · have q2 : ((nl : Int) == 0) = true := by simp; omega
      clear hn0
      go_wp2
      go_ret
      exact ⟨rfl, HS9.out.bel⟩
    · have q2 : ((nl : Int) == 0) = false := by simp; omega
      obtain ⟨al, rfl, hal, l0⟩ := HIL9.out.at_ (k := nl - 1) (by omega)
      have z1 : (0 : Int) ≤ (nl : Int) - 1 := by omega
      have z2 : (nl : Int) - 1 < (nl : Int) := by omega
      have BACK := Lib.hid (back_any w8 A' nl c' ts ((levR ts).getD (nl - 1) 0) HS9.out.steps (by omega))
      have HLAST : Hid ((backR ts ((levR ts).getD (nl - 1) 0)).length = nl) := by
        have h := HL.out
        show (backR ts ((levR ts).getD (nl - 1) 0)).length = nl
        rw [h]; exact back_last (by omega)
      clear hal hn0
      generalize (levR ts).getD (nl - 1) 0 = lz at *
      go_wp2_with (fail)
      (with_reducible refine BACK.out.mono ?_)
      rintro e w9 ⟨A9, n9, c9, rfl, ho9, hb9⟩
      obtain rfl : n9 = nl := by have h1 := ho9.1; have h2 := HLAST.out; rw [flat_len] at h1; omega
      have HS10 := Lib.hid (HS9.out.to hb9)
      have hc9 := (Steps.of_own ho9).cap
      have hm9 := (Steps.of_own ho9).max
      unfold maxLen at hm9
      clear ho9 hb9 BACK HS9 HIL9 l0
      go_wp2
      go_ret
      exact ⟨rfl, HS10.out.bel⟩
end Go.Proofs.Ytelgabamdhaplaa
