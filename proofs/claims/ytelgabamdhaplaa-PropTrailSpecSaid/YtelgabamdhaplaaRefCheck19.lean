/-
  chalklineref19.Check: the same as prop.Check.
-/
import Derived.Test.YtelgabamdhaplaaRefCheck
namespace Go.Proofs.Ytelgabamdhaplaa
open Go.RowKit

theorem Ints.drewN {w : World} {A : Option Addr} {n c : Nat} {xs : List Int} (h : Ints w (Lt w) A n c xs) (d : Nat) : Ints (w.drewN d) (Lt (w.drewN d)) A n c xs := h.keep' (fun _ _ => rfl) (fun _ h => h)
theorem trail_bad {N : Int} {cs : List (List Int)} {ts : List TStep} {k : Nat} (hk : k < ts.length) (h : ¬ stepOK N cs (lits (ts.take k)).reverse (ts.getD k (0, 0))) : trailG N cs [] ts = false := by
  cases ht : trailG N cs [] ts
  · rfl
  · exfalso
    rw [← List.take_append_drop (k + 1) ts, trailG_append] at ht
    simp only [Bool.and_eq_true] at ht
    have h1 := ht.1
    rw [List.take_succ_eq_append_getElem hk, trailG_snoc] at h1
    rw [List.getD_eq_getElem?_getD, List.getElem?_eq_getElem hk] at h
    exact h h1.2
theorem trail_good {N : Int} {cs : List (List Int)} {ts : List TStep} {k : Nat} (hk : k < ts.length) (h0 : trailG N cs [] (ts.take k) = true) (h : stepOK N cs (lits (ts.take k)).reverse (ts.getD k (0, 0))) : trailG N cs [] (ts.take (k + 1)) = true := by
  rw [List.take_succ_eq_append_getElem hk, trailG_snoc]
  rw [List.getD_eq_getElem?_getD, List.getElem?_eq_getElem hk] at h
  exact ⟨h0, h⟩
theorem byOK_rev {l known : List Int} {lit : Int} : byOK l lit known.reverse = byOK l lit known := by
  unfold byOK openB
  simp

theorem Ints.first {w : World} {S : Nat → Prop} {ad : Addr} {n c : Nat} {xs : List Int} (h : Ints w S (some ad) n c xs) {i : Nat} (hi : i ≤ n) : Ints w S (some ad) i c (xs.take i) := by
  have := h.piece rfl (i := 0) (j := i) (c' := c) (Nat.zero_le _) hi (by have := h.cap; omega) h.max
  rw [add_zero, Nat.sub_zero, List.drop_zero] at this
  exact this
theorem mem_rev {x : Int} {xs : List Int} : x ∈ xs.reverse ↔ x ∈ xs := List.mem_reverse
/-- The world of a round: what stands in it. -/
structure CW (w : World) (N : Int) (A : Option Addr) (n c : Nat) (cs : List (List Int)) (Ak : Addr) (i m ck : Nat) (ts : List TStep) (g : Nat) (li wy : Int) (wk : World) : Prop where
  c0 : wk.cell? ⟨w.heap.size, 0, none⟩ = some (.int .i64 N)
  c1 : wk.cell? ⟨w.heap.size, 1, none⟩ = some (.slice A n c)
  g0 : wk.cell? ⟨g, 0, none⟩ = some (.int .i64 li)
  g1 : wk.cell? ⟨g, 1, none⟩ = some (.int .i64 wy)
  rows : Rows2 wk A n c cs
  known : Ints wk (Lt wk) (some Ak) m ck (lits ts)
theorem CW.drewN {w : World} {N : Int} {A : Option Addr} {n c : Nat} {cs : List (List Int)} {Ak : Addr} {i m ck : Nat} {ts : List TStep} {g : Nat} {li wy : Int} {wk : World} (h : CW w N A n c cs Ak i m ck ts g li wy wk) (d : Nat) : CW w N A n c cs Ak i m ck ts g li wy (wk.drewN d) :=
  ⟨h.c0, h.c1, h.g0, h.g1, h.rows.belowLt (below_drewN (Below.refl _ _) d), h.known.drewN d⟩

set_option maxHeartbeats 8000000 in
set_option maxRecDepth 100000 in
theorem check19_any (w : World) (N : Int) (A : Option Addr) (n c : Nat) (cs : List (List Int)) (A' : Option Addr) (m c' : Nat) (ts : List TStep) (hR : Rows2 w A n c cs) (hS : Steps w A' m c' ts) (hm : m ≤ 1000) :
    Calls Try.prog 20 #[.agg #[.int .i64 N, .slice A n c], .slice A' m c'] w (RetIntBelow w (checkS N cs ts)) := by
  obtain ⟨W, hW⟩ : ∃ W, W = w.alloc (.cells #[.int .i64 N, .slice A n c] 24) := ⟨_, rfl⟩
  have hb : Below w.heap.size w W := by rw [hW]; exact alloc_lt _
  have b1 : W.heap[w.heap.size]? = some (.cells #[.int .i64 N, .slice A n c] 24 (0, 0)) := by rw [hW]; exact heap_alloc_new w _
  have c0 : W.cell? ⟨w.heap.size, 0, none⟩ = some (.int .i64 N) := by rw [cell_of_row _ _ _ _ _ _ b1]; rfl
  have c1 : W.cell? ⟨w.heap.size, 1, none⟩ = some (.slice A n c) := by rw [cell_of_row _ _ _ _ _ _ b1]; rfl
  have call := check14_any W N A n c cs (hR.belowLt hb)
  have HB := Lib.hid hb
  have B1 := Lib.hid b1
  have HR := Lib.hid (hR.belowLt hb)
  have HS := Lib.hid (hS.belowLt hb)
  have HLR := Lib.hid hR.len
  have HLS := Lib.hid hS.len
  have hcR := hR.cap
  have hmR := hR.max
  have hcS := hS.cap
  have hmS := hS.max
  unfold maxLen at hmS hmR
  clear hR hS hb b1
  by_cases hck : checkR N cs = 0
  case neg =>
    have e : checkS N cs ts = checkR N cs := by unfold checkS; rw [if_pos hck]
    rw [e]
    have hne : (checkR N cs != 0) = true := by simpa using hck
    clear e hck
    generalize checkR N cs = er at *
    have CALL := Lib.hid call
    clear call
    go_enter Try.func20, Try.ntmps20
    go_upto_region 1 with (fail)
    rw [← hW]
    clear hW
    go_wp2_with (fail)
    (with_reducible refine CALL.out.mono ?_)
    rintro e w1 ⟨rfl, hb1⟩
    go_wp2
    go_ret
    exact ⟨rfl, below_then HB.out hb1⟩
  rw [hck] at call
  have CALL := Lib.hid call
  obtain ⟨hN0, hN1, hlits, hlen⟩ := checkR_zero hck
  have HLIT := Lib.hid hlits
  have HES : Hid (checkS N cs ts = if trailG N cs [] ts = true then 0 else 1) := by show checkS N cs ts = _; unfold checkS; rw [if_neg (by simp [hck])]
  have hn6 : n ≤ 65536 := by have := HLR.out; omega
  have IS := Lib.hid (fun w x => is_any w x N hN0 hN1)
  clear call hck hlits hlen
  generalize checkS N cs ts = res at *
  go_enter Try.func20, Try.ntmps20
  go_upto_region 1 with (fail)
  rw [← hW]
  clear hW
  go_wp2_with (fail)
  (with_reducible refine CALL.out.mono ?_)
  rintro e w1 ⟨rfl, hb1⟩
  have HB1 := Lib.hid hb1
  have LITS := Lib.hid (lits_any w1 A' m c' ts (HS.out.belowLt hb1) (by omega))
  clear hb1 CALL c0 c1
  go_wp2_with (fail)
  (with_reducible refine LITS.out.mono ?_)
  rintro e w2 ⟨Ak, nk, ck, rfl, hok, hb2⟩
  obtain rfl : nk = m := by have := hok.1; rw [List.length_map, lits_len] at this; have := HLS.out; omega
  have hB2 := below_then HB1.out hb2
  have hik := Ints.of_ownLt hok
  have HIK := Lib.hid hik
  have hkc := hik.cap
  have hkm := hik.max
  unfold maxLen at hkm
  have HB2 := Lib.hid hB2
  have HR2 := Lib.hid (HR.out.belowLt hB2)
  have HS2 := Lib.hid (HS.out.belowLt hB2)
  have hbx : w2.heap[w.heap.size]? = some (.cells #[.int .i64 N, .slice A n c] 24 (0, 0)) := (hB2.block _ (lt_of_block B1.out)).trans B1.out
  have HBX := Lib.hid hbx
  clear hok hb2 hB2 hik LITS HB1 HR HS hbx
  go_wp2
  go_loopw [7, 8] (fun v7 _ wr => ∃ i : Nat, i ≤ nk ∧ v7 = .int .i64 i ∧ trailG N cs [] (ts.take i) = true ∧ Below w2.heap.size w2 wr) (fun v7 _ _ => nk - (intOf v7).toNat)
  case atStart => exact ⟨0, Nat.zero_le _, rfl, by simp [trailG], Below.refl _ _⟩
  case round =>
    obtain ⟨i, hi, rfl, htr, hb⟩ := hrel
    have HTR := Lib.hid htr
    have HBW := Lib.hid (below_then (below_then HB.out HB2.out) hb)
    clear htr
    by_cases hlt : i < nk
    case neg =>
      have HE : Hid (res = 0) := by
        show res = 0
        have := HTR.out
        rw [List.take_of_length_le (by have := HLS.out; omega)] at this
        rw [HES.out, if_pos this]
      clear hb
      go_wp2
      go_ret
      exact ⟨by rw [HE.out]; rfl, HBW.out⟩
    obtain ⟨ad, rfl, hadS, hc1, hc2⟩ := HS2.out.at_ hlt
    have e1 := (hb.cell (p := ad.add (i * 2)) (by rw [block_of_add]; exact hadS)).trans hc1
    have e2 := (hb.cell (p := ⟨(ad.add (i * 2)).block, (ad.add (i * 2)).off + 1, none⟩) (by show (ad.add (i * 2)).block < _; rw [block_of_add]; exact hadS)).trans hc2
    have hBAD := trail_bad (N := N) (cs := cs) (ts := ts) (k := i) (by have := HLS.out; omega)
    have hGOOD := trail_good (N := N) (cs := cs) (ts := ts) (k := i) (by have := HLS.out; omega) HTR.out
    have z1 : (0 : Int) ≤ (i : Int) := by omega
    have z2 : (i : Int) < (nk : Int) := by omega
    obtain ⟨ak, rfl, _⟩ := HIK.out.at_ hlt
    clear hadS hc1 hc2
    generalize ts.getD i (0, 0) = p at *
    obtain ⟨li, wy⟩ := p
    have HBAD : Hid (¬ stepOK N cs (lits (ts.take i)).reverse (li, wy) → res = 1) := fun h => by
      rw [HES.out, hBAD h]; rfl
    have HGOOD := Lib.hid hGOOD
    clear hBAD hGOOD
    obtain ⟨wb, hwb⟩ : ∃ wb, wb = wr.alloc (.cells #[.int .i64 li, .int .i64 wy] 39) := ⟨_, rfl⟩
    have hnew : wb.heap[wr.heap.size]? = some (.cells #[.int .i64 li, .int .i64 wy] 39 (0, 0)) := by rw [hwb]; exact heap_alloc_new wr _
    have hbb : Below w2.heap.size w2 wb := by rw [hwb]; exact below_then hb (alloc_lt _)
    have hbx := (hbb.block _ (lt_of_block HBX.out)).trans HBX.out
    have hcw : CW w N A n c cs ak i nk ck ts wr.heap.size li wy wb :=
      ⟨by rw [cell_of_row _ _ _ _ _ _ hbx]; rfl, by rw [cell_of_row _ _ _ _ _ _ hbx]; rfl, by rw [cell_of_row _ _ _ _ _ _ hnew]; rfl, by rw [cell_of_row _ _ _ _ _ _ hnew]; rfl, HR2.out.belowLt hbb, HIK.out.belowLt hbb⟩
    have HCW := Lib.hid hcw
    have HBB := Lib.hid hbb
    have HBW2 := Lib.hid (below_then (below_then HB.out HB2.out) hbb)
    clear hnew hbb hbx hcw
    go_upto_region 9 with (fail)
    rw [← hwb]
    generalize wr.heap.size = g at *
    clear hwb hb e1 e2 HBW
    have c0 := HCW.out.c0
    have c1 := HCW.out.c1
    have g0 := HCW.out.g0
    have g1 := HCW.out.g1
    have IX := Lib.hid (fun w => IS.out w li)
    have HASP : Hid (∀ x d, Calls Try.prog 29 #[.slice (some ak) i ck, .int .i64 x] (wb.drewN d) (RetBoolSame (wb.drewN d) (decide (x ∈ lits (ts.take i))))) := fun x d => by
      rw [lits_take]
      exact has_any _ i ck (some ak) _ x ((HCW.out.known.drewN d).first hi)
    have hsz : (i : Int) ≤ (ck : Int) := by omega
    cases hv : mayB li N
    · rw [hv] at IX
      have HE : Hid (res = 1) := HBAD.out fun h => by
        have : mayB li N = true := by unfold mayB; simp only [decide_eq_true_eq]; exact ⟨h.1.1, h.1.2.2.1, h.1.2.1⟩
        rw [hv] at this; cases this
      clear hv HGOOD HBAD
      go_wp2
      go_quiet ((go_at_call 39; exact quiet_bool (IX.out _)))
      go_wp2
      go_ret
      exact ⟨by rw [HE.out]; rfl, below_drewN HBW2.out _⟩
    rw [hv] at IX
    have hli : li ≠ 0 ∧ -N ≤ li ∧ li ≤ N := by unfold mayB at hv; simpa using hv
    obtain ⟨hl0, hl1, hl2⟩ := hli
    have hwr : IntKind.i64.wrap (-li) = -li := IntWalk.i64_in _ (by omega)
    clear hv
    by_cases hm1 : li ∈ lits (ts.take i)
    · have HE : Hid (res = 1) := HBAD.out fun h => (isKnown_mem.1 h.1.2.2.2.1).1 (mem_rev.2 hm1)
      have H1 : Hid (∀ d, Calls Try.prog 29 #[.slice (some ak) i ck, .int .i64 li] (wb.drewN d) (RetBoolSame (wb.drewN d) true)) := fun d => by
        have := HASP.out li d
        rwa [decide_eq_true hm1] at this
      clear hm1 HGOOD HBAD HASP
      go_wp2
      go_quiet (first | (go_at_call 39; exact quiet_bool (IX.out _)) | (go_at_call 29; (with_reducible exact quiet_bool (H1.out _))))
      go_wp2
      go_ret
      exact ⟨by rw [HE.out]; rfl, below_drewN HBW2.out _⟩
    have H1 : Hid (∀ d, Calls Try.prog 29 #[.slice (some ak) i ck, .int .i64 li] (wb.drewN d) (RetBoolSame (wb.drewN d) false)) := fun d => by
      have := HASP.out li d
      rwa [decide_eq_false hm1] at this
    have HM1 := Lib.hid hm1
    clear hm1
    by_cases hm2 : -li ∈ lits (ts.take i)
    · have HE : Hid (res = 1) := HBAD.out fun h => (isKnown_mem.1 h.1.2.2.2.1).2 (mem_rev.2 hm2)
      have H2 : Hid (∀ d, Calls Try.prog 29 #[.slice (some ak) i ck, .int .i64 (-li)] (wb.drewN d) (RetBoolSame (wb.drewN d) true)) := fun d => by
        have := HASP.out (-li) d
        rwa [decide_eq_true hm2] at this
      clear hm2 HGOOD HBAD HASP
      go_wp2
      go_quiet (first | (go_at_call 39; exact quiet_bool (IX.out _)) | (go_at_call 29; (with_reducible exact quiet_bool (H1.out _))) | (go_at_call 29; (with_reducible exact quiet_bool (H2.out _))))
      go_wp2
      go_ret
      exact ⟨by rw [HE.out]; rfl, below_drewN HBW2.out _⟩
    have H2 : Hid (∀ d, Calls Try.prog 29 #[.slice (some ak) i ck, .int .i64 (-li)] (wb.drewN d) (RetBoolSame (wb.drewN d) false)) := fun d => by
      have := HASP.out (-li) d
      rwa [decide_eq_false hm2] at this
    have HM2 := Lib.hid hm2
    clear hm2 HASP
    by_cases hw1 : wy < -1
    · have HE : Hid (res = 1) := HBAD.out fun h => by have h5 := h.1.2.2.2.2.1; simp only at h5; omega
      have dw : decide (wy < -1) = true := by simpa using hw1
      clear hw1 HGOOD HBAD
      go_wp2
      go_quiet (first | (go_at_call 39; exact quiet_bool (IX.out _)) | (go_at_call 29; (with_reducible exact quiet_bool (H1.out _))) | (go_at_call 29; (with_reducible exact quiet_bool (H2.out _))))
      go_wp2
      go_ret
      exact ⟨by rw [HE.out]; rfl, below_drewN HBW2.out _⟩
    have dw : decide (wy < -1) = false := by simpa using hw1
    by_cases hw2 : (n : Int) ≤ wy
    · have HE : Hid (res = 1) := HBAD.out fun h => by have h5 := h.1.2.2.2.2.2; have := HLR.out; simp only at h5; omega
      have dw2 : decide ((n : Int) ≤ wy) = true := by simpa using hw2
      clear hw1 hw2 HGOOD HBAD
      go_wp2
      go_quiet (first | (go_at_call 39; exact quiet_bool (IX.out _)) | (go_at_call 29; (with_reducible exact quiet_bool (H1.out _))) | (go_at_call 29; (with_reducible exact quiet_bool (H2.out _))))
      go_wp2
      go_ret
      exact ⟨by rw [HE.out]; rfl, below_drewN HBW2.out _⟩
    have dw2 : decide ((n : Int) ≤ wy) = false := by simpa using hw2
    have HLOK : Hid (litOK N cs.length (lits (ts.take i)).reverse (li, wy)) := by
      refine ⟨hl0, hl2, hl1, isKnown_mem.2 ⟨fun h => HM1.out (mem_rev.1 h), fun h => HM2.out (mem_rev.1 h)⟩, by show -1 ≤ wy; omega, by have := HLR.out; show wy < _; omega⟩
    go_wp2
    go_quiet (first | (go_at_call 39; exact quiet_bool (IX.out _)) | (go_at_call 29; (with_reducible exact quiet_bool (H1.out _))) | (go_at_call 29; (with_reducible exact quiet_bool (H2.out _))))
    have HCW3 := Lib.hid (HCW.out.drewN nq)
    have HBB3 := Lib.hid (below_drewN HBB.out nq)
    have HBW3 := Lib.hid (below_drewN HBW2.out nq)
    clear HCW HBB HBW2 c0 c1 g0 g1 IX H1 H2 HM1 HM2 dw dw2
    generalize wb.drewN nq = wc at *
    have c0 := HCW3.out.c0
    have c1 := HCW3.out.c1
    have g0 := HCW3.out.g0
    have g1 := HCW3.out.g1
    by_cases hw0 : 0 ≤ wy
    case neg =>
      have dw3 : decide (0 ≤ wy) = false := by simpa using hw0
      have HN := Lib.hid (HGOOD.out ⟨HLOK.out, fun h => absurd h hw0⟩)
      clear hw0 hw1 hw2
      go_wp2
      go_quiet (fail)
      go_wp2
      go_roundw
      case rel => exact ⟨i + 1, by omega, by go_num, HN.out, below_drewN HBB3.out _⟩
      case measure => simp [intOf]; omega
    have dw3 : decide (0 ≤ wy) = true := by simpa using hw0
    obtain ⟨q, rfl⟩ : ∃ q : Nat, wy = q := ⟨wy.toNat, by omega⟩
    have hqn : q < n := by omega
    obtain ⟨ar, Ar, nr, cr, rfl, _, hrc, hri⟩ := HCW3.out.rows.at_ hqn
    have z3 : (0 : Int) ≤ (q : Int) := by omega
    have z4 : (q : Int) < (n : Int) := by omega
    have hlq : ∀ x ∈ cs.getD q [], -65536 ≤ x ∧ x ≤ 65536 := fun x hx => by
      have hmem : cs.getD q [] ∈ cs := by rw [List.getD_eq_getElem?_getD, List.getElem?_eq_getElem (by have := HLR.out; omega)]; simp
      have := HLIT.out _ hmem x hx
      omega
    have BY : Hid (∀ d, Calls Try.prog 40 #[.slice Ar nr cr, .int .i64 li, .slice (some ak) i ck] (wc.drewN d) (RetBoolSame (wc.drewN d) (byOK (cs.getD q []) li (lits (ts.take i))))) := fun d => by
      rw [lits_take]
      exact by_any _ Ar nr cr _ li (some ak) i ck _ (hri.drewN d) ((HCW3.out.known.drewN d).first hi) hlq
    clear hri hlq
    cases hby : byOK (cs.getD q []) li (lits (ts.take i))
    · rw [hby] at BY
      have HE : Hid (res = 1) := HBAD.out fun h => by
        have := h.2 (by show (0 : Int) ≤ (q : Int); omega)
        rw [byOK_rev] at this
        simp only [Int.toNat_natCast] at this
        rw [hby] at this; cases this
      clear hby hw0 hw1 hw2 HGOOD HBAD HLOK
      go_wp2
      go_quiet ((go_at_call 40; exact quiet_bool (BY.out _)))
      go_wp2
      go_ret
      exact ⟨by rw [HE.out]; rfl, below_drewN HBW3.out _⟩
    · rw [hby] at BY
      have HN := Lib.hid (HGOOD.out ⟨HLOK.out, fun _ => by
        rw [byOK_rev]
        simp only [Int.toNat_natCast]
        exact hby⟩)
      clear hby hw0 hw1 hw2 HGOOD HBAD HLOK
      go_wp2
      go_quiet ((go_at_call 40; exact quiet_bool (BY.out _)))
      go_wp2
      go_roundw
      case rel => exact ⟨i + 1, by omega, by go_num, HN.out, below_drewN HBB3.out _⟩
      case measure => simp [intOf]; omega
end Go.Proofs.Ytelgabamdhaplaa
