/-
  chalklinelaw16.forced: unit propagation, walked.
-/
import Derived.Test.YtanbkdfffojpnaaForceLaw
import Derived.Test.YtanbkdfffojpnaaMeans
namespace Go.Proofs.Ytanbkdfffojpnaa
open Go.RowKit

theorem stepS_zero {tr : List Int} {st : Bool × Nat × Int} {y : Int} (h : litV tr y = 0) : stepS tr st y = (st.1, st.2.1 + 1, y) := by unfold stepS; simp [h]
theorem stepS_one {tr : List Int} {st : Bool × Nat × Int} {y : Int} (h : litV tr y = 1) : stepS tr st y = (true, st.2.1, st.2.2) := by unfold stepS; simp [h]
theorem stepS_neg {tr : List Int} {st : Bool × Nat × Int} {y : Int} (h : litV tr y = -1) : stepS tr st y = (st.1, st.2.1, st.2.2) := by unfold stepS; simp [h]
theorem scan_take {tr x : List Int} {j : Nat} (h : j < x.length) : scanF tr (x.take (j + 1)) = stepS tr (scanF tr (x.take j)) (x.getD j 0) := by
  rw [List.take_succ_eq_append_getElem h, scanF_snoc, List.getD_eq_getElem?_getD, List.getElem?_eq_getElem h]; rfl
theorem fold_take {cs : List (List Int)} {st : Option (List Int × Bool)} {i : Nat} (h : i < cs.length) : (cs.take (i + 1)).foldl visitO st = visitO ((cs.take i).foldl visitO st) (cs.getD i []) := by
  rw [List.take_succ_eq_append_getElem h, List.foldl_append, List.getD_eq_getElem?_getD, List.getElem?_eq_getElem h]; rfl
theorem fold_none {cs : List (List Int)} {st : Option (List Int × Bool)} {i : Nat} (h : (cs.take i).foldl visitO st = none) : cs.foldl visitO st = none := by
  have e : cs = cs.take i ++ cs.drop i := (List.take_append_drop i cs).symm
  rw [e, List.foldl_append, h]
  exact visitO_none _
theorem scan_len (tr x : List Int) : (scanF tr x).2.1 ≤ x.length := by rw [scan_op]; exact List.countP_le_length

/-- The values as the memory has them. -/
def TrIs (w0 w : World) (g cap N : Nat) (tr : List Int) : Prop := tr.length = N ∧ Tri tr ∧ w.ownsRow w0.heap.size 3 1 (.slice (some ⟨g, 0, none⟩) N cap) N (tr.map (Value.int .i64)) ∧ Below w0.heap.size w0 w
theorem TrIs.cell {w0 w : World} {g cap N : Nat} {tr : List Int} (h : TrIs w0 w g cap N tr) {v : Nat} (hv : v < N) : w.cell? ⟨g, v, none⟩ = some (.int .i64 (tr.getD v 0)) := by
  rw [h.2.2.1.cellAt v (by omega), List.getElem?_map, List.getD_eq_getElem?_getD, List.getElem?_eq_getElem (by have := h.1; omega)]; rfl
theorem TrIs.set {w0 w : World} {g cap N : Nat} {tr : List Int} (h : TrIs w0 w g cap N tr) {y : Int} (hv : y.natAbs < N) : TrIs w0 (w.setCell ⟨g, y.natAbs, none⟩ (.int .i64 (if 0 < y then 1 else -1))) g cap N (setL tr y) := by
  refine ⟨by rw [setL_len]; exact h.1, setL_tri h.2.1 (by have := h.1; omega), ?_, h.2.2.2.setCell (by have := (h.2.2.1.lt g rfl).1; exact this) _⟩
  have := (h.2.2.1.stored y.natAbs (.int .i64 (if 0 < y then 1 else -1))).1
  unfold setL
  rw [List.map_set]
  exact this

set_option maxHeartbeats 8000000 in
set_option maxRecDepth 100000 in
theorem forced_any (w0 w : World) (A : Option Addr) (n c : Nat) (cs : List (List Int)) (g cap N : Nat) (tr : List Int) (hR : Rows2 w0 A n c cs) (hT : TrIs w0 w g cap N tr) (hx : ∀ x ∈ cs, ∀ y ∈ x, y ≠ 0 ∧ y.natAbs < N) (hN : N ≤ 60000) :
    Calls Try.prog 18 #[.slice A n c, .slice (some ⟨g, 0, none⟩) N cap] w (fun e w' => e = .returned (.bool (forcedF cs (N + 1) tr)) ∧ Below w0.heap.size w0 w') := by
  have hcn := hR.cap
  have hmn := hR.max
  unfold maxLen at hmn
  have hcp : N ≤ cap := by
    rcases hT.2.2.1.2 with ⟨h, _⟩ | ⟨g', cap', cur, h, _, _, h2, _⟩
    · cases h
    · injection h with _ _ h; subst h; exact h2
  have HR := Lib.hid hR
  have HL := Lib.hid hR.len
  have HX := Lib.hid hx
  have HT := Lib.hid hT
  clear hR hx hT
  go_enter Try.func18, Try.ntmps18
  go_wp2
  go_loopw [18] (fun v wy => ∃ (r : Nat) (tr' : List Int), r ≤ N + 1 ∧ v = .int .i64 r ∧ forcedF cs (N + 1) tr = forcedF cs (N + 1 - r) tr' ∧ TrIs w0 wy g cap N tr') (fun v _ => N + 1 - (intOf v).toNat)
  case atStart => exact ⟨0, tr, Nat.zero_le _, rfl, rfl, HT.out⟩
  case round =>
    clear HT
    obtain ⟨r, tr1, hr, rfl, hF, hT1⟩ := hrel
    have HF := Lib.hid hF
    have HT1 := Lib.hid hT1
    clear hF hT1
    by_cases hrl : r < N + 1
    case neg =>
      have HE : Hid (forcedF cs (N + 1) tr = false) := by show forcedF cs (N + 1) tr = false; rw [HF.out, show N + 1 - r = 0 by omega]; rfl
      go_wp2
      go_ret
      exact ⟨by rw [HE.out]; rfl, HT1.out.2.2.2⟩
    have dr : decide ((r : Int) < (N : Int) + 1) = true := by simp; omega
    obtain ⟨f, hf⟩ : ∃ f, N + 1 - r = f + 1 := ⟨N - r, by omega⟩
    rw [hf] at HF
    have HFF := Lib.hid hf
    clear hf
    obtain ⟨wo, rfl⟩ : ∃ wo : World, wo = wr := ⟨_, rfl⟩
    go_wp2
    clear dr
    go_loopw [5, 22] (fun v5 v22 wy => ∃ (i : Nat) (tr2 : List Int) (more : Bool), i ≤ n ∧ v22 = .int .i64 i ∧ v5 = .bool more ∧ (cs.take i).foldl visitO (some (tr1, false)) = some (tr2, more) ∧ TrIs w0 wy g cap N tr2) (fun _ v22 _ => n - (intOf v22).toNat)
    case atStart => exact ⟨0, tr1, false, Nat.zero_le _, rfl, rfl, rfl, HT1.out⟩
    case round =>
      clear HT1
      obtain ⟨i, tr2, more, hi, rfl, rfl, hfo, hT2⟩ := hrel
      have HFO := Lib.hid hfo
      have HT2 := Lib.hid hT2
      clear hfo hT2
      by_cases hil : i < n
      case neg =>
        have hro : roundF tr1 cs = some (tr2, more) := by
          have h := HFO.out
          rwa [List.take_of_length_le (by have := HL.out; omega)] at h
        have HFF2 : Hid (forcedF cs (N + 1) tr = if more = true then forcedF cs f tr2 else false) := by
          show forcedF cs (N + 1) tr = if more = true then forcedF cs f tr2 else false
          rw [HF.out, forcedF, hro]
        clear hro
        cases more
        · have HE : Hid (forcedF cs (N + 1) tr = false) := HFF2.out
          go_wp2
          go_ret
          exact ⟨by rw [HE.out]; rfl, HT2.out.2.2.2⟩
        · have HE : Hid (forcedF cs (N + 1) tr = forcedF cs (N + 1 - (r + 1)) tr2) := by
            show forcedF cs (N + 1) tr = forcedF cs (N + 1 - (r + 1)) tr2
            rw [HFF2.out, show N + 1 - (r + 1) = f by have := HFF.out; omega]; rfl
          go_wp2
          go_roundw
          case rel => exact ⟨r + 1, tr2, by omega, by go_num, HE.out, HT2.out⟩
          case measure => simp [intOf]; omega
      obtain ⟨ad, B1, m1, k1, rfl, hadS, hcell, hr1⟩ := HR.out.at_ hil
      have e1 := (HT2.out.2.2.2.cell (p := ad.add i) (by rw [block_of_add]; exact hadS)).trans hcell
      have hxx : ∀ y ∈ cs.getD i [], y ≠ 0 ∧ y.natAbs < N := HX.out _ (by
        rw [List.getD_eq_getElem?_getD, List.getElem?_eq_getElem (by have := HL.out; omega)]; exact List.getElem_mem _)
      have HXX := Lib.hid hxx
      have HR1 := Lib.hid (hr1.belowLt HT2.out.2.2.2)
      have HL1 := Lib.hid hr1.len
      have hcm1 := hr1.cap
      have hmm1 := hr1.max
      unfold maxLen at hmm1
      have HSTEP : Hid ((cs.take (i + 1)).foldl visitO (some (tr1, false)) = visitF tr2 more (cs.getD i [])) := by
        show (cs.take (i + 1)).foldl visitO (some (tr1, false)) = visitF tr2 more (cs.getD i [])
        rw [fold_take (by have := HL.out; omega), HFO.out]; rfl
      have HCONF : Hid (visitF tr2 more (cs.getD i []) = none → forcedF cs (N + 1) tr = true) := fun h => by
        have h2 : roundF tr1 cs = none := fold_none (i := i + 1) (by rw [HSTEP.out, h])
        rw [HF.out, forcedF, h2]
      clear hxx hr1 hcell hadS
      generalize cs.getD i [] = x at *
      obtain ⟨wi, rfl⟩ : ∃ wi : World, wi = wr := ⟨_, rfl⟩
      have di : decide (i < n) = true := by simpa using hil
      go_wp2
      clear e1
      go_loopw [8, 9, 10, 28] (fun v8 v9 v10 v28 wy => ∃ (j : Nat), j ≤ m1 ∧ v28 = .int .i64 j ∧ v10 = .bool (scanF tr2 (x.take j)).1 ∧ v8 = .int .i64 (scanF tr2 (x.take j)).2.1 ∧ v9 = .int .i64 (scanF tr2 (x.take j)).2.2 ∧ wi = wy) (fun _ _ _ v28 _ => m1 - (intOf v28).toNat)
      case atStart => exact ⟨0, Nat.zero_le _, rfl, rfl, rfl, rfl, rfl⟩
      case round =>
        obtain ⟨j, hj, rfl, rfl, rfl, rfl, rfl⟩ := hrel
        have hsl := scan_len tr2 (x.take j)
        rw [List.length_take] at hsl
        by_cases hjl : j < m1
        case neg =>
          have hfx : x.take j = x := List.take_of_length_le (by have := HL1.out; omega)
          rw [hfx] at hsl ⊢
          have hst := HSTEP.out
          have hcf := HCONF.out
          unfold visitF at hst hcf
          have hlam := fun h => scan_la (tr := tr2) (x := x) h
          have hla2 : (scanF tr2 x).2.1 ≠ 0 → (scanF tr2 x).2.2 ≠ 0 ∧ (scanF tr2 x).2.2.natAbs < N := fun h => HXX.out _ (hlam h).1
          have HSET := Lib.hid (fun h : (scanF tr2 x).2.1 ≠ 0 => HT2.out.set (y := (scanF tr2 x).2.2) (hla2 h).2)
          have HCV := Lib.hid (fun h : (scanF tr2 x).2.1 ≠ 0 => HT2.out.cell (hla2 h).2)
          have HFV := Lib.hid (fun v => HT2.out.2.2.1.frozenAt v)
          clear hfx hlam
          generalize (scanF tr2 x).1 = is0 at *
          generalize (scanF tr2 x).2.1 = op0 at *
          generalize (scanF tr2 x).2.2 = la0 at *
          have dj : decide (j < m1) = false := by simpa using hjl
          cases is0
          case true =>
            rw [if_pos rfl] at hst
            have HS := Lib.hid hst
            clear hst hcf hla2
            go_wp2
            go_roundw
            case rel => exact ⟨i + 1, tr2, more, by omega, by go_num, rfl, HS.out, HT2.out⟩
            case measure => simp [intOf]; omega
          rw [if_neg (by simp)] at hst hcf
          by_cases h0 : op0 = 0
          · rw [if_pos h0] at hcf
            have HE : Hid (forcedF cs (N + 1) tr = true) := hcf rfl
            subst h0
            clear hst hcf hla2
            go_wp2
            go_ret
            exact ⟨by rw [HE.out]; rfl, HT2.out.2.2.2⟩
          rw [if_neg h0] at hst
          by_cases h1 : op0 = 1
          · rw [if_pos h1] at hst
            have hset := HSET.out h0
            have hcv := HCV.out h0
            obtain ⟨hl0, hlN⟩ := hla2 h0
            subst h1
            clear hcf hla2 h0
            have HS := Lib.hid hst
            have HSE := Lib.hid hset
            clear hst hset
            by_cases hp : 0 < la0
            · obtain ⟨v, rfl⟩ := Int.eq_ofNat_of_zero_le (show 0 ≤ la0 by omega)
              rw [Int.natAbs_natCast] at hcv hlN
              have hfv := HFV.out v
              have hse := HSE.out
              rw [if_pos hp, Int.natAbs_natCast] at hse
              have HSE2 := Lib.hid hse
              clear hse
              have hp' : 0 < v := by omega
              generalize tr2.getD v 0 = tv at *
              go_wp2
              go_roundw
              case rel => exact ⟨i + 1, _, true, by omega, by go_num, rfl, HS.out, HSE2.out⟩
              case measure => simp [intOf]; omega
            · obtain ⟨v, hv⟩ := Int.eq_ofNat_of_zero_le (show 0 ≤ -la0 by omega)
              obtain rfl : la0 = -(v : Int) := by omega
              rw [Int.natAbs_neg, Int.natAbs_natCast] at hcv hlN
              have hfv := HFV.out v
              have hse := HSE.out
              rw [if_neg hp, Int.natAbs_neg, Int.natAbs_natCast] at hse
              have HSE2 := Lib.hid hse
              clear hse hv
              generalize tr2.getD v 0 = tv at *
              go_wp2
              go_roundw
              case rel => exact ⟨i + 1, _, true, by omega, by go_num, rfl, HS.out, HSE2.out⟩
              case measure => simp [intOf]; omega
          · rw [if_neg h1] at hst
            have HS := Lib.hid hst
            have b0 : ((op0 : Int) == 0) = false := by simp; omega
            have b1 : ((op0 : Int) == 1) = false := by simp; omega
            clear hst hcf hla2
            go_wp2
            go_roundw
            case rel => exact ⟨i + 1, tr2, more, by omega, by go_num, rfl, HS.out, HT2.out⟩
            case measure => simp [intOf]; omega
        case pos =>
          obtain ⟨ae, rfl, haeS, hce⟩ := HR1.out.at_ hjl
          have hl1 := HL1.out
          have hym : x.getD j 0 ∈ x := by rw [List.getD_eq_getElem?_getD, List.getElem?_eq_getElem (by omega)]; simp
          obtain ⟨hy0, hyN⟩ := HXX.out _ hym
          have HST := Lib.hid (scan_take (tr := tr2) (show j < x.length by omega))
          have htr := HT2.out.2.1 (x.getD j 0).natAbs
          have hcv := HT2.out.cell hyN
          have hlv : litV tr2 (x.getD j 0) = if x.getD j 0 < 0 then -(tr2.getD (x.getD j 0).natAbs 0) else tr2.getD (x.getD j 0).natAbs 0 := rfl
          have HLV := Lib.hid hlv
          clear hlv hym haeS hl1
          have hs6 : (scanF tr2 (x.take j)).2.1 + 1 ≤ 9223372036854775807 := by omega
          obtain ⟨lv, hlvv⟩ : ∃ lv, lv = litV tr2 (x.getD j 0) := ⟨_, rfl⟩
          have hl3 := litV_tri HT2.out.2.1 (x.getD j 0)
          rw [← hlvv] at hl3 HLV
          have HSS : Hid (scanF tr2 (x.take (j + 1)) = ((scanF tr2 (x.take j)).1 || lv == 1, if lv = 0 then (scanF tr2 (x.take j)).2.1 + 1 else (scanF tr2 (x.take j)).2.1, if lv = 0 then x.getD j 0 else (scanF tr2 (x.take j)).2.2)) := by
            show scanF tr2 (x.take (j + 1)) = _
            rw [HST.out, hlvv]; rfl
          have hyb : -60000 ≤ x.getD j 0 ∧ x.getD j 0 ≤ 60000 := by omega
          clear HST hlvv
          generalize x.getD j 0 = y at *
          generalize hva : y.natAbs = va at *
          generalize tr2.getD va 0 = tv at *
          generalize (scanF tr2 (x.take j)).1 = is0 at *
          generalize (scanF tr2 (x.take j)).2.1 = op0 at *
          generalize (scanF tr2 (x.take j)).2.2 = la0 at *
          have HVA := Lib.hid hva
          obtain ⟨hy1, hy2⟩ := hyb
          clear hva hsl
          have HTR := Lib.hid htr
          have HL3 := Lib.hid hl3
          clear htr hl3
          go_upto_region 11 with (fail)
          go_cut [13] (fun v wx => v = .int .i64 va ∧ wi = wx)
          case first =>
            have hva := HVA.out
            by_cases h0 : 0 ≤ y
            · obtain rfl : y = (va : Int) := by omega
              clear hva hy1 hy2
              go_wp2
              go_meet
              case rel => exact ⟨by simp, rfl⟩
            · obtain rfl : y = -(va : Int) := by omega
              clear hva hy1 hy2
              go_wp2
              go_meet
              case rel => exact ⟨by simp, rfl⟩
          obtain ⟨rfl, rfl⟩ := hcut
          go_upto_if 45 with (fail)
          go_cut [14] (fun v wx => v = .int .i64 lv ∧ wi = wx)
          case first =>
            have hlv := HLV.out
            have htr := HTR.out
            by_cases h0 : y < 0
            · rw [if_pos h0] at hlv
              subst hlv
              have ht1 : -1 ≤ tv ∧ tv ≤ 1 := by omega
              obtain ⟨ht1, ht2⟩ := ht1
              clear htr
              go_wp2
              go_meet
              case rel => exact ⟨rfl, rfl⟩
            · rw [if_neg h0] at hlv
              obtain rfl : lv = tv := hlv
              clear htr
              go_wp2
              go_meet
              case rel => exact ⟨rfl, rfl⟩
          obtain ⟨rfl, rfl⟩ := hcut
          go_upto_region 17 with (fail)
          go_cut [10] (fun v wx => v = .bool (is0 || lv == 1) ∧ wi = wx)
          case first =>
            cases is0
            · go_wp2
              go_meet
              case rel => exact ⟨by simp, rfl⟩
            · go_wp2
              go_meet
              case rel => exact ⟨by simp, rfl⟩
          obtain ⟨rfl, rfl⟩ := hcut
          have hl3 := HL3.out
          by_cases hz : lv = 0
          · have hss := HSS.out
            rw [if_pos hz, if_pos hz] at hss
            have HS2 := Lib.hid hss
            subst hz
            clear hss hl3
            go_wp2
            go_roundw
            case rel => exact ⟨j + 1, by omega, by go_num, by rw [HS2.out], by rw [HS2.out]; go_num, by rw [HS2.out], trivial⟩
            case measure => simp [intOf]; omega
          · have hss := HSS.out
            rw [if_neg hz, if_neg hz] at hss
            have HS2 := Lib.hid hss
            have hzb : (lv == 0) = false := by simpa using hz
            clear hss hl3
            go_wp2
            go_roundw
            case rel => exact ⟨j + 1, by omega, by go_num, by rw [HS2.out], by rw [HS2.out], by rw [HS2.out], trivial⟩
            case measure => simp [intOf]; omega
end Go.Proofs.Ytanbkdfffojpnaa
