/-
  chalklinelaw15.TotalShift: the walk.
-/
import Derived.Test.YtohffgggogdgmaaLive15
import Derived.Test.YtohffgggogdgmaaShiftLaw
namespace Go.Proofs.Ytohffgggogdgmaa
open Go.RowKit

/-- The ending of a call that hands back an int and leaves the world alone. -/
def RetIntSame (w : World) (x : Int) (e : Ending) (w' : World) : Prop := e = .returned (.int .i64 x) ∧ w = w'
set_option maxHeartbeats 400000 in
theorem moved_any (w : World) (x next sh : Int) (hx1 : -70000 ≤ x) (hx2 : x ≤ 70000) (h1 : 1 ≤ next) (h2 : next ≤ 70000) (hs0 : 0 ≤ sh) (hs1 : sh ≤ 255) :
    Calls Try.prog 15 #[.int .i64 x, .int .i64 next, .int .i64 sh] w (RetIntSame w (mv next sh x)) := by
  by_cases c1 : next ≤ x
  · have e : mv next sh x = x + sh := by unfold mv; rw [if_pos c1]
    rw [e]
    clear e
    go_enter Try.func15, Try.ntmps15
    go_wp2
    go_ret
    exact ⟨rfl, rfl⟩
  · by_cases c2 : next ≤ -x
    · have e : mv next sh x = x - sh := by unfold mv; rw [if_neg c1, if_pos c2]
      rw [e]
      clear e
      go_enter Try.func15, Try.ntmps15
      go_wp2
      go_ret
      exact ⟨rfl, rfl⟩
    · have e : mv next sh x = x := by unfold mv; rw [if_neg c1, if_neg c2]
      rw [e]
      clear e
      go_enter Try.func15, Try.ntmps15
      go_wp2
      go_ret
      exact ⟨rfl, rfl⟩

theorem getD_mem {α : Type} {xs : List α} {k : Nat} {d : α} (h : k < xs.length) : xs.getD k d ∈ xs := by
  rw [List.getD_eq_getElem?_getD, List.getElem?_eq_getElem h]; simp
theorem getD_map {α β : Type} {xs : List α} {f : α → β} {k : Nat} {d : α} {d' : β} (h : k < xs.length) : (xs.map f).getD k d' = f (xs.getD k d) := by
  rw [List.getD_eq_getElem?_getD, List.getD_eq_getElem?_getD, List.getElem?_map, List.getElem?_eq_getElem h]; rfl

set_option maxHeartbeats 4000000 in
set_option maxRecDepth 100000 in
theorem shift_walk (w : World) (n c : Nat) (A : Option Addr) (xs : List Int) (most next sh : Int) (hI : Ints w (Lt w) A n c xs) (hf : Fits xs) (hs0 : 0 ≤ sh) (hs1 : sh ≤ 255) :
    Calls Try.prog 4 #[.slice A n c, .int .i64 most, .int .i64 next, .int .u8 sh] w (RetBoolBelow w true) := by
  have hlen := hI.len
  have HI := Lib.hid hI
  have HF := Lib.hid hf
  have HLEN := Lib.hid hlen
  have LIVE := Lib.hid (live_any w)
  clear hI hf hlen
  by_cases g1 : 20 < n
  case pos =>
    go_enter Try.func4, Try.ntmps4
    go_wp2_with (fail)
    (with_reducible refine LIVE.out.mono ?_)
    rintro e w1 ⟨rfl, hb1⟩
    go_wp2
    go_ret
    exact ⟨rfl, hb1⟩
  by_cases g2 : next < 1
  case pos =>
    go_enter Try.func4, Try.ntmps4
    go_wp2_with (fail)
    (with_reducible refine LIVE.out.mono ?_)
    rintro e w1 ⟨rfl, hb1⟩
    go_wp2
    go_ret
    exact ⟨rfl, hb1⟩
  by_cases g3 : 2000 < next
  case pos =>
    go_enter Try.func4, Try.ntmps4
    go_wp2_with (fail)
    (with_reducible refine LIVE.out.mono ?_)
    rintro e w1 ⟨rfl, hb1⟩
    go_wp2
    go_ret
    exact ⟨rfl, hb1⟩
  have hn20 : n ≤ 20 := by omega
  have k1 : 1 ≤ next := by omega
  have k2 : next ≤ 2000 := by omega
  have d1 : decide ((20 : Int) < (n : Int)) = false := by simp; omega
  have d2 : decide (next < 1) = false := by simp; omega
  have d3 : decide (2000 < next) = false := by simp; omega
  go_enter Try.func4, Try.ntmps4
  go_wp2_with (fail)
  (with_reducible refine LIVE.out.mono ?_)
  rintro e w1 ⟨rfl, hb1⟩
  go_wp2_with (fail)
  (with_reducible refine (total_t w1 n c A xs most next (HI.out.belowLt hb1) HF.out (by omega)).mono ?_)
  rintro e w2 ⟨A2, n2, c2, A2', n2', c2', rfl, ho2, hr2, hb2⟩
  have HB2 := Lib.hid (below_then hb1 hb2)
  have HO2 := Lib.hid ho2
  have HR2 := Lib.hid hr2
  clear hb1 hb2 ho2 hr2 LIVE
  go_wp2_with (fail)
  (with_reducible refine (total_t w2 n c A xs most (next + sh) (HI.out.belowLt HB2.out) HF.out (by omega)).mono ?_)
  rintro e w3 ⟨A3, n3, c3, A3', n3', c3', rfl, ho3, hr3, hb3⟩
  have HB3 := Lib.hid (below_then HB2.out hb3)
  have HO23 := Lib.hid (HO2.out.belowLt hb3)
  have HR23 := Lib.hid (HR2.out.belowLt hb3)
  by_cases h0 : (totalR xs most next).err = 0
  case neg =>
    have hne : ((totalR xs most next).err != 0) = true := by simpa using h0
    clear h0 ho3 hr3 hb3
    generalize (totalR xs most next).err = er at *
    generalize (totalR xs most next).after = af at *
    generalize (totalR xs most (next + sh)).err = er' at *
    generalize (totalR xs most (next + sh)).after = af' at *
    go_wp2
    go_ret
    exact ⟨rfl, HB3.out⟩
  have hmv := totalR_mv (l := xs) (most := most) (next := next) (sh := sh) h0 k1 k2 hs0 hs1 (by have := HLEN.out; omega)
  have hsm := totalR_small h0
  have haf := totalR_err0 h0 (by have := HLEN.out; omega)
  rw [hmv] at ho3 hr3
  rw [hmv, h0]
  have hl2 := HO2.out.len
  have hl2' := HR2.out.len
  have hl3 := ho3.len
  have hl3' := hr3.len
  obtain ⟨hso, hsc⟩ := hsm
  dsimp only at ho3 hr3 hl3 hl3' ⊢
  rw [List.length_map] at hl3 hl3'
  have HO3 := Lib.hid ho3
  have HR3 := Lib.hid hr3
  have HSO := Lib.hid hso
  have HSC := Lib.hid hsc
  clear hmv h0 ho3 hr3 hso hsc hb3 HO2 HR2 HI HF
  generalize (totalR xs most next).outs = outs at *
  generalize (totalR xs most next).cs = cs at *
  generalize (totalR xs most next).after = af at *
  obtain ⟨haf1, haf2⟩ := haf
  obtain rfl : n2 = n3 := by omega
  obtain rfl : n2' = n3' := by omega
  have HL2 := Lib.hid hl2
  have HL2' := Lib.hid hl2'
  clear hl2 hl2' hl3 hl3'
  have hm2 := HO3.out.max
  have hm2' := HR3.out.max
  have hc2 := HO3.out.cap
  have hc2' := HR3.out.cap
  unfold maxLen at hm2 hm2'
  have q1 : ((n2 : Int) != (n2 : Int)) = false := by simp
  have q2 : ((n2' : Int) != (n2' : Int)) = false := by simp
  have q3 : ((af + sh : Int) != (af + sh : Int)) = false := by simp
  go_wp2
  clear q1 q2 q3 d1 d2 d3
  go_loopw [17] (fun i wr => ∃ k : Nat, k ≤ n2 ∧ i = .int .i64 k ∧ Below w3.heap.size w3 wr) (fun i _ => n2 - (intOf i).toNat)
  case atStart => exact ⟨0, Nat.zero_le _, rfl, Below.refl _ _⟩
  case round =>
    obtain ⟨k, hk, rfl, hbl⟩ := hrel
    by_cases hlt : k < n2
    · obtain ⟨ad, rfl, hadS, hcell⟩ := HO23.out.at_ hlt
      obtain ⟨ad', rfl, hadS', hcell'⟩ := HO3.out.at_ hlt
      have e1 := (hbl.cell (p := ad.add k) (by rw [block_of_add]; exact hadS)).trans hcell
      have e2 := (hbl.cell (p := ad'.add k) (by rw [block_of_add]; exact hadS')).trans hcell'
      have z1 : (0 : Int) ≤ (k : Int) := by omega
      have z2 : (k : Int) < (n2 : Int) := by omega
      have hsx := HSO.out (outs.getD k 0) (getD_mem (by have := HL2.out; omega))
      have hgm : (outs.map (mv next sh)).getD k 0 = mv next sh (outs.getD k 0) := getD_map (by have := HL2.out; omega)
      rw [hgm] at e2
      clear hcell hcell' hadS hadS' hgm
      generalize outs.getD k 0 = x at *
      obtain ⟨hsx1, hsx2⟩ := hsx
      have CALL := Lib.hid (moved_any wr.drew x next sh hsx1 hsx2 k1 (by omega) hs0 hs1)
      have hq : (mv next sh x != mv next sh x) = false := by simp
      generalize mv next sh x = y at *
      go_wp2
      have hws : IntKind.i64.wrap sh = sh := IntWalk.i64_in _ (by omega)
      go_region_held3 (fun w' => w'.cell? (ad.add k) = some (.int .i64 x) ∧ w'.cell? (ad'.add k) = some (.int .i64 y)) (first | (exact ⟨e1, e2⟩) | go_keep)
        (first | (go_at_call 15; (with_reducible refine CALL.out.mono ?_); rintro e w4 ⟨rfl, rfl⟩))
      clear hws
      go_wp2
      go_roundw
      case rel => exact ⟨k + 1, by omega, by go_num, hbl.drew⟩
      case measure => simp [intOf]; omega
    · obtain ⟨wL, rfl⟩ : ∃ wL : World, wL = wr := ⟨_, rfl⟩
      have hwd : Hid (Below w3.heap.size w3 wL) := hbl
      clear hbl
      go_wp2
      go_loopw [18] (fun i wr => ∃ k : Nat, k ≤ n2' ∧ i = .int .i64 k ∧ Below w3.heap.size w3 wr) (fun i _ => n2' - (intOf i).toNat)
      case atStart => exact ⟨0, Nat.zero_le _, rfl, hwd.out⟩
      case round =>
        obtain ⟨j, hj, rfl, hbl⟩ := hrel
        by_cases hjlt : j < n2'
        · obtain ⟨ad, B1, m1, k1', rfl, hadS, hcell, hr1⟩ := HR23.out.at_ hjlt
          obtain ⟨ad', B2, m2, k2', rfl, hadS', hcell', hr2⟩ := HR3.out.at_ hjlt
          have hgm : (cs.map (List.map (mv next sh))).getD j [] = (cs.getD j []).map (mv next sh) := getD_map (by have := HL2'.out; omega)
          rw [hgm] at hr2
          have hsc := HSC.out (cs.getD j []) (getD_mem (by have := HL2'.out; omega))
          have f1 := hr1.len
          have f2 := hr2.len
          rw [List.length_map] at f2
          have f3 := hr1.max
          have f4 := hr1.cap
          have f5 := hr2.cap
          have f6 := hr2.max
          unfold maxLen at f3 f6
          have hbc : ∀ w', Below w3.heap.size w3 w' → w'.cell? (ad.add j) = some (.slice B1 m1 k1') := fun w' hb => (hb.cell (p := ad.add j) (by rw [block_of_add]; exact hadS)).trans hcell
          have hbc' : ∀ w', Below w3.heap.size w3 w' → w'.cell? (ad'.add j) = some (.slice B2 m2 k2') := fun w' hb => (hb.cell (p := ad'.add j) (by rw [block_of_add]; exact hadS')).trans hcell'
          have HBC := Lib.hid hbc
          have HBC' := Lib.hid hbc'
          have e1 := hbc wr hbl
          have e2 := hbc' wr hbl
          have z1 : (0 : Int) ≤ (j : Int) := by omega
          have z2 : (j : Int) < (n2' : Int) := by omega
          obtain rfl : m1 = m2 := by omega
          have HM := Lib.hid f1
          have HR1 := Lib.hid hr1
          have HRR2 := Lib.hid hr2
          have HSC1 := Lib.hid hsc
          have hq : ((m1 : Int) != (m1 : Int)) = false := by simp
          clear hcell hcell' hadS hadS' hgm f1 f2 hr1 hr2 hsc hbc hbc'
          generalize cs.getD j [] = cl at *
          go_wp2
          go_region_held3 (fun w' => w'.cell? (ad.add j) = some (.slice B1 m1 k1') ∧ w'.cell? (ad'.add j) = some (.slice B2 m1 k2')) (first | (exact ⟨e1, e2⟩) | go_keep) (fail)
          clear hq
          go_wp2
          obtain ⟨wo, hwo⟩ : ∃ wo : World, wo = wr := ⟨_, rfl⟩
          have HWO := Lib.hid hbl.drew
          clear e1 e2 hbl hwo
          go_loopw [19] (fun i wi => ∃ k : Nat, k ≤ m1 ∧ i = .int .i64 k ∧ Below w3.heap.size w3 wi) (fun i _ => m1 - (intOf i).toNat)
          case atStart => exact ⟨0, Nat.zero_le _, rfl, HWO.out⟩
          case round =>
            obtain ⟨k, hk', rfl, hbi⟩ := hrel
            have e1 := HBC.out _ hbi
            have e2 := HBC'.out _ hbi
            by_cases hklt : k < m1
            · obtain ⟨bd, rfl, hbdS, hbcell⟩ := HR1.out.at_ hklt
              obtain ⟨bd', rfl, hbdS', hbcell'⟩ := HRR2.out.at_ hklt
              have e3 := (hbi.cell (p := bd.add k) (by rw [block_of_add]; exact hbdS)).trans hbcell
              have e4 := (hbi.cell (p := bd'.add k) (by rw [block_of_add]; exact hbdS')).trans hbcell'
              have z3 : (0 : Int) ≤ (k : Int) := by omega
              have z4 : (k : Int) < (m1 : Int) := by omega
              have hsx := HSC1.out (cl.getD k 0) (getD_mem (by have := HM.out; omega))
              have hgm : (cl.map (mv next sh)).getD k 0 = mv next sh (cl.getD k 0) := getD_map (by have := HM.out; omega)
              rw [hgm] at e4
              clear hbcell hbcell' hbdS hbdS' hgm
              generalize cl.getD k 0 = x at *
              obtain ⟨hsx1, hsx2⟩ := hsx
              have CALL := Lib.hid (moved_any wr.drew x next sh hsx1 hsx2 k1 (by omega) hs0 hs1)
              have hq : (mv next sh x != mv next sh x) = false := by simp
              generalize mv next sh x = y at *
              go_wp2
              have hws : IntKind.i64.wrap sh = sh := IntWalk.i64_in _ (by omega)
              go_region_held3 (fun w' => w'.cell? (ad.add j) = some (.slice (some bd) m1 k1') ∧ w'.cell? (ad'.add j) = some (.slice (some bd') m1 k2') ∧ w'.cell? (bd.add k) = some (.int .i64 x) ∧ w'.cell? (bd'.add k) = some (.int .i64 y)) (first | (exact ⟨e1, e2, e3, e4⟩) | go_keep)
                (first | (go_at_call 15; (with_reducible refine CALL.out.mono ?_); rintro e w4 ⟨rfl, rfl⟩))
              clear hws hq
              go_wp2
              go_roundw
              case rel => exact ⟨k + 1, by omega, by go_num, hbi.drew⟩
              case measure => simp [intOf]; omega
            · go_wp2
              go_roundw
              case rel => exact ⟨j + 1, by omega, by go_num, hbi⟩
              case measure => simp [intOf]; omega
        · go_wp2
          go_ret
          exact ⟨rfl, HB3.out.trans (hbl.mono HB3.out.size)⟩
end Go.Proofs.Ytohffgggogdgmaa
