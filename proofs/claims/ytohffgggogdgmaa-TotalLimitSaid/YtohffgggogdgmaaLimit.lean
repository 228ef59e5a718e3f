/-
  chalklinelaw15.TotalLimit: the walk.
-/
import Derived.Test.YtohffgggogdgmaaCounts
namespace Go.Proofs.Ytohffgggogdgmaa
open Go.RowKit

set_option maxHeartbeats 4000000 in
set_option maxRecDepth 100000 in
theorem limit_walk (w : World) (n c : Nat) (A : Option Addr) (xs : List Int) (most less next : Int) (n' c' : Nat) (A' : Option Addr) (bs : List Bool) (hI : Ints w (Lt w) A n c xs) (hf : Fits xs) (hB : Bools w A' n' c' bs) :
    Calls Try.prog 7 #[.slice A n c, .int .i64 most, .int .i64 less, .int .i64 next, .slice A' n' c'] w (RetBoolBelow w true) := by
  have hlen := hI.len
  have HI := Lib.hid hI
  have HB := Lib.hid hB
  have HF := Lib.hid hf
  have HLEN := Lib.hid hlen
  have LIVE := Lib.hid (live_any w)
  have hmx := hB.max
  have hcp := hB.cap
  unfold maxLen at hmx
  clear hI hf hlen hB
  by_cases g1 : 12 < n
  case pos =>
    go_enter Try.func7, Try.ntmps7
    go_wp2_with (fail)
    (with_reducible refine LIVE.out.mono ?_)
    rintro e w1 ⟨rfl, hb1⟩
    go_wp2
    go_ret
    exact ⟨rfl, hb1⟩
  by_cases g2 : most < less
  case pos =>
    go_enter Try.func7, Try.ntmps7
    go_wp2_with (fail)
    (with_reducible refine LIVE.out.mono ?_)
    rintro e w1 ⟨rfl, hb1⟩
    go_wp2
    go_ret
    exact ⟨rfl, hb1⟩
  by_cases g3 : 3000 < n'
  case pos =>
    go_enter Try.func7, Try.ntmps7
    go_wp2_with (fail)
    (with_reducible refine LIVE.out.mono ?_)
    rintro e w1 ⟨rfl, hb1⟩
    go_wp2
    go_ret
    exact ⟨rfl, hb1⟩
  by_cases g4 : 1000 < next
  case pos =>
    go_enter Try.func7, Try.ntmps7
    go_wp2_with (fail)
    (with_reducible refine LIVE.out.mono ?_)
    rintro e w1 ⟨rfl, hb1⟩
    go_wp2
    go_ret
    exact ⟨rfl, hb1⟩
  have d1 : decide ((12 : Int) < (n : Int)) = false := by simp; omega
  have d2 : decide (most < less) = false := by simp; omega
  have d3 : decide ((3000 : Int) < (n' : Int)) = false := by simp; omega
  have d4 : decide (1000 < next) = false := by simp; omega
  go_enter Try.func7, Try.ntmps7
  go_wp2_with (fail)
  (with_reducible refine LIVE.out.mono ?_)
  rintro e w1 ⟨rfl, hb1⟩
  go_wp2_with (fail)
  (with_reducible refine (total_t w1 n c A xs most next (HI.out.belowLt hb1) HF.out (by omega)).mono ?_)
  rintro e w2 ⟨A2, n2, c2, A2', n2', c2', rfl, ho2, hr2, hb2⟩
  have HB2 := Lib.hid (below_then hb1 hb2)
  have HL2 := Lib.hid ho2.len
  have HO2 := Lib.hid ho2
  have HR2 := Lib.hid hr2
  clear hb1 hb2 ho2 hr2 LIVE
  by_cases h0 : (totalR xs most next).err = 0
  case neg =>
    have hne : ((totalR xs most next).err != 0) = true := by simpa using h0
    clear h0 HO2 HR2 HL2
    generalize (totalR xs most next).err = er at *
    generalize (totalR xs most next).after = af at *
    go_wp2
    go_ret
    exact ⟨rfl, HB2.out⟩
  have hg := totalR_good h0
  have hlaw := fun (b : List Bool) hb ha (i : Nat) hi => counts_law (l := xs) (most := most) (next := next) h0 b hb ha (i := i) hi
  have hso : Small (totalR xs most next).outs := fun x hx => (hg.outs x hx).small hg.after.2
  have hafter := hg.after
  have HLO := Lib.hid hg.len
  have harg := hg.arg
  have LAW := Lib.hid hlaw
  have HSO := Lib.hid hso
  rw [h0]
  clear hg hlaw hso h0
  generalize (totalR xs most next).outs = outs at *
  generalize (totalR xs most next).cs = cs at *
  generalize (totalR xs most next).after = af at *
  obtain ⟨af1, af2⟩ := hafter
  obtain ⟨ag1, ag2⟩ := harg
  by_cases g5 : 2000 < af
  case pos =>
    have e0 : ((0 : Int) != 0) = false := by decide
    go_wp2
    go_ret
    exact ⟨rfl, HB2.out⟩
  have d5 : decide (2000 < af) = false := by simp; omega
  go_wp2_with (fail)
  (with_reducible refine (total_t w2 n c A xs less af (HI.out.belowLt HB2.out) HF.out (by omega)).mono ?_)
  rintro e w3 ⟨A3, n3, c3, A3', n3', c3', rfl, ho3, hr3, hb3⟩
  have HB3 := Lib.hid (below_then HB2.out hb3)
  have HL3 := Lib.hid ho3.len
  have HO3 := Lib.hid ho3
  have HR3 := Lib.hid hr3
  have HO23 := Lib.hid (HO2.out.belowLt hb3)
  have HR23 := Lib.hid (HR2.out.belowLt hb3)
  clear hb3 ho3 hr3 HO2 HR2 HB2
  by_cases h1 : (totalR xs less af).err = 0
  case neg =>
    have hne : ((totalR xs less af).err != 0) = true := by simpa using h1
    clear h1 HO3 HR3 HL3
    generalize (totalR xs less af).err = er at *
    generalize (totalR xs less af).after = af' at *
    go_wp2
    go_ret
    exact ⟨rfl, HB3.out⟩
  have hg := totalR_good h1
  have hlaw := fun (b : List Bool) hb ha (i : Nat) hi => counts_law (l := xs) (most := less) (next := af) h1 b hb ha (i := i) hi
  have hso : Small (totalR xs less af).outs := fun x hx => (hg.outs x hx).small hg.after.2
  have hafter := hg.after
  have HLO' := Lib.hid hg.len
  have harg := hg.arg
  have LAW' := Lib.hid hlaw
  have HSO' := Lib.hid hso
  rw [h1]
  clear hg hlaw hso h1
  generalize (totalR xs less af).outs = outs' at *
  generalize (totalR xs less af).cs = cs' at *
  generalize (totalR xs less af).after = af' at *
  obtain ⟨af3, af4⟩ := hafter
  obtain ⟨ag3, ag4⟩ := harg
  obtain ⟨m, rfl⟩ := Int.eq_ofNat_of_zero_le (show 0 ≤ af' by omega)
  have hn32 : n3 ≤ n2 := by have := HL2.out; have := HL3.out; have := HLO.out; have := HLO'.out; omega
  have hn3b : n3 ≤ 12 := by have := HLEN.out; have := HL3.out; have := HLO'.out; omega
  have hn2b : n2 ≤ 12 := by have := HLEN.out; have := HL2.out; have := HLO.out; omega
  have d6 : decide (n2 < n3) = false := by simp; omega
  go_wp2_with (fail)
  (with_reducible refine (padded_any w3 A' n' c' bs m (HB.out.belowLt HB3.out) (by omega)).mono ?_)
  rintro e w4 ⟨g, rfl, hblk, hgw, hb4⟩
  have hBp := Bools.of_blk hblk (by rw [padT_len]; simp only [maxLen]; omega)
  have hlen3 := padT_len bs m
  have HB4 := Lib.hid (below_then HB3.out hb4)
  have HO4 := Lib.hid (HO3.out.belowLt hb4)
  have HR4 := Lib.hid (HR3.out.belowLt hb4)
  have HO24 := Lib.hid (HO23.out.belowLt hb4)
  have HR24 := Lib.hid (HR23.out.belowLt hb4)
  clear hblk hgw hb4 HO3 HR3 HB3 HO23 HR23
  have LAW2 := Lib.hid (LAW.out (padT bs m) (by rw [hlen3]; omega))
  have LAW2' := Lib.hid (LAW'.out (padT bs m) (by rw [hlen3]; omega))
  clear LAW LAW'
  generalize padT bs m = pb at *
  have HBP := Lib.hid hBp
  clear hBp hlen3
  have call := lawHolds_any w4 A2' n2' c2' cs (some ⟨g, 0, none⟩) pb.length pb.length pb HR24.out HBP.out
  go_wp2_with (fail)
  cases hall : allT cs pb
  · rw [hall] at call
    have CALL := Lib.hid call
    clear call hall
    (with_reducible refine CALL.out.mono ?_)
    rintro e w5 ⟨rfl, hb5⟩
    go_wp2_with (fail)
    go_ret
    exact ⟨ret_bool (by first | rfl | (simp; omega)), below_then HB4.out hb5⟩
  · rw [hall] at call
    have CALL := Lib.hid call
    have LAW3 := Lib.hid (LAW2.out hall)
    clear call hall LAW2
    (with_reducible refine CALL.out.mono ?_)
    rintro e w5 ⟨rfl, hb5⟩
    have HB5 := Lib.hid (below_then HB4.out hb5)
    have HO5 := Lib.hid (HO4.out.belowLt hb5)
    have HR5 := Lib.hid (HR4.out.belowLt hb5)
    have HO25 := Lib.hid (HO24.out.belowLt hb5)
    have HBP5 := Lib.hid (HBP.out.belowLt hb5)
    clear hb5 HB4 HO4 HR4 HO24 HR24 HBP CALL
    have call := lawHolds_any w5 A3' n3' c3' cs' (some ⟨g, 0, none⟩) pb.length pb.length pb HR5.out HBP5.out
    go_wp2_with (fail)
    cases hall' : allT cs' pb
    · rw [hall'] at call
      have CALL := Lib.hid call
      clear call hall'
      (with_reducible refine CALL.out.mono ?_)
      rintro e w6 ⟨rfl, hb6⟩
      go_wp2_with (fail)
      go_ret
      exact ⟨ret_bool (by first | rfl | (simp; omega)), below_then HB5.out hb6⟩
    · rw [hall'] at call
      have CALL := Lib.hid call
      have LAW3' := Lib.hid (LAW2'.out hall')
      clear call hall' LAW2'
      (with_reducible refine CALL.out.mono ?_)
      rintro e w6 ⟨rfl, hb6⟩
      have HB6 := Lib.hid (below_then HB5.out hb6)
      have HO6 := Lib.hid (HO5.out.belowLt hb6)
      have HO26 := Lib.hid (HO25.out.belowLt hb6)
      have HBP6 := Lib.hid (HBP5.out.belowLt hb6)
      clear hb6 HB5 HO5 HR5 HO25 HBP5 CALL
      generalize manyT xs pb = my at *
      go_wp2_with (fail)
      clear d1 d2 d3 d4 d5 d6
      go_loopw [20] (fun i wr => ∃ k : Nat, k ≤ n3 ∧ i = .int .i64 k ∧ Below w6.heap.size w6 wr) (fun i _ => n3 - (intOf i).toNat)
      case atStart => exact ⟨0, Nat.zero_le _, rfl, Below.refl _ _⟩
      case round =>
        obtain ⟨k, hk, rfl, hbl⟩ := hrel
        by_cases hlt : k < n3
        · obtain ⟨ad, rfl, hadS, hcell⟩ := HO26.out.at_ (show k < n2 by omega)
          obtain ⟨ad', rfl, hadS', hcell'⟩ := HO6.out.at_ hlt
          have e1 := (hbl.cell (p := ad.add k) (by rw [block_of_add]; exact hadS)).trans hcell
          have e2 := (hbl.cell (p := ad'.add k) (by rw [block_of_add]; exact hadS')).trans hcell'
          have z1 : (0 : Int) ≤ (k : Int) := by omega
          have z2 : (k : Int) < (n2 : Int) := by omega
          have hk2 : k < n2 := by omega
          have z3 : (k : Int) < (n3 : Int) := by omega
          have hl := LAW3.out k (by have := HL2.out; omega)
          have hl' := LAW3'.out k (by have := HL3.out; omega)
          have hsx := HSO.out (outs.getD k 0) (by rw [List.getD_eq_getElem?_getD, List.getElem?_eq_getElem (by have := HL2.out; omega)]; simp)
          have hsx' := HSO'.out (outs'.getD k 0) (by rw [List.getD_eq_getElem?_getD, List.getElem?_eq_getElem (by have := HL3.out; omega)]; simp)
          have hBd := HBP6.out.belowLt hbl.drew
          have call := lit_any wr.drew (outs.getD k 0) _ _ _ pb hBd hsx.1 hsx.2
          have call' := lit_any wr.drew (outs'.getD k 0) _ _ _ pb hBd hsx'.1 hsx'.2
          rw [hl] at call
          rw [hl'] at call'
          have CALL := Lib.hid call
          have CALL' := Lib.hid call'
          clear call call' hl hl' hsx hsx' hadS hadS' hcell hcell' hBd
          generalize outs.getD k 0 = x at *
          generalize outs'.getD k 0 = y at *
          generalize decide (k < my) = b at *
          have hq : (b != b) = false := by simp
          go_wp2
          go_region_held3 (fun w' => w'.cell? (ad.add k) = some (.int .i64 x) ∧ w'.cell? (ad'.add k) = some (.int .i64 y)) (first | (exact ⟨e1, e2⟩) | go_keep)
            (first | (go_at_call 19; (with_reducible refine CALL.out.mono ?_); rintro e w4 ⟨rfl, rfl⟩) | (go_at_call 19; (with_reducible refine CALL'.out.mono ?_); rintro e w4 ⟨rfl, rfl⟩))
          go_wp2
          go_roundw
          case rel => exact ⟨k + 1, by omega, by go_num, hbl.drew⟩
          case measure => simp [intOf]; omega
        · go_wp2
          go_ret
          exact ⟨rfl, below_then HB6.out hbl⟩
end Go.Proofs.Ytohffgggogdgmaa
