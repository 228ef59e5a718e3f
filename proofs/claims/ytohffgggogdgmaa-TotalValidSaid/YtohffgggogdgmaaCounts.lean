/-
  chalklinelaw15.TotalCounts: the walk.
-/
import Derived.Test.YtohffgggogdgmaaLaw15
import Derived.Test.YtohffgggogdgmaaCountLaw
import Derived.Test.YtohffgggogdgmaaLive15
namespace Go.Proofs.Ytohffgggogdgmaa
open Go.RowKit

theorem litT_sval {m x : Int} (b : List Bool) (h : LitBelow m x) (hm : m ≤ 65537) : litT x b = sval (varT b) x := by
  unfold litT sval
  have : mayB x 65536 = true := by
    simp only [mayB, decide_eq_true_eq]
    have := h.1; have := h.2
    omega
  rw [if_pos this]
theorem lawLit_sval {m x : Int} {b : List Bool} (h : LitBelow m x) (hm : m ≤ b.length) : lawLit x b = sval (varT b) x := by
  unfold lawLit sval varT
  obtain ⟨h1, h2⟩ := h
  by_cases h0 : x < 0
  · rw [if_pos h0]
    have e : (-x).toNat = x.natAbs := by omega
    have d1 : decide (-x < (b.length : Int)) = true := by simp; omega
    have d2 : decide (0 < x) = false := by simp; omega
    rw [e, d1, d2]
    cases b.getD x.natAbs false <;> rfl
  · rw [if_neg h0]
    have e : x.toNat = x.natAbs := by omega
    have d1 : decide (x < (b.length : Int)) = true := by simp; omega
    have d2 : decide (0 < x) = true := by simp; omega
    rw [e, d1, d2]
    cases b.getD x.natAbs false <;> rfl
theorem allT_cval {m : Int} {cs : List (List Int)} (b : List Bool) (h : ∀ cl ∈ cs, Among (LitBelow m) cl) (hm : m ≤ 65537) (ha : allT cs b = true) : ∀ c ∈ cs, cval (varT b) c = true := fun c hc => by
  have h1 := List.all_eq_true.1 ha c hc
  unfold holdsT at h1
  obtain ⟨x, hx, hv⟩ := List.any_eq_true.1 h1
  rw [litT_sval b (h c hc x hx) hm] at hv
  exact List.any_eq_true.2 ⟨x, hx, hv⟩
theorem manyT_count {m : Int} {l : List Int} {b : List Bool} (h : Among (LitBelow m) l) (hm : m ≤ b.length) : manyT l b = l.countP (sval (varT b)) := by
  unfold manyT
  exact List.countP_congr fun x hx => by rw [lawLit_sval (h x hx) hm]

/-- What the law asks of each output. -/
theorem counts_law {l : List Int} {most next : Int} (h0 : (totalR l most next).err = 0) (b : List Bool) (hb : (totalR l most next).after ≤ b.length) (ha : allT (totalR l most next).cs b = true) {i : Nat} (hi : i < (totalR l most next).outs.length) :
    lawLit ((totalR l most next).outs.getD i 0) b = decide (i < manyT l b) := by
  have g := totalR_good h0
  have hm := g.after
  have hx : (totalR l most next).outs.getD i 0 ∈ (totalR l most next).outs := by rw [List.getD_eq_getElem?_getD, List.getElem?_eq_getElem hi]; simp
  rw [lawLit_sval (g.outs _ hx) hb, manyT_count g.lits (by omega)]
  exact g.unary (varT b) (allT_cval b g.cs (by omega) ha) i hi
theorem LitBelow.small {m x : Int} (h : LitBelow m x) (hm : m ≤ 65537) : -70000 ≤ x ∧ x ≤ 70000 := by have := h.2; omega

set_option maxHeartbeats 4000000 in
set_option maxRecDepth 100000 in
theorem counts_walk (w : World) (n c : Nat) (A : Option Addr) (xs : List Int) (most next : Int) (n' c' : Nat) (A' : Option Addr) (bs : List Bool) (hI : Ints w (Lt w) A n c xs) (hf : Fits xs) (hB : Bools w A' n' c' bs) :
    Calls Try.prog 5 #[.slice A n c, .int .i64 most, .int .i64 next, .slice A' n' c'] w (RetBoolBelow w true) := by
  have hlen := hI.len
  have HI := Lib.hid hI
  have HB := Lib.hid hB
  have HF := Lib.hid hf
  have HLEN := Lib.hid hlen
  have LIVE := Lib.hid (live_any w)
  have hmx := hB.max
  have hcp := hB.cap
  unfold maxLen at hmx
  clear hI hf hlen hB
  by_cases g1 : 20 < n
  case pos =>
    go_enter Try.func5, Try.ntmps5
    go_wp2_with (fail)
    (with_reducible refine LIVE.out.mono ?_)
    rintro e w1 ⟨rfl, hb1⟩
    go_wp2
    go_ret
    exact ⟨rfl, hb1⟩
  by_cases g2 : 3000 < n'
  case pos =>
    go_enter Try.func5, Try.ntmps5
    go_wp2_with (fail)
    (with_reducible refine LIVE.out.mono ?_)
    rintro e w1 ⟨rfl, hb1⟩
    go_wp2
    go_ret
    exact ⟨rfl, hb1⟩
  by_cases g3 : 2000 < next
  case pos =>
    go_enter Try.func5, Try.ntmps5
    go_wp2_with (fail)
    (with_reducible refine LIVE.out.mono ?_)
    rintro e w1 ⟨rfl, hb1⟩
    go_wp2
    go_ret
    exact ⟨rfl, hb1⟩
  have d1 : decide ((20 : Int) < (n : Int)) = false := by simp; omega
  have d2 : decide ((3000 : Int) < (n' : Int)) = false := by simp; omega
  have d3 : decide (2000 < next) = false := by simp; omega
  go_enter Try.func5, Try.ntmps5
  go_wp2_with (fail)
  (with_reducible refine LIVE.out.mono ?_)
  rintro e w1 ⟨rfl, hb1⟩
  go_wp2_with (fail)
  (with_reducible refine (total_t w1 n c A xs most next (HI.out.belowLt hb1) HF.out (by omega)).mono ?_)
  rintro e w2 ⟨A2, n2, c2, A2', n2', c2', rfl, ho2, hr2, hb2⟩
  have HB2 := Lib.hid (below_then hb1 hb2)
  have hl2 := ho2.len
  have hl2' := hr2.len
  have HO2 := Lib.hid ho2
  have HR2 := Lib.hid hr2
  clear hb1 hb2 ho2 hr2 LIVE
  by_cases h0 : (totalR xs most next).err = 0
  case neg =>
    have hne : ((totalR xs most next).err != 0) = true := by simpa using h0
    obtain ⟨b1, b2, b3⟩ := totalR_bad h0
    rw [b1] at hl2
    rw [b2] at hl2'
    rw [b3]
    obtain rfl : n2 = 0 := hl2
    obtain rfl : n2' = 0 := hl2'
    clear h0 b1 b2 b3 HO2 HR2
    generalize (totalR xs most next).err = er at *
    go_wp2
    go_ret
    exact ⟨rfl, HB2.out⟩
  have hg := totalR_good h0
  rw [h0]
  have hlaw := fun (b : List Bool) hb ha (i : Nat) hi => counts_law (l := xs) (most := most) (next := next) h0 b hb ha (i := i) hi
  have LAW := Lib.hid hlaw
  have hsx : Small xs := fun x hx => (hg.lits x hx).small (by have := hg.after; omega)
  have hso : Small (totalR xs most next).outs := fun x hx => (hg.outs x hx).small hg.after.2
  have hafter := hg.after
  have hlo := hg.len
  have harg := hg.arg
  have hgrow := hg.grow
  have HSX := Lib.hid hsx
  have HSO := Lib.hid hso
  clear hg hlaw hsx hso h0
  generalize (totalR xs most next).outs = outs at *
  generalize (totalR xs most next).cs = cs at *
  generalize (totalR xs most next).after = af at *
  obtain ⟨af1, af2⟩ := hafter
  obtain ⟨ag1, ag2⟩ := harg
  obtain ⟨m, rfl⟩ := Int.eq_ofNat_of_zero_le (show 0 ≤ af by omega)
  have hg4 : (m : Int) ≤ 2400 := by
    have hx : xs.length ≤ 20 := by have := HLEN.out; omega
    have : xs.length * xs.length ≤ 20 * 20 := Nat.mul_le_mul hx hx
    have e : ((xs.length * xs.length : Nat) : Int) = (xs.length : Int) * xs.length := by simp
    omega
  have hn2 : (n2 : Int) = min (n : Int) most := by rw [HLEN.out]; omega
  have HL2 := Lib.hid hl2
  have HN2 := Lib.hid hn2
  have hn2n : n2 ≤ n := by omega
  have hn20 : n ≤ 20 := by omega
  clear hl2 hl2' hlo hgrow hn2
  go_upto_region 8 with (fail)
  go_cut [68] (fun v wx => v = .bool false ∧ w2 = wx)
  case first =>
    by_cases hnm : (n : Int) ≤ most
    · have q1 : ((n2 : Int) != (n : Int)) = false := by have := HN2.out; simp; omega
      go_wp2
      all_goals go_meet
      all_goals exact ⟨by first | rfl | (simp; omega), rfl⟩
    · have q1 : ((n2 : Int) != most) = false := by have := HN2.out; simp; omega
      go_wp2
      all_goals go_meet
      all_goals exact ⟨by first | rfl | (simp; omega), rfl⟩
  case rest =>
    obtain ⟨rfl, rfl⟩ := hcut
    go_wp2_with (fail)
    (with_reducible refine (padded_any w2 A' n' c' bs m (HB.out.belowLt HB2.out) (by omega)).mono ?_)
    rintro e w3 ⟨g, rfl, hblk, hgw, hb3⟩
    have hBp := Bools.of_blk hblk (by rw [padT_len]; simp only [maxLen]; omega)
    have hlen3 := padT_len bs m
    have HB3 := Lib.hid (below_then HB2.out hb3)
    have HO3 := Lib.hid (HO2.out.belowLt hb3)
    have HR3 := Lib.hid (HR2.out.belowLt hb3)
    clear hblk hgw hb3 HO2 HR2 HB2
    have LAW2 := Lib.hid (LAW.out (padT bs m) (by rw [hlen3]; omega))
    clear LAW
    generalize padT bs m = pb at *
    have HBP := Lib.hid hBp
    have HL3 := Lib.hid hlen3
    clear hBp hlen3
    go_wp2_with (fail)
    have call := lawHolds_any w3 A2' n2' c2' cs (some ⟨g, 0, none⟩) pb.length pb.length pb HR3.out HBP.out
    cases hall : allT cs pb
    · rw [hall] at call
      have CALL := Lib.hid call
      clear call hall
      (with_reducible refine CALL.out.mono ?_)
      rintro e w4 ⟨rfl, hb4⟩
      go_wp2_with (fail)
      go_ret
      exact ⟨rfl, below_then HB3.out hb4⟩
    · rw [hall] at call
      have CALL := Lib.hid call
      have LAW3 := Lib.hid (LAW2.out hall)
      clear call hall LAW2
      (with_reducible refine CALL.out.mono ?_)
      rintro e w4 ⟨rfl, hb4⟩
      have HB4 := Lib.hid (below_then HB3.out hb4)
      have HO4 := Lib.hid (HO3.out.belowLt hb4)
      have HBP4 := Lib.hid (HBP.out.belowLt hb4)
      clear hb4 HB3 HO3 HR3 HBP CALL
      go_wp2_with (fail)
      (with_reducible refine (many_any w4 A n c xs (some ⟨g, 0, none⟩) pb.length pb.length pb (HI.out.belowLt HB4.out) HBP4.out HSX.out (by omega)).mono ?_)
      rintro e w5 ⟨rfl, rfl⟩
      have hmy : manyT xs pb ≤ 20 := by have := manyT_le xs pb; have := HLEN.out; omega
      generalize manyT xs pb = my at *
      clear d1 d2 d3
      go_wp2_with (fail)
      go_loop [15] (fun i => ∃ k : Nat, k ≤ n2 ∧ i = .int .i64 k) (fun i => n2 - (intOf i).toNat)
      case atStart => exact ⟨0, Nat.zero_le _, rfl⟩
      case round =>
        obtain ⟨k, hk, rfl⟩ := hrel
        by_cases hlt : k < n2
        · obtain ⟨ad, rfl, hadS, hcell⟩ := HO4.out.at_ hlt
          have hl := LAW3.out k (by have := HL2.out; omega)
          have hsx := HSO.out (outs.getD k 0) (by rw [List.getD_eq_getElem?_getD, List.getElem?_eq_getElem (by have := HL2.out; omega)]; simp)
          have call := lit_any w4 (outs.getD k 0) _ _ _ pb HBP4.out hsx.1 hsx.2
          rw [hl] at call
          have CALL := Lib.hid call
          clear call hl hsx hadS
          generalize outs.getD k 0 = x at *
          have hq : decide ((k : Int) < (my : Int)) = decide (k < my) := by simp
          have HQ := Lib.hid hq
          clear hq
          by_cases hkm : k < my
          · have d4 : decide (k < my) = true := by simpa using hkm
            rw [d4] at CALL
            go_wp2_with (fail)
            (with_reducible refine CALL.out.mono ?_)
            rintro e w6 ⟨rfl, rfl⟩
            go_wp2_with (fail)
            go_round
            case rel => exact ⟨k + 1, by omega, by go_num⟩
            case measure => simp [intOf]; omega
          · have d4 : decide (k < my) = false := by simpa using hkm
            rw [d4] at CALL
            go_wp2_with (fail)
            (with_reducible refine CALL.out.mono ?_)
            rintro e w6 ⟨rfl, rfl⟩
            go_wp2_with (fail)
            go_round
            case rel => exact ⟨k + 1, by omega, by go_num⟩
            case measure => simp [intOf]; omega
        · go_wp2_with (fail)
          go_ret
          exact ⟨rfl, HB4.out⟩
end Go.Proofs.Ytohffgggogdgmaa
