/-
  chalklinelaw15.TotalValid: the walk.
-/
import Derived.Test.YtohffgggogdgmaaCheck
import Derived.Test.YtohffgggogdgmaaLive15
import Derived.Test.YtohffgggogdgmaaValidLaw
import Derived.Test.YtohffgggogdgmaaCounts
namespace Go.Proofs.Ytohffgggogdgmaa
open Go.RowKit

theorem check_ok {m : Int} {cs : List (List Int)} (h1 : 1 ≤ m) (h2 : m ≤ 65537) (hc : ∀ cl ∈ cs, Among (LitBelow m) cl) (hl : cs.length ≤ 65536) : checkR (m - 1) cs = 0 := by
  unfold checkR
  have hb : badB cs (m - 1) = false := by
    unfold badB
    refine List.any_eq_false.2 fun cl hcl => ?_
    have : cl.any (fun x => !mayB x (m - 1)) = false := List.any_eq_false.2 fun x hx => by
      have h := hc cl hcl x hx
      have : mayB x (m - 1) = true := by
        simp only [mayB, decide_eq_true_eq]
        have := h.1; have := h.2
        omega
      simp [this]
    simp [this]
  rw [if_neg (by omega), hb]
  simp
  omega

set_option maxHeartbeats 4000000 in
set_option maxRecDepth 100000 in
theorem valid_walk (w : World) (n c : Nat) (A : Option Addr) (xs : List Int) (most next : Int) (hI : Ints w (Lt w) A n c xs) (hf : Fits xs) :
    Calls Try.prog 9 #[.slice A n c, .int .i64 most, .int .i64 next] w (RetBoolBelow w true) := by
  have hlen := hI.len
  have hIc := hI.cap
  have hIm := hI.max
  unfold maxLen at hIm
  have HI := Lib.hid hI
  have HF := Lib.hid hf
  have HLEN := Lib.hid hlen
  have LIVE := Lib.hid (live_any w)
  clear hI hf hlen
  by_cases g1 : 40 < n
  case pos =>
    go_enter Try.func9, Try.ntmps9
    go_wp2_with (fail)
    (with_reducible refine LIVE.out.mono ?_)
    rintro e w1 ⟨rfl, hb1⟩
    go_wp2
    go_ret
    exact ⟨rfl, hb1⟩
  have d1 : decide ((40 : Int) < (n : Int)) = false := by simp; omega
  go_enter Try.func9, Try.ntmps9
  go_wp2_with (fail)
  (with_reducible refine LIVE.out.mono ?_)
  rintro e w1 ⟨rfl, hb1⟩
  go_wp2_with (fail)
  (with_reducible refine (total_t w1 n c A xs most next (HI.out.belowLt hb1) HF.out (by omega)).mono ?_)
  rintro e w2 ⟨A2, n2, c2, A2', n2', c2', rfl, ho2, hr2, hb2⟩
  have HB2 := Lib.hid (below_then hb1 hb2)
  have hl2 := ho2.len
  have hl2' := hr2.len
  have HO2 := Lib.hid ho2
  have HR2 := Lib.hid hr2
  clear hb1 hb2 ho2 hr2 LIVE
  by_cases h0 : (totalR xs most next).err = 0
  case neg =>
    have hne : ((totalR xs most next).err != 0) = true := by simpa using h0
    obtain ⟨b1, b2, b3⟩ := totalR_bad h0
    rw [b1] at hl2
    rw [b2] at hl2'
    rw [b3]
    obtain rfl : n2 = 0 := hl2
    obtain rfl : n2' = 0 := hl2'
    clear h0 b1 b2 b3 HO2 HR2
    generalize (totalR xs most next).err = er at *
    go_wp2
    go_ret
    exact ⟨rfl, HB2.out⟩
  have hg := totalR_good h0
  obtain ⟨v1, v2, v3, v4⟩ := totalR_valid h0 (by have := HLEN.out; omega)
  have HCK := Lib.hid (check_ok (m := (totalR xs most next).after) (by have := hg.after; have := hg.arg; omega) hg.after.2 hg.cs (by omega))
  have hafter := hg.after
  have harg := hg.arg
  have HSO : Hid (Small (totalR xs most next).outs) := fun x hx => (hg.outs x hx).small hg.after.2
  rw [h0]
  have HL2 := Lib.hid hl2
  have HL2' := Lib.hid hl2'
  have HV1 := Lib.hid v1
  have HLO := Lib.hid hg.len
  have HV3 := Lib.hid v3
  have HV4 := Lib.hid v4
  clear hg h0 v1 v3 v4 hl2 hl2'
  generalize (totalR xs most next).outs = outs at *
  generalize (totalR xs most next).cs = cs at *
  generalize (totalR xs most next).after = af at *
  obtain ⟨af1, af2⟩ := hafter
  obtain ⟨ag1, ag2⟩ := harg
  have hm2 := HO2.out.max
  have hm2' := HR2.out.max
  have hc2 := HO2.out.cap
  have hc2' := HR2.out.cap
  unfold maxLen at hm2 hm2'
  have hn2' : n2' ≤ 6400 := by have := HL2'.out; omega
  clear v2
  go_wp2_with (fail)
  clear d1
  go_loopw [11] (fun i wr => ∃ k : Nat, k ≤ n2 ∧ i = .int .i64 k ∧ Below w2.heap.size w2 wr) (fun i _ => n2 - (intOf i).toNat)
  case atStart => exact ⟨0, Nat.zero_le _, rfl, Below.refl _ _⟩
  case round =>
    obtain ⟨k, hk, rfl, hbl⟩ := hrel
    by_cases hlt : k < n2
    · obtain ⟨ad, rfl, hadS, hcell⟩ := HO2.out.at_ hlt
      have e1 := (hbl.cell (p := ad.add k) (by rw [block_of_add]; exact hadS)).trans hcell
      have z1 : (0 : Int) ≤ (k : Int) := by omega
      have z2 : (k : Int) < (n2 : Int) := by omega
      have hmem : outs.getD k 0 ∈ outs := by rw [List.getD_eq_getElem?_getD, List.getElem?_eq_getElem (by have := HL2.out; omega)]; simp
      by_cases hn1 : n = 1
      · have hx1 := HV3.out (by have := HLEN.out; omega) _ hmem
        have hIw := (HI.out.belowLt HB2.out).belowLt hbl
        obtain ⟨ad0, rfl, hadS0, hcell0⟩ := hIw.at_ (k := 0) (by omega)
        rw [add_zero] at hcell0
        rw [hx1] at e1
        clear hcell hadS hadS0 hmem hx1 hIw
        generalize xs.getD 0 0 = x at *
        have hq : (x != x) = false := by simp
        have hq1 : ((n : Int) == 1) = true := by simp; omega
        have hq2 : decide ((1 : Int) < (n : Int)) = false := by simp; omega
        have hn0 : 0 < n := by omega
        clear hn1
        go_wp2
        go_quiet (fail)
        go_wp2
        go_roundw
        case rel => exact ⟨k + 1, by omega, by go_num, ⟨hbl.os, hbl.tape, hbl.output, hbl.size, hbl.block⟩⟩
        case measure => simp [intOf]; omega
      · have hn2 : 1 < n := by
          rcases Nat.lt_or_ge n 2 with h | h
          · exfalso
            have h1 := HLEN.out
            have : xs.length = 0 := by omega
            have h2 := HL2.out
            have h3 := HLO.out
            omega
          · omega
        have hx1 := HV4.out (by have := HLEN.out; omega) _ hmem
        obtain ⟨hx1, hx2⟩ := hx1
        clear hcell hadS hmem
        generalize outs.getD k 0 = x at *
        have hq1 : ((n : Int) == 1) = false := by simp; omega
        have hq2 : decide ((1 : Int) < (n : Int)) = true := by simp; omega
        have hq3 : decide (x < next) = false := by simp; omega
        have hq4 : decide (af ≤ x) = false := by simp; omega
        clear hn1
        go_wp2
        go_quiet (fail)
        go_wp2
        go_roundw
        case rel => exact ⟨k + 1, by omega, by go_num, ⟨hbl.os, hbl.tape, hbl.output, hbl.size, hbl.block⟩⟩
        case measure => simp [intOf]; omega
    · obtain ⟨wL, rfl⟩ : ∃ wL : World, wL = wr := ⟨_, rfl⟩
      have HWL := Lib.hid hbl
      clear hbl
      go_wp2
      go_loopw [12] (fun i wr => ∃ j : Nat, j ≤ n2' ∧ i = .int .i64 j ∧ Below w2.heap.size w2 wr) (fun i _ => n2' - (intOf i).toNat)
      case atStart => exact ⟨0, Nat.zero_le _, rfl, HWL.out⟩
      case round =>
        obtain ⟨j, hj, rfl, hbl⟩ := hrel
        by_cases hjlt : j < n2'
        · obtain ⟨ad, B1, m1, k1, rfl, hadS, hcell, hr1⟩ := HR2.out.at_ hjlt
          have e1 := (hbl.cell (p := ad.add j) (by rw [block_of_add]; exact hadS)).trans hcell
          have hv := HV1.out (cs.getD j []) (by rw [List.getD_eq_getElem?_getD, List.getElem?_eq_getElem (by have := HL2'.out; omega)]; simp)
          have hm1 := hr1.len
          rw [← hm1] at hv
          obtain ⟨hv1, hv2⟩ := hv
          have dq1 : decide ((m1 : Int) < 2) = false := by simp; omega
          have dq2 : decide ((3 : Int) < (m1 : Int)) = false := by simp; omega
          clear hcell hadS hr1 hm1
          go_wp2
          go_roundw
          case rel => exact ⟨j + 1, by omega, by go_num, hbl⟩
          case measure => simp [intOf]; omega
        · have CALL := Lib.hid (check_any wr (af - 1) A2' n2' c2' cs (HR2.out.belowLt hbl))
          rw [HCK.out] at CALL
          go_wp2_with (fail)
          (with_reducible refine CALL.out.mono ?_)
          rintro e w5 ⟨rfl, hb5⟩
          go_wp2_with (fail)
          go_ret
          exact ⟨rfl, below_then (below_then HB2.out hbl) hb5⟩
end Go.Proofs.Ytohffgggogdgmaa
