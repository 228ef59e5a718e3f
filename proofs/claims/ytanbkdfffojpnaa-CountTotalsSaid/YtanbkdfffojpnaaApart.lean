/-
  total.apart: are the variables distinct and in range?
-/
import Derived.Test.YtanbkdfffojpnaaMaps
import Derived.Test.YtanbkdfffojpnaaBase
import Derived.Test.YtanbkdfffojpnaaTotSpec
import Derived.Deep.DeepMust
import Derived.Deep.CutRange
import Derived.Deep.DeepCutAuto
namespace Go.Proofs.Ytanbkdfffojpnaa
open Go.RowKit

/-- What the map of the variables that were met holds. -/
def seenF (seen : List Int) : Int → Option Value := fun v => if v = 0 ∨ v ∈ seen then some (.bool true) else none
theorem seenF_cons (seen : List Int) (v k : Int) : upd (seenF seen) v (.bool true) k = seenF (v :: seen) k := by
  unfold upd seenF
  by_cases h1 : k = v
  · rw [if_pos h1, if_pos (by simp [h1])]
  · rw [if_neg h1]
    congr 1
    simp [h1]
theorem seenF_hit {seen : List Int} {v : Int} (h : v = 0 ∨ v ∈ seen) : (seenF seen v).getD (.bool false) = .bool true := by rw [seenF, if_pos h]; rfl
theorem seenF_miss {seen : List Int} {v : Int} (h : ¬ (v = 0 ∨ v ∈ seen)) : (seenF seen v).getD (.bool false) = .bool false := by rw [seenF, if_neg h]; rfl

set_option maxHeartbeats 1000000 in
theorem apart_any (w : World) (S : Nat → Prop) (n c : Nat) (A : Option Addr) (xs : List Int) (next : Int) (h : Ints w S A n c xs) (hS : ∀ k, S k → k < w.heap.size) (hf : Fits xs) (hn1 : 1 ≤ next) (hn2 : next ≤ 65537) (hn : n ≤ 4096) :
    Calls Try.prog 42 #[.slice A n c, .int .i64 next] w (RetBoolBelow w (apartB next xs)) := by
  have HI := Lib.hid h
  have HF := Lib.hid hf
  have hmm := @run_makeMap Try.prog
  clear h hf
  obtain ⟨w1, hrun1, hv1, hg1⟩ := (VMap.made w).update (t := 65) Try.underlying65 (by simp [maxLen]) (k := 0) (by decide) (.bool true)
  have HV1 := Lib.hid hv1
  have HG1 := Lib.hid hg1
  clear hv1 hg1
  go_enter Try.func42, Try.ntmps42
  go_wp2
  have hg1 := HG1.out
  have hv1 := HV1.out
  clear HG1 HV1 hrun1 hmm
  have hb1 : Below w.heap.size w w1 := ((Below.refl _ _).alloc (Nat.le_refl _) _).grown hg1 (by simp) (by simp)
  have hv1' := hv1.ext (g := seenF []) (fun k => by unfold upd seenF; simp)
  clear hv1 hg1
  go_loopw [13] (fun i wr => ∃ (k : Nat) (seen : List Int), k ≤ n ∧ i = .int .i64 k ∧ VMap wr w.heap.size (k + 1) (seenF seen) ∧ apartB next xs = apartG next seen (xs.drop k) ∧ Below w.heap.size w wr) (fun i _ => n - (intOf i).toNat)
  case atStart => exact ⟨0, [], Nat.zero_le _, rfl, hv1', rfl, hb1⟩
  case round =>
    obtain ⟨k, seen, hk, rfl, hv, he, hb⟩ := hrel
    have HE := Lib.hid he
    have hl := HI.out.len
    clear he hv1' hb1
    by_cases hlt : k < n
    · obtain ⟨ad, rfl, hadS, hcell⟩ := HI.out.at_ hlt
      have hcell' := (hb.cell (p := ad.add k) (by rw [block_of_add]; exact hS _ hadS)).trans hcell
      have hd : xs.drop k = xs.getD k 0 :: xs.drop (k + 1) := by
        rw [List.drop_eq_getElem_cons (by omega), List.getD_eq_getElem?_getD, List.getElem?_eq_getElem (by omega)]; rfl
      have hfx := HF.out (xs.getD k 0) (by rw [List.getD_eq_getElem?_getD, List.getElem?_eq_getElem (by omega)]; simp)
      have HD := Lib.hid hd
      clear hcell hd hl
      generalize xs.getD k 0 = x at *
      have hbd : -9223372036854775808 ≤ x ∧ x ≤ 9223372036854775807 := by simpa [Lit.wf, IntKind.min, IntKind.max, IntKind.signed, IntKind.bits] using hfx
      clear hfx
      go_upto_region 5 with (fail)
      go_cut [8, 13] from 13 to 35 (fun t8 t13 wx => ∃ v : Int, t8 = .int .i64 v ∧ t13 = .int .i64 k ∧ (v = x.natAbs ∨ (v < 0 ∧ next ≤ x.natAbs)) ∧ v < 9223372036854775808 ∧ wr = wx)
      case first =>
        by_cases h0 : 0 ≤ x
        · go_wp2
          all_goals go_meet
          all_goals exact ⟨_, rfl, rfl, .inl (by omega), by omega, rfl⟩
        · by_cases h1 : x = -9223372036854775808
          · have HX : Hid (next ≤ (x.natAbs : Int)) := by show next ≤ (x.natAbs : Int); omega
            have hw : wrap64 (-x) = x := by subst h1; kernel_rfl
            clear h1
            go_wp2
            all_goals go_meet
            all_goals exact ⟨_, rfl, rfl, .inr ⟨by omega, HX.out⟩, by omega, rfl⟩
          · have h2 : -9223372036854775807 ≤ x := by omega
            clear h1
            go_wp2
            all_goals go_meet
            all_goals exact ⟨_, rfl, rfl, .inl (by omega), by omega, rfl⟩
      case rest =>
        obtain ⟨v, rfl, rfl, hvx, hvb, rfl⟩ := hcut
        by_cases hv0 : v < 0
        · have hfin : apartB next xs = false := by rw [HE.out, HD.out]; exact apartG_no (.inr (.inl (by omega)))
          have HFIN := Lib.hid hfin
          clear hfin hvx
          go_wp2
          go_ret
          exact ⟨by rw [HFIN.out]; rfl, hb⟩
        obtain rfl : v = x.natAbs := by omega
        by_cases hvn : next ≤ (x.natAbs : Int)
        · have hfin : apartB next xs = false := by rw [HE.out, HD.out]; exact apartG_no (.inr (.inl hvn))
          have HFIN := Lib.hid hfin
          clear hfin hvx hbd
          generalize (x.natAbs : Int) = v at *
          go_wp2
          go_ret
          exact ⟨by rw [HFIN.out]; rfl, hb⟩
        have hwf : (Lit.int .i64 (x.natAbs : Int)).wf = true := by simp [Lit.wf, IntKind.min, IntKind.max, IntKind.signed, IntKind.bits]; omega
        have hlk := hv.lookup (t := 65) Try.underlying65 (bool_zero _) hwf
        by_cases hin : (x.natAbs : Int) = 0 ∨ (x.natAbs : Int) ∈ seen
        · have hfin : apartB next xs = false := by rw [HE.out, HD.out]; exact apartG_no (by rcases hin with h | h; exact .inl h; exact .inr (.inr h))
          rw [seenF_hit hin] at hlk
          have HFIN := Lib.hid hfin
          clear hfin hvx hbd hin hwf
          generalize (x.natAbs : Int) = v at *
          go_wp2
          go_ret
          exact ⟨by rw [HFIN.out]; rfl, hb⟩
        · rw [seenF_miss hin] at hlk
          obtain ⟨w2, hup, hv2, hg2⟩ := hv.update (t := 65) Try.underlying65 (by simp only [maxLen]; omega) hwf (.bool true)
          have he2 : apartB next xs = apartG next ((x.natAbs : Int) :: seen) (xs.drop (k + 1)) := by
            rw [HE.out, HD.out]; exact apartG_yes (fun h => hin (.inl h)) (by omega) (fun h => hin (.inr h))
          have HE2 := Lib.hid he2
          have HV2 := Lib.hid (hv2.ext (seenF_cons seen _))
          have HB2 := Lib.hid (hb.grown hg2 hb.size (by simp))
          clear he2 hv2 hg2 hvx hbd hin hwf hv HE HD
          generalize (x.natAbs : Int) = v at *
          go_wp2
          go_roundw
          case rel => exact ⟨k + 1, v :: seen, by omega, by go_num, HV2.out, HE2.out, HB2.out⟩
          case measure => simp [intOf]; omega
    · have hkn : k = n := by omega
      have hfin : apartB next xs = true := by rw [HE.out, List.drop_of_length_le (by omega)]; rfl
      have HFIN := Lib.hid hfin
      clear hfin hl hkn
      go_wp2
      go_ret
      exact ⟨by rw [HFIN.out]; rfl, hb⟩
end Go.Proofs.Ytanbkdfffojpnaa
