/-
  count.right: are the arguments right?
-/
import Derived.Test.YtanbkdfffojpnaaMaps
import Derived.Test.YtanbkdfffojpnaaBase
import Derived.Test.YtanbkdfffojpnaaHolds
import Derived.Test.YtanbkdfffojpnaaSpec16
import Derived.Deep.DeepMust
import Derived.Deep.CutRange
import Derived.Deep.DeepCutAuto
namespace Go.Proofs.Ytanbkdfffojpnaa
open Go.RowKit

/-- What the map of the variables that were met holds. -/
def thereF (seen : List Int) : Int → Option Value := fun v => if v ∈ seen then some (.bool true) else none
theorem thereF_cons (seen : List Int) (v k : Int) : upd (thereF seen) v (.bool true) k = thereF (v :: seen) k := by
  unfold upd thereF
  by_cases h1 : k = v
  · rw [if_pos h1, if_pos (by simp [h1])]
  · rw [if_neg h1]
    congr 1
    simp [h1]
theorem thereF_hit {seen : List Int} {v : Int} (h : v ∈ seen) : (thereF seen v).getD (.bool false) = .bool true := by rw [thereF, if_pos h]; rfl
theorem thereF_miss {seen : List Int} {v : Int} (h : ¬ v ∈ seen) : (thereF seen v).getD (.bool false) = .bool false := by rw [thereF, if_neg h]; rfl
def apE (b : Bool) : Int := if b = true then 0 else 140

set_option maxHeartbeats 1000000 in
theorem right_loop (w : World) (S : Nat → Prop) (n c : Nat) (A : Option Addr) (xs : List Int) (next : Int) (h : Ints w S A n c xs) (hS : ∀ k, S k → k < w.heap.size) (hf : Fits xs) (hn1 : 1 ≤ next) (hn2 : next ≤ 65537) (hn : n ≤ 4096) :
    Calls Try.prog 27 #[.slice A n c, .int .i64 next] w (RetIntBelow w (apE (apartB next xs))) := by
  have HI := Lib.hid h
  have HF := Lib.hid hf
  have hmm := @run_makeMap Try.prog
  clear h hf
  have e1 : decide (next < 1) = false := by simp; omega
  have e2 : decide ((65537 : Int) < next) = false := by simp; omega
  have e3 : decide ((4096 : Int) < (n : Int)) = false := by simp; omega
  have hv1 := VMap.made w
  have hb1 : Below w.heap.size w (w.alloc (.map #[] 0)) := (Below.refl _ _).alloc (Nat.le_refl _) _
  have HV1 := Lib.hid hv1
  have HB1 := Lib.hid hb1
  clear hv1 hb1
  go_enter Try.func27, Try.ntmps27
  go_wp2
  have hv1' := HV1.out.ext (g := thereF []) (fun k => by unfold thereF; simp)
  have hb1 := HB1.out
  clear HV1 HB1 hmm e1 e2 e3
  go_loopw [23] (fun i wr => ∃ (k : Nat) (seen : List Int), k ≤ n ∧ i = .int .i64 k ∧ VMap wr w.heap.size k (thereF seen) ∧ apartB next xs = apartG next seen (xs.drop k) ∧ Below w.heap.size w wr) (fun i _ => n - (intOf i).toNat)
  case atStart => exact ⟨0, [], Nat.zero_le _, rfl, hv1', rfl, hb1⟩
  case round =>
    obtain ⟨k, seen, hk, rfl, hv, he, hb⟩ := hrel
    have HE := Lib.hid he
    have hl := HI.out.len
    clear he hv1' hb1
    by_cases hlt : k < n
    · obtain ⟨ad, rfl, hadS, hcell⟩ := HI.out.at_ hlt
      have hcell' := (hb.cell (p := ad.add k) (by rw [block_of_add]; exact hS _ hadS)).trans hcell
      have hd : xs.drop k = xs.getD k 0 :: xs.drop (k + 1) := by
        rw [List.drop_eq_getElem_cons (by omega), List.getD_eq_getElem?_getD, List.getElem?_eq_getElem (by omega)]; rfl
      have hfx := HF.out (xs.getD k 0) (by rw [List.getD_eq_getElem?_getD, List.getElem?_eq_getElem (by omega)]; simp)
      have HD := Lib.hid hd
      clear hcell hd hl
      generalize xs.getD k 0 = x at *
      have hbd : -9223372036854775808 ≤ x ∧ x ≤ 9223372036854775807 := by simpa [Lit.wf, IntKind.min, IntKind.max, IntKind.signed, IntKind.bits] using hfx
      clear hfx
      go_upto_region 7 with (fail)
      go_cut [8, 23] from 23 to 45 (fun t8 t13 wx => ∃ v : Int, t8 = .int .i64 v ∧ t13 = .int .i64 k ∧ (v = x.natAbs ∨ (v < 0 ∧ next ≤ x.natAbs)) ∧ v < 9223372036854775808 ∧ wr = wx)
      case first =>
        by_cases h0 : 0 ≤ x
        · go_wp2
          all_goals go_meet
          all_goals exact ⟨_, rfl, rfl, .inl (by omega), by omega, rfl⟩
        · by_cases h1 : x = -9223372036854775808
          · have HX : Hid (next ≤ (x.natAbs : Int)) := by show next ≤ (x.natAbs : Int); omega
            have hw : wrap64 (-x) = x := by subst h1; kernel_rfl
            clear h1
            go_wp2
            all_goals go_meet
            all_goals exact ⟨_, rfl, rfl, .inr ⟨by omega, HX.out⟩, by omega, rfl⟩
          · have h2 : -9223372036854775807 ≤ x := by omega
            clear h1
            go_wp2
            all_goals go_meet
            all_goals exact ⟨_, rfl, rfl, .inl (by omega), by omega, rfl⟩
      case rest =>
        obtain ⟨v, rfl, rfl, hvx, hvb, rfl⟩ := hcut
        by_cases hv0 : v ≤ 0
        · have hfin : apartB next xs = false := by rw [HE.out, HD.out]; exact apartG_no (by rcases hvx with h | ⟨_, h⟩; exact .inl (by omega); exact .inr (.inl h))
          have HFIN := Lib.hid hfin
          clear hfin hvx
          go_wp2
          go_ret
          exact ⟨by rw [HFIN.out]; rfl, hb⟩
        obtain rfl : v = x.natAbs := by omega
        by_cases hvn : next ≤ (x.natAbs : Int)
        · have hfin : apartB next xs = false := by rw [HE.out, HD.out]; exact apartG_no (.inr (.inl hvn))
          have HFIN := Lib.hid hfin
          clear hfin hvx hbd
          generalize (x.natAbs : Int) = v at *
          go_wp2
          go_ret
          exact ⟨by rw [HFIN.out]; rfl, hb⟩
        have hwf : (Lit.int .i64 (x.natAbs : Int)).wf = true := by simp [Lit.wf, IntKind.min, IntKind.max, IntKind.signed, IntKind.bits]; omega
        have hlk := hv.lookup (t := 65) Try.underlying65 (bool_zero _) hwf
        by_cases hin : (x.natAbs : Int) ∈ seen
        · have hfin : apartB next xs = false := by rw [HE.out, HD.out]; exact apartG_no (.inr (.inr hin))
          rw [thereF_hit hin] at hlk
          have HFIN := Lib.hid hfin
          clear hfin hvx hbd hin hwf
          generalize (x.natAbs : Int) = v at *
          go_wp2
          go_ret
          exact ⟨by rw [HFIN.out]; rfl, hb⟩
        · rw [thereF_miss hin] at hlk
          obtain ⟨w2, hup, hv2, hg2⟩ := hv.update (t := 65) Try.underlying65 (by simp only [maxLen]; omega) hwf (.bool true)
          have he2 : apartB next xs = apartG next ((x.natAbs : Int) :: seen) (xs.drop (k + 1)) := by
            rw [HE.out, HD.out]; exact apartG_yes (by omega) (by omega) hin
          have HE2 := Lib.hid he2
          have HV2 := Lib.hid (hv2.ext (thereF_cons seen _))
          have HB2 := Lib.hid (hb.grown hg2 hb.size (by simp))
          clear he2 hv2 hg2 hvx hbd hin hwf hv HE HD
          generalize (x.natAbs : Int) = v at *
          go_wp2
          go_roundw
          case rel => exact ⟨k + 1, v :: seen, by omega, by go_num, HV2.out, HE2.out, HB2.out⟩
          case measure => simp [intOf]; omega
    · have hkn : k = n := by omega
      have hfin : apartB next xs = true := by rw [HE.out, List.drop_of_length_le (by omega)]; rfl
      have HFIN := Lib.hid hfin
      clear hfin hl hkn
      go_wp2
      go_ret
      exact ⟨by rw [HFIN.out]; rfl, hb⟩

set_option maxHeartbeats 1000000 in
theorem right_any (w : World) (n c : Nat) (A : Option Addr) (xs : List Int) (next : Int) (h : Ints w (Lt w) A n c xs) (hf : Fits xs) :
    Calls Try.prog 27 #[.slice A n c, .int .i64 next] w (RetIntBelow w (rightR xs next)) := by
  have hlen := h.len
  have hcap := h.cap
  have hmax := h.max
  unfold maxLen at hmax
  by_cases hbad : next < 1 ∨ 65537 < next ∨ 4096 < xs.length
  · have e : rightR xs next = 1 := by unfold rightR; rw [if_pos hbad]
    rw [e]
    clear e h hf
    rw [← hlen] at hbad
    clear hlen
    by_cases h1 : next < 1
    · clear hbad
      go_enter Try.func27, Try.ntmps27
      go_wp2
      go_ret
      exact ⟨rfl, Below.refl _ _⟩
    by_cases h2 : 65537 < next
    · clear hbad
      go_enter Try.func27, Try.ntmps27
      go_wp2
      go_ret
      exact ⟨rfl, Below.refl _ _⟩
    have h3 : 4096 < n := by omega
    have e1 : decide (next < 1) = false := by simp; omega
    have e2 : decide ((65537 : Int) < next) = false := by simp; omega
    clear hbad
    go_enter Try.func27, Try.ntmps27
    go_wp2
    go_ret
    exact ⟨rfl, Below.refl _ _⟩
  · have e : rightR xs next = apE (apartB next xs) := by unfold rightR apE; rw [if_neg hbad]
    rw [e]
    exact right_loop w (Lt w) n c A xs next h (fun _ h => h) hf (by omega) (by omega) (by omega)
end Go.Proofs.Ytanbkdfffojpnaa
