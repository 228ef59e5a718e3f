/-
  chalklinelaw16.CountRuns: the walk.
-/
import Derived.Test.YtanbkdfffojpnaaRan
namespace Go.Proofs.Ytanbkdfffojpnaa
open Go.RowKit

/-- THE LAW: under the counts all clauses but the last hold, and the last says whether k literals are true. -/
theorem runs_law {l : List Int} {k : Nat} {a : List Bool} (hk1 : 1 ≤ k) (hk2 : k ≤ l.length) (h0 : (leastR l k a.length).err = 0) :
    (leastR l k a.length).cs = leastC l a.length k ∧ (leastR l k a.length).after = ((a ++ ranW a l k l.length).length : Int) ∧
    (∀ cl ∈ allL l a.length k l.length, holdsT cl (a ++ ranW a l k l.length) = true) ∧ holdsT (lastC a.length k l.length) (a ++ ranW a l k l.length) = decide ((k : Int) ≤ (manyT l a : Int)) ∧ (lastC a.length k l.length).length = 1 := by
  obtain ⟨hr, hge, hle, hcs⟩ := leastR_after h0
  obtain ⟨h1, h2, h3, hA⟩ := right_among hr
  by_cases hb : 65536 < (a.length : Int) + regs l.length k - 1 ∨ 65536 < 2 * (regs l.length k : Int) - l.length + 1
  · rw [leastR_bound hr (by omega) hk2 hb] at h0; cases h0
  rw [leastR_ok hr (by omega) hk2 hb] at hcs hle ⊢
  rw [ranW_eq hA]
  have hok := ran_ok (mid := []) (post := []) (k := k) hA (show (a.length : Int) = ((a ++ []).length : Nat) by simp)
  simp only [List.nil_append, List.append_nil] at hok
  obtain ⟨q1, q2⟩ := least_complete h1 (fun x hx => (hA x hx).1) hk1 hk2 hok
  have hcs' : ∀ cl ∈ leastC l a.length k, Among (LitBelow (beginAt a.length k l.length)) cl := hcs
  have hle' : beginAt (a.length : Int) k l.length ≤ 65537 := hle
  refine ⟨rfl, ?_, fun cl hcl => ?_, ?_, ?_⟩
  · show beginAt (a.length : Int) k l.length = _
    rw [beginAt_sum, List.length_append, ranL_len]; omega
  · rw [holdsT_cval _ (hcs' cl (by unfold leastC; exact List.mem_append_left _ hcl)) hle']
    exact q1 cl hcl
  · rw [holdsT_cval _ (hcs' _ (by unfold leastC; exact List.mem_append_right _ (by simp))) hle', q2, count_prefix hA, manyT_count hA (Int.le_refl _)]
    rw [Bool.eq_iff_iff]; simp
  · unfold lastC
    have hp : 1 ≤ prevB (a.length : Int) k l.length ∧ prevM k l.length = k := by
      obtain ⟨m, hm⟩ : ∃ m, l.length = m + 1 := ⟨l.length - 1, by omega⟩
      rw [hm]
      refine ⟨begin_pos h1 k m, ?_⟩
      show manyAt k m = k
      unfold manyAt; omega
    have : regR (prevB (a.length : Int) k l.length) (prevM k l.length) k ≠ 0 := by
      unfold regR
      rw [if_neg (by omega)]; omega
    unfold nz
    simp [this]
theorem allL_get {l : List Int} {next : Int} {k j : Nat} (h : j < (allL l next k l.length).length) : (leastC l next k).getD j [] ∈ allL l next k l.length := by
  unfold leastC
  rw [List.getD_eq_getElem?_getD, List.getElem?_append_left h, List.getElem?_eq_getElem h]
  exact List.getElem_mem h
theorem lastC_get (l : List Int) (next : Int) (k : Nat) : (leastC l next k).getD (allL l next k l.length).length [] = lastC next k l.length := by
  unfold leastC
  rw [List.getD_eq_getElem?_getD, List.getElem?_append_right (Nat.le_refl _)]
  simp

set_option maxHeartbeats 4000000 in
set_option maxRecDepth 100000 in
theorem runs_walk (w : World) (n c : Nat) (A : Option Addr) (xs : List Int) (k : Int) (n' c' : Nat) (A' : Option Addr) (bs : List Bool) (hI : Ints w (Lt w) A n c xs) (hf : Fits xs) (hk : (Lit.int .i64 k).wf = true) (hB : Bools w A' n' c' bs) :
    Calls Try.prog 7 #[.slice A n c, .int .i64 k, .slice A' n' c'] w (RetBoolBelow w true) := by
  have hlen := hI.len
  have hIc := hI.cap
  have hIm := hI.max
  have hlb := hB.len
  have hBc := hB.cap
  have hBm := hB.max
  unfold maxLen at hIm hBm
  have HI := Lib.hid hI
  have HF := Lib.hid hf
  have HK := Lib.hid hk
  have HB := Lib.hid hB
  have HL := Lib.hid hlen
  have HLB := Lib.hid hlb
  have LIVE := Lib.hid (live_any w)
  obtain ⟨i0, hi0, hz0, hz1, hz2⟩ := info_parts bool_info
  clear hI hf hk hB hlen hlb
  by_cases g1 : 60 < n'
  case pos =>
    go_enter Try.func7, Try.ntmps7
    go_wp2_with (fail)
    (with_reducible refine LIVE.out.mono ?_)
    rintro e w1 ⟨rfl, hb1⟩
    go_wp2
    go_ret
    exact ⟨rfl, hb1⟩
  have d1 : decide ((60 : Int) < (n' : Int)) = false := by simp; omega
  by_cases g2 : 60 < n
  case pos =>
    go_enter Try.func7, Try.ntmps7
    go_wp2_with (fail)
    (with_reducible refine LIVE.out.mono ?_)
    rintro e w1 ⟨rfl, hb1⟩
    go_wp2
    go_ret
    exact ⟨rfl, hb1⟩
  have d2 : decide ((60 : Int) < (n : Int)) = false := by simp; omega
  go_enter Try.func7, Try.ntmps7
  go_wp2_with (fail)
  (with_reducible refine LIVE.out.mono ?_)
  rintro e w1 ⟨rfl, hb1⟩
  have hal := alloc_lt (w := w1) (.cells #[.bool false] 4)
  have hrd := ((HB.out.belowLt hb1).belowLt hal).reads
  have HB1 := Lib.hid (below_then hb1 hal)
  have HBW1 := Lib.hid hb1.size
  clear hb1 hal LIVE
  go_wp2_with (first
    | (at_builtin
       refine wpList_append_any _ rfl (.tmp 24) (.tmp 25) _ rfl w1.heap.size 4 i0 _ 1 1 Try.underlying30 hi0 hz0 hz1 hz2 rfl (by omega) (.slice (some ⟨w1.heap.size, 0, none⟩) 1 1) 1 [.bool false] (by rfl) (one_false w1) _ A' n' c' _ (by rfl) hrd (bools_oneCell _) (by simp only [maxLen]; omega) (by omega) (by simp) ?_
       intro v2 w2 hown2 hg2 hat2
       obtain ⟨A2, c2, rfl⟩ := own_form hown2))
  have hB2 : Below w.heap.size w w2 := HB1.out.grown hg2 (by have := HB1.out.size; simpa using this) (fun g hg => by
    have e : g = w1.heap.size := by simpa [Value.ownBlock] using hg.symm
    have := HB1.out.size
    simp at this
    have := HBW1.out
    omega)
  have hBa : Bools w2 A2 (1 + n') c2 (false :: bs) := Bools.of_own (e := 4) (base := w1.heap.size) hown2
  have hal : ((false :: bs).length : Int) = 1 + (n' : Int) := by rw [List.length_cons, ← HLB.out]; omega
  have HAL := Lib.hid hal
  have HBA := Lib.hid hBa
  have HB2 := Lib.hid hB2
  have call1 := least_t w2 n c A xs k (1 + (n' : Int)) (HI.out.belowLt hB2) HF.out HK.out
  have CALL1 := Lib.hid call1
  clear hown2 hg2 hat2 hB2 hBa hal call1 HB HB1 hrd
  (with_reducible refine CALL1.out.mono ?_)
  rintro e w3 ⟨A3, n3, c3, rfl, hr3, hb3⟩
  have HR3 := Lib.hid hr3
  have HBA3 := Lib.hid (HBA.out.belowLt hb3)
  have HB3 := Lib.hid (below_then HB2.out hb3)
  have hx60 : xs.length ≤ 60 := by have := HL.out; omega
  have e1 := leastR_room (k := k) hx60 (show 1 + (n' : Int) ≤ 30000 by omega)
  by_cases hr : rightR xs (1 + (n' : Int)) = 0
  case neg =>
    have q1 := leastR_bad0 (show (leastR xs k (1 + (n' : Int))).err ≠ 0 by rw [e1]; exact hr)
    have l3 := HR3.out.len
    rw [q1.1] at l3
    obtain rfl : n3 = 0 := l3
    rw [e1]
    have hne : (rightR xs (1 + (n' : Int)) != 0) = true := by simpa using hr
    have hne2 : (rightR xs (1 + (n' : Int)) == 0) = false := by simpa using hr
    clear q1 e1 HR3 hr
    generalize rightR xs (1 + (n' : Int)) = er at *
    generalize (leastR xs k (1 + (n' : Int))).after = af1 at *
    go_wp2_with (fail)
    go_ret
    exact ⟨by simp, HB3.out⟩
  rw [hr] at e1
  rw [e1]
  by_cases hk1 : k < 1
  case pos =>
    clear e1 hr
    generalize (leastR xs k (1 + (n' : Int))).after = af1 at *
    go_wp2
    go_ret
    exact ⟨by simp, HB3.out⟩
  by_cases hk2 : (n : Int) < k
  case pos =>
    clear e1 hr
    have dk : decide (k < 1) = false := by simpa using hk1
    generalize (leastR xs k (1 + (n' : Int))).after = af1 at *
    go_wp2
    go_ret
    exact ⟨by simp, HB3.out⟩
  obtain ⟨m, rfl⟩ := Int.eq_ofNat_of_zero_le (show 0 ≤ k by omega)
  have hm1 : 1 ≤ m := by omega
  have hm2 : m ≤ n := by omega
  have k1 : (leastR xs (m : Int) ((false :: bs).length : Int)).err = 0 := by rw [HAL.out]; exact e1
  obtain ⟨p1, p2, p3, p4, p5⟩ := runs_law hm1 (by have := HL.out; omega) k1
  rw [← HL.out] at p2 p3 p4 p5
  have HP1 : Hid ((leastR xs (m : Int) (1 + (n' : Int))).cs = leastC xs ((false :: bs).length : Int) m) := by show (leastR xs (m : Int) (1 + (n' : Int))).cs = _; rw [← HAL.out]; exact p1
  have hp2 : (leastR xs (m : Int) (1 + (n' : Int))).after = ((((false :: bs) ++ ranW (false :: bs) xs m n).length : Nat) : Int) := by rw [← HAL.out]; exact p2
  have hR3 := HR3.out
  rw [HP1.out] at hR3
  have hs := small_of_right hr
  have HS := Lib.hid hs
  have d3 : decide (m < 1) = false := by simp; omega
  have d3' : decide ((m : Int) < 1) = false := by simp; omega
  have d3'' : decide (m = 0) = false := by simp; omega
  have d4 : decide (n < m) = false := by simp; omega
  have HG := Lib.hid (fun j (h : j < (allL xs ((false :: bs).length : Int) m xs.length).length) => allL_get (l := xs) (next := ((false :: bs).length : Int)) (k := m) (j := j) h)
  have HLG := Lib.hid (lastC_get xs ((false :: bs).length : Int) m)
  have hlc : (leastC xs ((false :: bs).length : Int) m).length = (allL xs ((false :: bs).length : Int) m n).length + 1 := by unfold leastC; rw [List.length_append, ← HL.out]; simp
  have hl3 := hR3.len
  have hlb : (leastC xs ((false :: bs).length : Int) m).length ≤ 20000 := by
    have := leastR_small (k := (m : Int)) hx60 hr
    rwa [HP1.out] at this
  have HR3' := Lib.hid hR3
  have P3 := Lib.hid p3
  have P4 := Lib.hid p4
  have P5 := Lib.hid p5
  rw [hp2]
  rw [← HL.out] at HG HLG
  clear hp2 p1 p2 p3 p4 p5 k1 e1 hr hs hR3 HR3
  generalize hAL : ((false :: bs).length : Int) = nx at *
  clear hAL
  obtain ⟨M, hM⟩ : ∃ M, M = (allL xs nx m n).length := ⟨_, rfl⟩
  have hn3 : n3 = M + 1 := by omega
  subst hn3
  have HMM := Lib.hid hM
  have hM2 : M ≤ 20000 := by omega
  have e5 : ((M : Int) + 1 == 0) = false := by simp; omega
  clear hM hl3 hlc hlb hk1 hk2
  have CR := Lib.hid (ran_any w3 A n c xs m A2 (1 + n') c2 (false :: bs) (HI.out.belowLt HB3.out) HBA3.out HS.out (by omega) (by omega) (by omega) hm1)
  generalize (false :: bs) ++ ranW (false :: bs) xs m n = LA at *
  go_wp2_with (fail)
  (with_reducible refine CR.out.mono ?_)
  rintro e w4 ⟨A4, n4, c4, rfl, hba4, hb4⟩
  have hl4 := hba4.len
  rw [← hl4]
  have hcp := HR3'.out.cap
  have hcm := HR3'.out.max
  unfold maxLen at hcm
  have HBA4 := Lib.hid hba4
  have HR4 := Lib.hid (HR3'.out.belowLt hb4)
  have HBA34 := Lib.hid (HBA3.out.belowLt hb4)
  have HB4 := Lib.hid (below_then HB3.out hb4)
  obtain ⟨ad3, B0, m0, k0, rfl, _⟩ := HR3'.out.at_ (k := 0) (by omega)
  clear hba4 hb4 hl4 CR HR3' HB3 HBA3
  have e7 : ((n4 : Int) != (n4 : Int)) = false := by simp
  go_wp2_with (fail)
  clear e7 e5 d1 d2 d3 d3' d3'' d4 hi0 hz0 hz1 hz2
  go_loopw [74] (fun v wy => ∃ j : Nat, j ≤ M ∧ v = .int .i64 j ∧ Below w4.heap.size w4 wy) (fun v _ => M - (intOf v).toNat)
  case atStart => exact ⟨0, Nat.zero_le _, rfl, Below.refl _ _⟩
  case round =>
    obtain ⟨j, hj, rfl, hb5⟩ := hrel
    have HB5 := Lib.hid hb5
    clear hb5
    by_cases hjl : j < M
    case pos =>
      obtain ⟨ad, B1, m1, k1, e3, hadS, hcell, hr1⟩ := (HR4.out.belowLt HB5.out).at_ (show j < M + 1 by omega)
      obtain rfl : ad3 = ad := by injection e3
      have hh := P3.out _ (HG.out j (by rw [← HMM.out]; exact hjl))
      have call := holds_any wr B1 m1 k1 _ A4 n4 c4 LA hr1 (HBA4.out.belowLt HB5.out)
      rw [hh] at call
      have CALL := Lib.hid call
      clear hh call hr1 hadS e3
      go_wp2_with (fail)
      (with_reducible refine CALL.out.mono ?_)
      rintro e w6 ⟨rfl, hb6⟩
      have HB6 := Lib.hid (below_then HB5.out hb6)
      clear hb6
      go_wp2_with (fail)
      go_roundw
      case rel =>
        exact ⟨j + 1, by omega, by go_num, HB6.out⟩
      case measure => simp [intOf]; omega
    obtain rfl : M = j := by omega
    obtain ⟨ad, B1, m1, k1, e3, hadS, hcell, hr1⟩ := (HR4.out.belowLt HB5.out).at_ (show M < M + 1 by omega)
    obtain rfl : ad3 = ad := by injection e3
    have hlast := HLG.out
    rw [← HMM.out] at hlast
    rw [hlast] at hr1
    have hm1' : m1 = 1 := hr1.len.trans P5.out
    subst hm1'
    have call := holds_any wr B1 1 k1 _ A4 n4 c4 LA hr1 (HBA4.out.belowLt HB5.out)
    rw [P4.out] at call
    have hcell0 : wr.cell? (ad3.add M) = some (.slice B1 1 k1) := hcell
    have CALL := Lib.hid call
    have callm := fun w6 (hb6 : Below wr.heap.size wr w6) => many_any w6 A n c xs A2 (1 + n') c2 (false :: bs) (HI.out.belowLt (below_then (below_then HB4.out HB5.out) hb6)) ((HBA34.out.belowLt HB5.out).belowLt hb6) HS.out (by omega)
    have hblk : (ad3.add M).block < wr.heap.size := by rw [block_of_add]; exact hadS
    generalize manyT xs (false :: bs) = q at *
    have CALLM := Lib.hid callm
    clear callm call hr1 hadS e3 hlast hcell
    go_wp2_with (fail)
    (with_reducible refine CALL.out.mono ?_)
    rintro e w6 ⟨rfl, hb6⟩
    have hcell6 := (hb6.cell hblk).trans hcell0
    have CM := Lib.hid (CALLM.out w6 hb6)
    have HB6 := Lib.hid (below_then (below_then HB4.out HB5.out) hb6)
    clear hb6 CALLM
    go_wp2_with (fail)
    (with_reducible refine CM.out.mono ?_)
    rintro e w7 ⟨rfl, rfl⟩
    go_wp2_with (fail)
    go_ret
    exact ⟨by simp, HB6.out⟩
end Go.Proofs.Ytanbkdfffojpnaa
