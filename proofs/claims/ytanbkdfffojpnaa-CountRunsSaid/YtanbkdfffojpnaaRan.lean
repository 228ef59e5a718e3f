/-
  chalklinelaw16.ran: the registers as the counts have them.
-/
import Derived.Test.YtanbkdfffojpnaaMeans
namespace Go.Proofs.Ytanbkdfffojpnaa
open Go.RowKit

def ranW (a : List Bool) (l : List Int) (k : Nat) : Nat → List Bool
  | 0 => []
  | i + 1 => ranW a l k i ++ (List.range (manyAt k i)).map fun j => decide (j + 1 ≤ manyT (l.take (i + 1)) a)
theorem ranW_len (a : List Bool) (l : List Int) (k : Nat) : ∀ i, (ranW a l k i).length = sumM k i
  | 0 => rfl
  | i + 1 => by simp [ranW, sumM, ranW_len a l k i]
theorem ranW_eq {a : List Bool} {l : List Int} (h : Among (LitBelow a.length) l) (k : Nat) : ∀ i, ranW a l k i = ranL (varT a) l k i
  | 0 => rfl
  | i + 1 => by
    rw [ranW, ranL, ranW_eq h k i]
    have e : manyT (l.take (i + 1)) a = cntS (varT a) l (i + 1) := manyT_count (m := a.length) (fun x hx => h x (List.mem_of_mem_take hx)) (Int.le_refl _)
    rw [e]
def rowW (q m : Nat) : List Bool := (List.range m).map fun j => decide (j + 1 ≤ q)
theorem rowW_succ (q m : Nat) : rowW q (m + 1) = rowW q m ++ [decide (m + 1 ≤ q)] := by simp [rowW, List.range_succ]
theorem rowW_len (q m : Nat) : (rowW q m).length = m := by simp [rowW]
theorem sumM_le2 (k : Nat) : ∀ i, sumM k i ≤ i * k
  | 0 => by simp [sumM]
  | i + 1 => by
    have := sumM_le2 k i
    have h2 : manyAt k i ≤ k := by unfold manyAt; omega
    rw [sumM, Nat.succ_mul]; omega

set_option maxHeartbeats 4000000 in
set_option maxRecDepth 100000 in
theorem ran_any (w : World) (A : Option Addr) (n c : Nat) (l : List Int) (k : Nat) (A' : Option Addr) (n' c' : Nat) (a : List Bool) (hI : Ints w (Lt w) A n c l) (hB : Bools w A' n' c' a) (hs : Small l) (hn : n ≤ 60) (hn' : n' ≤ 100) (hk : k ≤ 60) (hk1 : 1 ≤ k) :
    Calls Try.prog 21 #[.slice A n c, .int .i64 k, .slice A' n' c'] w (fun e w' => ∃ A2 n2 c2, e = .returned (.slice A2 n2 c2) ∧ Bools w' A2 n2 c2 (a ++ ranW a l k n) ∧ Below w.heap.size w w') := by
  have hc := hI.cap
  have hm := hI.max
  unfold maxLen at hm
  have HI := Lib.hid hI
  have HB := Lib.hid hB
  have HS := Lib.hid hs
  have HL := Lib.hid hI.len
  have HLB := Lib.hid hB.len
  have hrd := hB.reads
  obtain ⟨i0, hi0, hz0, hz1, hz2⟩ := info_parts bool_info
  clear hI hB hs
  go_enter Try.func21, Try.ntmps21
  go_wp2_with (first
    | (at_builtin
       go_must (refine wpList_append_any _ rfl (.const (.slice none 0 0)) (.tmp 12) _ rfl w.heap.size 4 i0 _ 1 1 Try.underlying30 hi0 hz0 hz1 hz2 rfl (by omega) (.slice none 0 0) 0 [] (by rfl) (World.ownsRow_nil _ _ _ _) _ A' n' c' _ (by rfl) hrd (bools_oneCell _) (by simp only [maxLen]; omega) (by omega) (Nat.le_refl _) ?_)
       intro v1 w1 hown1 hg1 hat1
       rw [Nat.zero_add, List.nil_append] at hown1
       obtain ⟨A1, c1, rfl⟩ := own_form hown1))
  have hb1 : Below w.heap.size w w1 := (Below.refl _ _).grown hg1 (Nat.le_refl _) (by simp [Value.ownBlock])
  have HOWN1 := Lib.hid hown1
  have HB1 := Lib.hid hb1
  clear hown1 hg1 hat1 hb1 hrd
  go_loopw [7, 8, 16] (fun v7 v8 v16 wy => ∃ (i N : Nat) (A2 : Option Addr) (c2 : Nat), i ≤ n ∧ v16 = .int .i64 i ∧ v8 = .int .i64 (manyT (l.take i) a) ∧ N = n' + sumM k i ∧ v7 = .slice A2 N c2 ∧ wy.ownsRow w.heap.size 4 1 (.slice A2 N c2) N ((a ++ ranW a l k i).map Value.bool) ∧ Below w.heap.size w wy) (fun _ _ v16 _ => n - (intOf v16).toNat)
  case atStart => exact ⟨0, n', A1, c1, Nat.zero_le _, rfl, rfl, rfl, rfl, by simpa [ranW] using HOWN1.out, HB1.out⟩
  case round =>
    clear HOWN1 HB1
    obtain ⟨i, N, A2, c2, hi, rfl, rfl, hN, rfl, hown, hb⟩ := hrel
    have hmle := manyT_le (l.take i) a
    rw [List.length_take] at hmle
    have hsm : sumM k i ≤ 3600 := Nat.le_trans (sumM_le2 k i) (Nat.mul_le_mul (show i ≤ 60 by omega) hk)
    by_cases hlt : i < n
    case neg =>
      obtain rfl : n = i := by omega
      have hq : manyT (l.take n) a ≤ 60 := by omega
      generalize manyT (l.take n) a = q at *
      have HBO := Lib.hid (Bools.of_own hown)
      have HBB := Lib.hid hb
      clear hown hb hmle
      go_wp2
      go_ret
      exact ⟨A2, N, c2, rfl, HBO.out, HBB.out⟩
    obtain ⟨ad, rfl, hadS, hcell⟩ := HI.out.at_ hlt
    have hcell' := (hb.cell (p := ad.add i) (by rw [block_of_add]; exact hadS)).trans hcell
    have hl := HL.out
    have hsn := manyT_snoc (a := a) (show i < l.length by omega)
    have hsx := HS.out (l.getD i 0) (by rw [List.getD_eq_getElem?_getD, List.getElem?_eq_getElem (by omega)]; simp)
    have CALL := Lib.hid (truth_any wr (l.getD i 0) A' n' c' a (HB.out.belowLt hb) hsx.1 hsx.2)
    obtain ⟨q', hq'⟩ : ∃ q', q' = manyT (l.take (i + 1)) a := ⟨_, rfl⟩
    rw [← hq'] at hsn
    have HRW : Hid (ranW a l k (i + 1) = ranW a l k i ++ rowW q' (manyAt k i)) := by show ranW a l k (i + 1) = ranW a l k i ++ rowW q' (manyAt k i); rw [hq']; rfl
    have HSUM : Hid (sumM k (i + 1) = sumM k i + manyAt k i) := rfl
    have HQ' := Lib.hid hq'
    have HN := Lib.hid hN
    have HOWN := Lib.hid hown
    have HBB := Lib.hid hb
    have hmk : manyAt k i = i + 1 ∧ i + 1 ≤ k ∨ manyAt k i = k ∧ k ≤ i + 1 := by unfold manyAt; omega
    have hqb : q' ≤ 61 := by rw [hsn]; split <;> omega
    obtain ⟨wo, rfl⟩ : ∃ wo : World, wo = wr := ⟨_, rfl⟩
    have HSN := Lib.hid hsn
    have di : decide (i < n) = true := by simpa using hlt
    clear hadS hcell hl hsx hown hb hq' hN hsn
    generalize hP : manyT (l.take i) a = P at *
    have hP6 : P ≤ 60 := by omega
    clear hP hmle
    generalize l.getD i 0 = x at *
    go_wp2_with (fail)
    (with_reducible refine CALL.out.mono ?_)
    rintro e w2 ⟨rfl, rfl⟩
    go_upto_if 23 with (fail)
    go_cut [8] (fun v8 wx => v8 = .int .i64 q' ∧ wo = wx)
    case first =>
      have hsn := HSN.out
      cases hb : truthT x a
      · rw [hb] at hsn
        obtain rfl : q' = P := by simpa using hsn
        clear hsn
        go_wp2
        go_meet
        case rel => exact ⟨rfl, rfl⟩
      · rw [hb] at hsn
        obtain rfl : q' = P + 1 := by simpa using hsn
        clear hsn
        go_wp2
        go_meet
        case rel => exact ⟨by go_num, rfl⟩
    obtain ⟨rfl, rfl⟩ := hcut
    obtain ⟨M, hM⟩ : ∃ M, M = manyAt k i := ⟨_, rfl⟩
    rw [← hM] at hmk
    have HMM := Lib.hid hM
    have HMK := Lib.hid hmk
    have hM6 : M ≤ 60 := by omega
    clear hM hmk
    go_wp2
    go_loopw [7, 11] (fun v7 v11 wy => ∃ (j N2 : Nat) (A3 : Option Addr) (c3 : Nat), j ≤ M ∧ v11 = .int .i64 ((j : Int) + 1) ∧ N2 = N + j ∧ v7 = .slice A3 N2 c3 ∧ wy.ownsRow w.heap.size 4 1 (.slice A3 N2 c3) N2 ((a ++ ranW a l k i ++ rowW q' j).map Value.bool) ∧ Below w.heap.size w wy) (fun _ v11 _ => M + 1 - (intOf v11).toNat)
    case atStart => exact ⟨0, N, A2, c2, Nat.zero_le _, rfl, rfl, rfl, by simpa [rowW] using HOWN.out, HBB.out⟩
    case round =>
      obtain ⟨j, N2, A3, c3, hj, rfl, hN2, rfl, hown, hb⟩ := hrel
      have hN2b : N2 ≤ 100000 := by have := HN.out; omega
      by_cases hjl : j < M
      case neg =>
        obtain rfl : M = j := by omega
        have HO2 : Hid (wr.ownsRow w.heap.size 4 1 (.slice A3 N2 c3) N2 ((a ++ ranW a l k (i + 1)).map Value.bool)) := by
          show wr.ownsRow w.heap.size 4 1 (.slice A3 N2 c3) N2 ((a ++ ranW a l k (i + 1)).map Value.bool)
          rw [HRW.out, ← List.append_assoc, ← HMM.out]; exact hown
        have HB2 := Lib.hid hb
        have HN2 := Lib.hid hN2
        clear hown hb hN2
        go_upto_region 9 with (fail)
        go_cut [31] (fun v31 wx => v31 = .bool false ∧ wr = wx)
        case first =>
          have hmk := HMK.out
          by_cases hmm : i + 1 ≤ k
          · obtain rfl : M = i + 1 := by omega
            go_wp2
            go_meet
            case rel => exact ⟨by simp; try omega, rfl⟩
          · obtain rfl : M = k := by omega
            go_wp2
            go_meet
            case rel => exact ⟨by simp; try omega, rfl⟩
        obtain ⟨rfl, rfl⟩ := hcut
        go_wp2
        go_roundw
        case rel => exact ⟨i + 1, N2, A3, c3, by omega, by go_num, by rw [HQ'.out], by rw [HSUM.out, HN2.out, HN.out, HMM.out]; omega, rfl, HO2.out, HB2.out⟩
        case measure => simp [intOf]; omega
      have HE : Hid ((a ++ ranW a l k i ++ rowW q' (j + 1)).map Value.bool = (a ++ ranW a l k i ++ rowW q' j).map Value.bool ++ [.bool (decide (j + 1 ≤ q'))]) := by
        show (a ++ ranW a l k i ++ rowW q' (j + 1)).map Value.bool = (a ++ ranW a l k i ++ rowW q' j).map Value.bool ++ [.bool (decide (j + 1 ≤ q'))]
        rw [rowW_succ]; simp
      have hbw : w.heap.size ≤ wr.heap.size := hb.size
      have HN2 := Lib.hid hN2
      clear hN2
      go_upto_region 9 with (fail)
      go_cut [31] (fun v31 wx => v31 = .bool true ∧ wr = wx)
      case first =>
        have hmk := HMK.out
        by_cases hmm : i + 1 ≤ k
        · obtain rfl : M = i + 1 := by omega
          go_wp2
          go_meet
          case rel => exact ⟨by simp; try omega, rfl⟩
        · obtain rfl : M = k := by omega
          go_wp2
          go_meet
          case rel => exact ⟨by simp; try omega, rfl⟩
      obtain ⟨rfl, rfl⟩ := hcut
      have HD : Hid (decide ((j : Int) + 1 ≤ (q' : Int)) = decide (j + 1 ≤ q')) := by
        show decide ((j : Int) + 1 ≤ (q' : Int)) = decide (j + 1 ≤ q')
        rw [Bool.eq_iff_iff]; simp; omega
      go_wp2_with (first
        | (at_builtin
           go_must (refine wpList_append_one _ rfl (.tmp 34) (.tmp 38) _ rfl w.heap.size 4 i0 _ 1 Try.underlying30 hi0 hz0 hz1 hz2 rfl (.slice A3 N2 c3) N2 ((a ++ ranW a l k i ++ rowW q' j).map Value.bool) (by rfl) hown 4 (.bool (decide ((j : Int) + 1 ≤ (q' : Int)))) 1 rfl (by rfl) (by simp only [maxLen]; omega) (by omega) hbw ?_)
           intro A9 c9 w9 ho9 hg9 hb9))
      have HB9 := Lib.hid (hb.grown hg9 hbw (fun g hg => own_low hown g hg))
      have HO9 : Hid (w9.ownsRow w.heap.size 4 1 (.slice A9 (N2 + 1) c9) (N2 + 1) ((a ++ ranW a l k i ++ rowW q' (j + 1)).map Value.bool)) := by
        show w9.ownsRow w.heap.size 4 1 (.slice A9 (N2 + 1) c9) (N2 + 1) ((a ++ ranW a l k i ++ rowW q' (j + 1)).map Value.bool)
        rw [HE.out, ← HD.out]; exact ho9
      clear ho9 hg9 hb9 hown hb
      go_wp2
      go_roundw
      case rel => exact ⟨j + 1, N2 + 1, A9, c9, by omega, by go_num, by rw [HN2.out]; omega, rfl, HO9.out, HB9.out⟩
      case measure => simp [intOf]; omega
end Go.Proofs.Ytanbkdfffojpnaa
