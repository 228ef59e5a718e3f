/-
  chalklinelaw15.TotalNegated: the walk.
-/
import Derived.Test.YtohffgggogdgmaaCounts
import Derived.Test.YtohffgggogdgmaaNegLaw
namespace Go.Proofs.Ytohffgggogdgmaa
open Go.RowKit

theorem manyT_neg {m : Int} {l : List Int} {b : List Bool} (h : Among (LitBelow m) l) (hm : m ≤ b.length) : manyT (l.map (fun x => -x)) b + manyT l b = l.length := by
  have h' : Among (LitBelow m) (l.map (fun x => -x)) := fun x hx => by
    obtain ⟨y, hy, rfl⟩ := List.mem_map.1 hx
    exact litBelow_neg y (h y hy)
  rw [manyT_count h hm, manyT_count h' hm]
  exact countP_neg fun x hx => (h x hx).1
theorem wf64 (x : Int) : (Lit.int .i64 (wrap64 x)).wf = true := by
  unfold wrap64
  simp [Lit.wf, IntKind.min, IntKind.max, IntKind.signed, IntKind.bits]
  omega
theorem neg_id {x : Int} (h : -70000 ≤ x ∧ x ≤ 70000) : wrap64 (-x) = -x := IntWalk.wrap64_in _ (by omega)

set_option maxHeartbeats 4000000 in
set_option maxRecDepth 100000 in
theorem negated_walk (w : World) (n c : Nat) (A : Option Addr) (xs : List Int) (next : Int) (n' c' : Nat) (A' : Option Addr) (bs : List Bool) (hI : Ints w (Lt w) A n c xs) (hf : Fits xs) (hB : Bools w A' n' c' bs) :
    Calls Try.prog 8 #[.slice A n c, .int .i64 next, .slice A' n' c'] w (RetBoolBelow w true) := by
  have hlen := hI.len
  have HI := Lib.hid hI
  have HB := Lib.hid hB
  have HF := Lib.hid hf
  have HLEN := Lib.hid hlen
  have LIVE := Lib.hid (live_any w)
  have hmx := hB.max
  have hcp := hB.cap
  unfold maxLen at hmx
  clear hI hf hlen hB
  by_cases g1 : 12 < n
  case pos =>
    go_enter Try.func8, Try.ntmps8
    go_wp2_with (fail)
    (with_reducible refine LIVE.out.mono ?_)
    rintro e w1 ⟨rfl, hb1⟩
    go_wp2
    go_ret
    exact ⟨rfl, hb1⟩
  by_cases g3 : 3000 < n'
  case pos =>
    go_enter Try.func8, Try.ntmps8
    go_wp2_with (fail)
    (with_reducible refine LIVE.out.mono ?_)
    rintro e w1 ⟨rfl, hb1⟩
    go_wp2
    go_ret
    exact ⟨rfl, hb1⟩
  by_cases g4 : 1000 < next
  case pos =>
    go_enter Try.func8, Try.ntmps8
    go_wp2_with (fail)
    (with_reducible refine LIVE.out.mono ?_)
    rintro e w1 ⟨rfl, hb1⟩
    go_wp2
    go_ret
    exact ⟨rfl, hb1⟩
  have hn12 : n ≤ 12 := by omega
  have d1 : decide ((12 : Int) < (n : Int)) = false := by simp; omega
  have d3 : decide ((3000 : Int) < (n' : Int)) = false := by simp; omega
  have d4 : decide (1000 < next) = false := by simp; omega
  obtain ⟨i0, hi, hz0, hz1, hz2⟩ := info_parts int_info
  go_enter Try.func8, Try.ntmps8
  go_wp2_with (fail)
  (with_reducible refine LIVE.out.mono ?_)
  rintro e w1 ⟨rfl, hb1⟩
  have HB1 := Lib.hid hb1
  have HI1 := Lib.hid (HI.out.belowLt hb1)
  have hown0 : (w1.alloc (.cells #[] 3)).ownsRow w1.heap.size 3 1 (.slice (some ⟨w1.heap.size, 0, none⟩) 0 0) 0 [] := World.ownsRow_made w1 #[] 0 (Nat.le_refl _) (by simp [maxLen]) (by simp)
  have hal := alloc_lt (w := w1) (.cells #[] 3)
  clear hb1 LIVE
  go_wp2_with (fail)
  clear d1 d3 d4
  go_loopw [7, 8] (fun v i wr => ∃ k : Nat, k ≤ n ∧ i = .int .i64 k ∧ wr.ownsRow w1.heap.size 3 1 v k (((xs.take k).map (fun x => wrap64 (-x))).map (Value.int .i64)) ∧ Below w1.heap.size w1 wr) (fun _ i _ => n - (intOf i).toNat)
  case atStart => exact ⟨0, Nat.zero_le _, rfl, hown0, hal⟩
  case round =>
    obtain ⟨k, hk, rfl, hown, hbl⟩ := hrel
    clear hown0 hal
    by_cases hlt : k < n
    · obtain ⟨ad, rfl, hadS, hcell⟩ := HI1.out.at_ hlt
      have e1 := (hbl.cell (p := ad.add k) (by rw [block_of_add]; exact hadS)).trans hcell
      have hsn : ((xs.take (k + 1)).map (fun x => wrap64 (-x))).map (Value.int .i64) = ((xs.take k).map (fun x => wrap64 (-x))).map (Value.int .i64) ++ [.int .i64 (wrap64 (-(xs.getD k 0)))] := by
        have hl := HLEN.out
        rw [List.take_succ_eq_append_getElem (by omega), List.map_append, List.map_append, List.getD_eq_getElem?_getD, List.getElem?_eq_getElem (by omega)]
        rfl
      have HSN := Lib.hid hsn
      have hsz := hbl.size
      clear hcell hadS hsn
      generalize xs.getD k 0 = x at *
      generalize ((xs.take k).map (fun x => wrap64 (-x))).map (Value.int .i64) = L at *
      have hin : Reads (wr.alloc (.cells #[.int .i64 (wrap64 (-x))] 3)) (fun k => k < wr.heap.size + 1) 1 (some ⟨wr.heap.size, 0, none⟩) 1 [.int .i64 (wrap64 (-x))] :=
        ⟨by simp, fun _ => ⟨_, rfl, by simp, fun j u hu => by
          match j, hu with
          | 0, hu => simp at hu; subst hu; simp [Addr.add]⟩⟩
      have h1c : ∀ u ∈ [Value.int .i64 (wrap64 (-x))], u.oneCell' = true := ints_oneCell [wrap64 (-x)]
      go_wp2_with (first
        | (at_builtin
           refine wpList_append_any _ rfl (.tmp 40) (.tmp 46) _ rfl w1.heap.size 3 i0 _ 1 8 Try.underlying22 hi hz0 hz1 hz2 rfl (by omega) u7 k L (by rfl) (hown.alloc _) _ _ 1 1 [.int .i64 (wrap64 (-x))] (by rfl) hin h1c (by simp only [maxLen]; omega) (by omega) (by simp; omega) ?_
           intro v2 w2 hown2 hg2 hat2))
      have hb2 : Below w1.heap.size w1 w2 := (hbl.alloc hsz _).grown hg2 (by simp; omega) (fun g hg => (hown.lt g hg).1)
      have HOWN2 : Hid (w2.ownsRow w1.heap.size 3 1 v2 (k + 1) (((xs.take (k + 1)).map (fun x => wrap64 (-x))).map (Value.int .i64))) := by rw [HSN.out]; exact hown2
      clear hown2 hown hg2 hat2 hin h1c
      go_roundw
      case rel => exact ⟨k + 1, by omega, by go_num, HOWN2.out, hb2⟩
      case measure => simp [intOf]; omega
    · obtain rfl : n = k := by omega
      have ht : xs.take n = xs := List.take_of_length_le (by have := HLEN.out; omega)
      rw [ht] at hown
      obtain ⟨A7, c7, rfl⟩ := own_form hown
      have HN := Lib.hid (Ints.of_ownLt hown)
      have HBW := Lib.hid (below_then HB1.out hbl)
      clear hown ht hbl hi hz0 hz1 hz2 HI1 HB1
      go_wp2_with (fail)
      have ctot := total_t wr n c A xs n next (HI.out.belowLt HBW.out) HF.out (by omega)
      (with_reducible refine ctot.mono ?_)
      rintro e w2 ⟨A2, n2, c2, A2', n2', c2', rfl, ho2, hr2, hb2⟩
      have hnx : ((n : Nat) : Int) = (xs.length : Int) := by rw [HLEN.out]
      rw [hnx] at ho2 hr2 ⊢
      have HNX := Lib.hid hnx
      have HL2 := Lib.hid ho2.len
      have HO2 := Lib.hid ho2
      have HR2 := Lib.hid hr2
      have HN2 := Lib.hid (HN.out.belowLt hb2)
      have HB2 := Lib.hid (below_then HBW.out hb2)
      clear ctot hnx ho2 hr2 hb2 HN HBW
      by_cases h0 : (totalR xs xs.length next).err = 0
      case neg =>
        have hne : ((totalR xs xs.length next).err != 0) = true := by simpa using h0
        clear h0 HO2 HR2 HL2
        generalize (totalR xs xs.length next).err = er at *
        generalize (totalR xs xs.length next).after = af at *
        go_wp2
        go_ret
        exact ⟨rfl, HB2.out⟩
      have hg := totalR_good h0
      have hok := neg_ok h0 g4 (by have := HLEN.out; omega)
      have hsm : Small xs := fun x hx => (hg.lits x hx).small (by have := hg.after; omega)
      have hneg : xs.map (fun x => wrap64 (-x)) = xs.map (fun x => -x) := List.map_congr_left fun x hx => neg_id (hsm x hx)
      rw [hneg] at HN2
      have hfn : Fits (xs.map (fun x => -x)) := by rw [← hneg]; intro x hx; obtain ⟨y, _, rfl⟩ := List.mem_map.1 hx; exact wf64 _
      have hg' := totalR_good hok
      have HHN := Lib.hid (fun (b : List Bool) (hm : next ≤ b.length) => manyT_neg hg.lits hm)
      have LAW := Lib.hid (fun (b : List Bool) hb ha (i : Nat) hi => counts_law (l := xs) (most := xs.length) (next := next) h0 b hb ha (i := i) hi)
      have LAW' := Lib.hid (fun (b : List Bool) hb ha (i : Nat) hi => counts_law (l := xs.map (fun x => -x)) (most := xs.length) (next := (totalR xs xs.length next).after) hok b hb ha (i := i) hi)
      have HSO := Lib.hid (fun x hx => (hg.outs x hx).small hg.after.2)
      have HSO' := Lib.hid (fun x hx => (hg'.outs x hx).small hg'.after.2)
      have hafter := hg.after
      have hafter' := hg'.after
      have HLO := Lib.hid hg.len
      have HLO' := Lib.hid hg'.len
      have hgrow := hg.grow
      have hgrow' := hg'.grow
      have harg := hg.arg
      have CTOT := Lib.hid (total_t w2 n c7 A7 (xs.map (fun x => -x)) n (totalR xs xs.length next).after HN2.out hfn (by omega))
      rw [h0]
      rw [HNX.out, hok] at CTOT
      clear hneg hfn hsm hg hg' h0 hok HN2
      generalize totalR (xs.map (fun x => -x)) xs.length (totalR xs xs.length next).after = R' at *
      generalize totalR xs xs.length next = R at *
      obtain ⟨af1, af2⟩ := hafter
      obtain ⟨af3, af4⟩ := hafter'
      obtain ⟨ag1, ag2⟩ := harg
      have hxl : xs.length ≤ 12 := by have := HLEN.out; omega
      have hn2 : n2 = n := by have := HL2.out; have := HLO.out; have := HLEN.out; omega
      have hq1 : ((n2 : Int) != (n : Int)) = false := by rw [hn2]; simp
      have HNN := Lib.hid hn2
      clear hn2 hgrow hgrow'
      rw [← HNX.out] at CTOT
      generalize hRa : R.after = af at *
      generalize hRa' : R'.after = af' at *
      have HRA := Lib.hid hRa
      have HRA' := Lib.hid hRa'
      clear hRa hRa'
      go_wp2_with (fail)
      (with_reducible refine CTOT.out.mono ?_)
      rintro e w3 ⟨A3, n3, c3, A3', n3', c3', rfl, ho3, hr3, hb3⟩
      have hn3 : n3 = n := by have h1 := ho3.len; have h2 := HLO'.out; have h3 := HLEN.out; rw [List.length_map] at h2; omega
      have hq2 : ((n3 : Int) != (n : Int)) = false := by rw [hn3]; simp
      have HNN3 := Lib.hid hn3
      have HL3 := Lib.hid ho3.len
      have HO3 := Lib.hid ho3
      have HR3 := Lib.hid hr3
      have HO23 := Lib.hid (HO2.out.belowLt hb3)
      have HR23 := Lib.hid (HR2.out.belowLt hb3)
      have HB3 := Lib.hid (below_then HB2.out hb3)
      clear hn3 ho3 hr3 hb3 HO2 HR2 HB2 CTOT
      obtain ⟨m, rfl⟩ := Int.eq_ofNat_of_zero_le (show 0 ≤ af' by omega)
      go_wp2_with (fail)
      (with_reducible refine (padded_any w3 A' n' c' bs m (HB.out.belowLt HB3.out) (by omega)).mono ?_)
      rintro e w4 ⟨g, rfl, hblk, hgw, hb4⟩
      have hBp := Bools.of_blk hblk (by rw [padT_len]; simp only [maxLen]; omega)
      have hlen3 := padT_len bs m
      have HB4 := Lib.hid (below_then HB3.out hb4)
      have HO4 := Lib.hid (HO3.out.belowLt hb4)
      have HR4 := Lib.hid (HR3.out.belowLt hb4)
      have HO24 := Lib.hid (HO23.out.belowLt hb4)
      have HR24 := Lib.hid (HR23.out.belowLt hb4)
      clear hblk hgw hb4 HO3 HR3 HB3 HO23 HR23
      have LAW2 := Lib.hid (LAW.out (padT bs m) (by rw [hlen3]; omega))
      have LAW2' := Lib.hid (LAW'.out (padT bs m) (by rw [hlen3]; omega))
      have HHN2 := Lib.hid (HHN.out (padT bs m) (by rw [hlen3]; omega))
      clear LAW LAW' HHN
      generalize padT bs m = pb at *
      have HBP := Lib.hid hBp
      clear hBp hlen3
      have call := lawHolds_any w4 A2' n2' c2' R.cs (some ⟨g, 0, none⟩) pb.length pb.length pb HR24.out HBP.out
      go_wp2_with (fail)
      cases hall : allT R.cs pb
      · rw [hall] at call
        have CALL := Lib.hid call
        clear call hall
        (with_reducible refine CALL.out.mono ?_)
        rintro e w5 ⟨rfl, hb5⟩
        go_wp2_with (fail)
        go_ret
        exact ⟨rfl, below_then HB4.out hb5⟩
      · rw [hall] at call
        have CALL := Lib.hid call
        have LAW3 := Lib.hid (LAW2.out hall)
        clear call hall LAW2
        (with_reducible refine CALL.out.mono ?_)
        rintro e w5 ⟨rfl, hb5⟩
        have HB5 := Lib.hid (below_then HB4.out hb5)
        have HO5 := Lib.hid (HO4.out.belowLt hb5)
        have HR5 := Lib.hid (HR4.out.belowLt hb5)
        have HO25 := Lib.hid (HO24.out.belowLt hb5)
        have HBP5 := Lib.hid (HBP.out.belowLt hb5)
        clear hb5 HB4 HO4 HR4 HO24 HR24 HBP CALL
        have call := lawHolds_any w5 A3' n3' c3' R'.cs (some ⟨g, 0, none⟩) pb.length pb.length pb HR5.out HBP5.out
        go_wp2_with (fail)
        cases hall' : allT R'.cs pb
        · rw [hall'] at call
          have CALL := Lib.hid call
          clear call hall'
          (with_reducible refine CALL.out.mono ?_)
          rintro e w6 ⟨rfl, hb6⟩
          go_wp2_with (fail)
          go_ret
          exact ⟨rfl, below_then HB5.out hb6⟩
        · rw [hall'] at call
          have CALL := Lib.hid call
          have LAW3' := Lib.hid (LAW2'.out hall')
          clear call hall' LAW2'
          (with_reducible refine CALL.out.mono ?_)
          rintro e w6 ⟨rfl, hb6⟩
          have HB6 := Lib.hid (below_then HB5.out hb6)
          have HO6 := Lib.hid (HO5.out.belowLt hb6)
          have HO26 := Lib.hid (HO25.out.belowLt hb6)
          have HBP6 := Lib.hid (HBP5.out.belowLt hb6)
          clear hb6 HB5 HO5 HR5 HO25 HBP5 CALL
          go_wp2_with (fail)
          clear hq1 hq2
          go_loopw [18] (fun i wr => ∃ k : Nat, k ≤ n ∧ i = .int .i64 k ∧ Below w6.heap.size w6 wr) (fun i _ => n - (intOf i).toNat)
          case atStart => exact ⟨0, Nat.zero_le _, rfl, Below.refl _ _⟩
          case round =>
            obtain ⟨k, hk, rfl, hbl⟩ := hrel
            by_cases hlt : k < n
            · have hk3 : k < n3 := by have := HNN3.out; omega
              have hk2 : n - 1 - k < n2 := by have := HNN.out; omega
              obtain ⟨ad, rfl, hadS, hcell⟩ := HO26.out.at_ hk2
              obtain ⟨ad', rfl, hadS', hcell'⟩ := HO6.out.at_ hk3
              have e1 := (hbl.cell (p := ad.add (n - 1 - k)) (by rw [block_of_add]; exact hadS)).trans hcell
              have e2 := (hbl.cell (p := ad'.add k) (by rw [block_of_add]; exact hadS')).trans hcell'
              have hl := LAW3.out (n - 1 - k) (by have := HL2.out; omega)
              have hl' := LAW3'.out k (by have := HL3.out; omega)
              have hsx := HSO.out (R.outs.getD (n - 1 - k) 0) (by rw [List.getD_eq_getElem?_getD, List.getElem?_eq_getElem (by have := HL2.out; omega)]; simp)
              have hsx' := HSO'.out (R'.outs.getD k 0) (by rw [List.getD_eq_getElem?_getD, List.getElem?_eq_getElem (by have := HL3.out; omega)]; simp)
              have hBd := HBP6.out.belowLt hbl.drew
              have call := lit_any wr.drew (R.outs.getD (n - 1 - k) 0) _ _ _ pb hBd hsx.1 hsx.2
              have call' := lit_any wr.drew (R'.outs.getD k 0) _ _ _ pb hBd hsx'.1 hsx'.2
              have hcm : decide (n - 1 - k < manyT xs pb) = !decide (k < manyT (xs.map (fun x => -x)) pb) := by
                have h1 := HHN2.out
                have h2 := HLEN.out
                rw [Bool.eq_iff_iff]
                simp
                omega
              rw [hl, hcm] at call
              rw [hl'] at call'
              have CALL := Lib.hid call
              have CALL' := Lib.hid call'
              clear call call' hl hl' hsx hsx' hadS hadS' hcell hcell' hBd hcm
              generalize R.outs.getD (n - 1 - k) 0 = x at *
              generalize R'.outs.getD k 0 = y at *
              generalize decide (k < manyT (xs.map (fun x => -x)) pb) = b at *
              have hq : (b == !b) = false := by cases b <;> rfl
              obtain ⟨j, hj⟩ : ∃ j, j = n - 1 - k := ⟨_, rfl⟩
              rw [← hj] at e1 hk2
              have z1 : (0 : Int) ≤ (k : Int) := by omega
              have z2 : (k : Int) < (n3 : Int) := by omega
              have z3 : (0 : Int) ≤ (j : Int) := by omega
              have z4 : (j : Int) < (n2 : Int) := by omega
              have hj1 : IntKind.i64.wrap (IntKind.i64.wrap ((n : Int) - 1) - (k : Int)) = (j : Int) := by
                have a1 : IntKind.i64.wrap ((n : Int) - 1) = (n : Int) - 1 := IntWalk.i64_in _ (by omega)
                rw [a1, IntWalk.i64_in _ (by omega)]; omega
              clear hj
              go_wp2
              go_region_held3 (fun w' => w'.cell? (ad.add j) = some (.int .i64 x) ∧ w'.cell? (ad'.add k) = some (.int .i64 y)) (first | (exact ⟨e1, e2⟩) | go_keep)
                (first | (go_at_call 19; (with_reducible refine CALL.out.mono ?_); rintro e w4 ⟨rfl, rfl⟩) | (go_at_call 19; (with_reducible refine CALL'.out.mono ?_); rintro e w4 ⟨rfl, rfl⟩))
              go_wp2
              go_roundw
              case rel => exact ⟨k + 1, by omega, by go_num, hbl.drew⟩
              case measure => simp [intOf]; omega
            · go_wp2
              go_ret
              exact ⟨rfl, below_then HB6.out hbl⟩
end Go.Proofs.Ytohffgggogdgmaa
