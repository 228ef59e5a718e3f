/-
  chalklinelaw16.CountBoth: the walk.
-/
import Derived.Test.YtanbkdfffojpnaaMeans
import Derived.Test.YtanbkdfffojpnaaRowsApp
namespace Go.Proofs.Ytanbkdfffojpnaa
open Go.RowKit

theorem apartG_mono {m m' : Int} (h : m ≤ m') : ∀ {l seen : List Int}, apartG m seen l = true → apartG m' seen l = true
  | [], _, _ => rfl
  | x :: r, seen, hx => by
    rw [apartG] at hx ⊢
    split at hx
    · cases hx
    · rename_i hc
      rw [if_neg (fun q => hc (by rcases q with q | q | q; exact .inl q; exact .inr (.inl (by omega)); exact .inr (.inr q)))]
      exact apartG_mono h hx
theorem rightR_mono {l : List Int} {m m' : Int} (hr : rightR l m = 0) (h : m ≤ m') (h6 : m' ≤ 65537) : rightR l m' = 0 := by
  obtain ⟨h1, h2, h3, h4⟩ := right_good hr
  unfold rightR
  rw [if_neg (by omega), if_pos (show apartB m' l = true from apartG_mono h h4)]

/-- THE LAW: both together. -/
theorem can_both {l : List Int} {k : Int} {a : List Bool} (h0 : (leastR l k a.length).err = 0) (h0' : (mostR l k (leastR l k a.length).after).err = 0) :
    canB ((leastR l k a.length).cs ++ (mostR l k (leastR l k a.length).after).cs) a ((mostR l k (leastR l k a.length).after).after - a.length).toNat = decide ((manyT l a : Int) = k) := by
  obtain ⟨hr, hge, hle, hcs⟩ := leastR_after h0
  obtain ⟨h1, h2, h3, hA⟩ := right_among hr
  obtain ⟨hr', em⟩ := mostR_after h0'
  rw [em] at h0' ⊢
  obtain ⟨_, hge', hle', hcs'⟩ := leastR_after h0'
  rw [manyT_count hA (Int.le_refl _), Bool.eq_iff_iff, canB_iff]
  have hc := fun s => count_neg (s := s) (l := l) (fun x hx => (hA x hx).1)
  have hcl : l.countP (sval (varT a)) ≤ l.length := List.countP_le_length
  simp only [decide_eq_true_eq]
  have hall : ∀ cl ∈ (leastR l k a.length).cs ++ (leastR (l.map (fun x => -x)) (l.length - min (max k (-1)) l.length) (leastR l k a.length).after).cs, Among (LitBelow (leastR (l.map (fun x => -x)) (l.length - min (max k (-1)) l.length) (leastR l k a.length).after).after) cl := fun cl hcl => by
    rcases List.mem_append.1 hcl with h | h
    · exact among_mono (hcs cl h) hge'
    · exact hcs' cl h
  constructor
  · rintro ⟨e, he, ht⟩
    have hv := (allT_iff _ hall hle').1 ht
    have q1 := leastR_sound h0 (fun c hc => hv c (List.mem_append_left _ hc))
    have q2 := leastR_sound h0' (fun c hc => hv c (List.mem_append_right _ hc))
    have q3 := hc (varT (a ++ e))
    rw [count_prefix hA] at q1
    rw [count_prefix hA] at q3
    omega
  · intro hk
    refine ⟨regsL a l k ++ regsL a (l.map (fun x => -x)) (l.length - min (max k (-1)) l.length), ?_, (allT_iff _ hall hle').2 fun c hcm => ?_⟩
    · rw [List.length_append, regsL_len h0, regsL_len h0']
      omega
    · rcases List.mem_append.1 hcm with h | h
      · have := leastR_complete h0 (mid := []) (post := regsL a (l.map (fun x => -x)) (l.length - min (max k (-1)) l.length)) hA (by simp) (by omega) c h
        simpa using this
      · have q3 := hc (varT a)
        have := leastR_complete h0' (a := a) (mid := regsL a l k) (post := []) (among_neg hA) (by
          rw [List.length_append, regsL_len h0]
          omega) (by omega) c h
        simpa using this

set_option maxHeartbeats 4000000 in
set_option maxRecDepth 100000 in
theorem both_walk (w : World) (n c : Nat) (A : Option Addr) (xs : List Int) (k : Int) (n' c' : Nat) (A' : Option Addr) (bs : List Bool) (hI : Ints w (Lt w) A n c xs) (hf : Fits xs) (hk : (Lit.int .i64 k).wf = true) (hB : Bools w A' n' c' bs) :
    Calls Try.prog 8 #[.slice A n c, .int .i64 k, .slice A' n' c'] w (RetBoolBelow w true) := by
  have hlen := hI.len
  have hIc := hI.cap
  have hIm := hI.max
  have hlb := hB.len
  have hBc := hB.cap
  have hBm := hB.max
  unfold maxLen at hIm hBm
  have HI := Lib.hid hI
  have HF := Lib.hid hf
  have HK := Lib.hid hk
  have HB := Lib.hid hB
  have HL := Lib.hid hlen
  have HLB := Lib.hid hlb
  have LIVE := Lib.hid (live_any w)
  obtain ⟨i0, hi0, hz0, hz1, hz2⟩ := info_parts bool_info
  clear hI hf hk hB hlen hlb
  by_cases g1 : 6 < n'
  case pos =>
    go_enter Try.func8, Try.ntmps8
    go_wp2_with (fail)
    (with_reducible refine LIVE.out.mono ?_)
    rintro e w1 ⟨rfl, hb1⟩
    go_wp2
    go_ret
    exact ⟨rfl, hb1⟩
  have d1 : decide ((6 : Int) < (n' : Int)) = false := by simp; omega
  by_cases g2 : 6 < n
  case pos =>
    go_enter Try.func8, Try.ntmps8
    go_wp2_with (fail)
    (with_reducible refine LIVE.out.mono ?_)
    rintro e w1 ⟨rfl, hb1⟩
    go_wp2
    go_ret
    exact ⟨rfl, hb1⟩
  have d2 : decide ((6 : Int) < (n : Int)) = false := by simp; omega
  go_enter Try.func8, Try.ntmps8
  go_wp2_with (fail)
  (with_reducible refine LIVE.out.mono ?_)
  rintro e w1 ⟨rfl, hb1⟩
  have hal := alloc_lt (w := w1) (.cells #[.bool false] 4)
  have hrd := ((HB.out.belowLt hb1).belowLt hal).reads
  have HB1 := Lib.hid (below_then hb1 hal)
  have HBW1 := Lib.hid hb1.size
  clear hb1 hal LIVE
  go_wp2_with (first
    | (at_builtin
       refine wpList_append_any _ rfl (.tmp 26) (.tmp 27) _ rfl w1.heap.size 4 i0 _ 1 1 Try.underlying30 hi0 hz0 hz1 hz2 rfl (by omega) (.slice (some ⟨w1.heap.size, 0, none⟩) 1 1) 1 [.bool false] (by rfl) (one_false w1) _ A' n' c' _ (by rfl) hrd (bools_oneCell _) (by simp only [maxLen]; omega) (by omega) (by simp) ?_
       intro v2 w2 hown2 hg2 hat2
       obtain ⟨A2, c2, rfl⟩ := own_form hown2))
  have hB2 : Below w.heap.size w w2 := HB1.out.grown hg2 (by have := HB1.out.size; simpa using this) (fun g hg => by
    have e : g = w1.heap.size := by simpa [Value.ownBlock] using hg.symm
    have := HB1.out.size
    simp at this
    have := HBW1.out
    omega)
  have hBa : Bools w2 A2 (1 + n') c2 (false :: bs) := Bools.of_own (e := 4) (base := w1.heap.size) hown2
  have hal : ((false :: bs).length : Int) = 1 + (n' : Int) := by rw [List.length_cons, ← HLB.out]; omega
  have HAL := Lib.hid hal
  have HBA := Lib.hid hBa
  have HB2 := Lib.hid hB2
  have call1 := least_t w2 n c A xs k (1 + (n' : Int)) (HI.out.belowLt hB2) HF.out HK.out
  have CALL1 := Lib.hid call1
  clear hown2 hg2 hat2 hB2 hBa hal call1 HB HB1 hrd
  (with_reducible refine CALL1.out.mono ?_)
  rintro e w3 ⟨A3, n3, c3, rfl, hr3, hb3⟩
  have HR3 := Lib.hid hr3
  have HBA3 := Lib.hid (HBA.out.belowLt hb3)
  have HB3 := Lib.hid (below_then HB2.out hb3)
  have hx60 : xs.length ≤ 60 := by have := HL.out; omega
  have e1 := leastR_room (k := k) hx60 (show 1 + (n' : Int) ≤ 30000 by omega)
  by_cases hr : rightR xs (1 + (n' : Int)) = 0
  case neg =>
    have q1 := leastR_bad0 (show (leastR xs k (1 + (n' : Int))).err ≠ 0 by rw [e1]; exact hr)
    have l3 := HR3.out.len
    rw [q1.1] at l3
    obtain rfl : n3 = 0 := l3
    rw [e1]
    have hne : (rightR xs (1 + (n' : Int)) != 0) = true := by simpa using hr
    clear q1 e1 HR3 hr
    generalize rightR xs (1 + (n' : Int)) = er at *
    generalize (leastR xs k (1 + (n' : Int))).after = af1 at *
    go_wp2_with (fail)
    go_ret
    exact ⟨by simp, HB3.out⟩
  rw [hr] at e1
  have hs := small_of_right hr
  have HS := Lib.hid hs
  obtain ⟨_, f1, f2, _⟩ := leastR_after e1
  have f5 : (leastR xs k (1 + (n' : Int))).after ≤ 30000 := by
    have hx6 : xs.length ≤ 60 := hx60
    by_cases hk0 : k ≤ 0
    · rw [leastR_none hr hk0]; show 1 + (n' : Int) ≤ 30000; omega
    by_cases hk2 : (xs.length : Int) < k
    · rw [leastR_over hr hk0 hk2]; show 1 + (n' : Int) ≤ 30000; omega
    obtain ⟨m, rfl⟩ := Int.eq_ofNat_of_zero_le (show 0 ≤ k by omega)
    have hreg : regs xs.length m ≤ 7200 := by
      have a1 : m * (m - 1) ≤ 60 * 60 := Nat.mul_le_mul (by omega) (by omega)
      have a2 : m * (xs.length - m + 1) ≤ 60 * 60 := Nat.mul_le_mul (by omega) (by omega)
      unfold regs
      generalize m * (m - 1) = p at *
      generalize m * (xs.length - m + 1) = q at *
      omega
    rw [leastR_ok hr (by omega) (by omega) (by omega)]
    show beginAt (1 + (n' : Int)) m xs.length ≤ 30000
    rw [beginAt_sum, sumM_regs (by omega) (by omega)]
    omega
  have hr2 := rightR_mono hr f1 f2
  have e2 := mostR_room (k := k) hx60 f5
  rw [hr2] at e2
  have k1 : (leastR xs k ((false :: bs).length : Int)).err = 0 := by rw [HAL.out]; exact e1
  have k2 : (mostR xs k (leastR xs k ((false :: bs).length : Int)).after).err = 0 := by rw [HAL.out]; exact e2
  have c1 := can_both k1 k2
  rw [HAL.out] at c1
  obtain ⟨f3, f4⟩ := mostR_range e2
  rw [e1]
  have hl3 := leastR_small (k := k) hx60 hr
  have hl4 := mostR_small (k := k) hx60 hr2
  have HC1 : Hid (canTried (false :: bs) (mostR xs k (leastR xs k (1 + (n' : Int))).after).after = true → canIs ((leastR xs k (1 + (n' : Int))).cs ++ (mostR xs k (leastR xs k (1 + (n' : Int))).after).cs) (false :: bs) (mostR xs k (leastR xs k (1 + (n' : Int))).after).after = decide ((manyT xs (false :: bs) : Int) = k)) := fun h => by
    unfold canIs; rw [h, Bool.true_and, HAL.out]; exact c1
  have call2 := most_t w3 n c A xs k (leastR xs k (1 + (n' : Int))).after (HI.out.belowLt HB3.out) HF.out HK.out
  rw [e2] at call2
  clear c1 k1 k2 hr hs e1 e2 hr2
  generalize (leastR xs k (1 + (n' : Int))).after = af1 at *
  generalize (mostR xs k af1).after = af2 at *
  generalize (leastR xs k (1 + (n' : Int))).cs = cs1 at *
  generalize (mostR xs k af1).cs = cs2 at *
  have CALL2 := Lib.hid call2
  clear call2
  go_wp2_with (fail)
  (with_reducible refine CALL2.out.mono ?_)
  rintro e w4 ⟨A4, n4, c4, rfl, hr4, hb4⟩
  have l3 := HR3.out.len
  have l4 := hr4.len
  obtain ⟨rows1, rd1, rr1⟩ := (HR3.out.belowLt hb4).parts
  obtain ⟨rows2, rd2, rr2⟩ := hr4.parts
  have HBA4 := Lib.hid (HBA3.out.belowLt hb4)
  have HB4 := Lib.hid (below_then HB3.out hb4)
  have ll1 : n3 ≤ 20000 := by omega
  have ll2 : n4 ≤ 20000 := by omega
  have hoc1 := rr1.oneCell
  have hoc2 := rr2.oneCell
  have RR1 := Lib.hid rr1
  have RR2 := Lib.hid rr2
  obtain ⟨i1, hi1, hy0, hy1, hy2⟩ := info_parts ints_info
  have tok1 : True := trivial
  clear hr4 hb4 CALL2 HBA3 HB3 HR3 rr1 rr2 l3 l4 hl3 hl4 hi0 hz0 hz1 hz2
  go_wp2_with (first
    | (at_builtin
       have _t := tok1
       refine wpList_append_any _ rfl (.const (.slice none 0 0)) (.tmp 54) _ rfl w4.heap.size 22 i1 _ 1 24 Try.underlying24 hi1 hy0 hy1 hy2 rfl (by omega) (.slice none 0 0) 0 [] (by rfl) (World.ownsRow_nil _ _ _ _) _ A3 n3 c3 _ (by rfl) rd1 hoc1 (by simp only [maxLen]; omega) (by omega) (Nat.le_refl _) ?_
       intro v5 w5 hown5 hg5 hat5
       clear tok1
       rw [Nat.zero_add, List.nil_append] at hown5
       have hb5 : Below w4.heap.size w4 w5 := (Below.refl _ _).grown hg5 (Nat.le_refl _) (by simp [Value.ownBlock])
       have rd2' : Reads w5 (Lt w5) 1 A4 n4 rows2 := rd2.keep' (fun p hp => hb5.cell hp) (fun _ hk => Nat.lt_of_lt_of_le hk hb5.size)
       have hs5 := hb5.size
       obtain ⟨A5, c5, rfl⟩ := own_form hown5)
    | (at_builtin
       refine wpList_append_any _ rfl (.tmp 55) (.tmp 56) _ rfl w4.heap.size 22 i1 _ 1 24 Try.underlying24 hi1 hy0 hy1 hy2 rfl (by omega) (.slice A5 n3 c5) n3 rows1 (by rfl) hown5 _ A4 n4 c4 _ (by rfl) rd2' hoc2 (by simp only [maxLen]; omega) (by omega) hs5 ?_
       intro v6 w6 hown6 hg6 hat6
       obtain ⟨A6, c6, rfl⟩ := own_form hown6))
  have hb5' : Below w4.heap.size w4 w6 := hb5.grown hg6 hs5 (fun g hg => (hown5.lt g hg).1)
  have rr : RowsRead w6 (rows1 ++ rows2) (cs1 ++ cs2) := (RR1.out.belowLt hb5').append (RR2.out.belowLt hb5')
  have hR6 := Rows2.of_read hown6 rr
  have hBA6 := HBA4.out.belowLt hb5'
  have HB6 := Lib.hid (below_then HB4.out hb5')
  have call3 := can_r w6 A6 (n3 + n4) c6 (cs1 ++ cs2) A2 (1 + n') c2 (false :: bs) af2 hR6 hBA6 (by omega) (by omega) (by omega)
  generalize canIs (cs1 ++ cs2) (false :: bs) af2 = is1 at *
  generalize canTried (false :: bs) af2 = tr1 at *
  have CALL3 := Lib.hid call3
  have HBA6 := Lib.hid hBA6
  clear call3 hBA6 hR6 rr hb5' hb5 hg5 hg6 hown5 hown6 hat5 hat6 rd1 rd2 rd2' HB4 HBA4 RR1 RR2 hoc1 hoc2
  (with_reducible refine CALL3.out.mono ?_)
  rintro e w7 ⟨rfl, hb7⟩
  have HB7 := Lib.hid (below_then HB6.out hb7)
  have callm := many_any w7 A n c xs A2 (1 + n') c2 (false :: bs) (HI.out.belowLt HB7.out) (HBA6.out.belowLt hb7) HS.out (by omega)
  generalize manyT xs (false :: bs) = q at *
  have CALLM := Lib.hid callm
  clear callm hb7 HB6 HBA6 CALL3
  cases tr1
  · go_wp2_with (fail)
    go_ret
    exact ⟨by simp, HB7.out⟩
  · obtain rfl := HC1.out rfl
    go_wp2_with (fail)
    (with_reducible refine CALLM.out.mono ?_)
    rintro e w8 ⟨rfl, rfl⟩
    go_wp2_with (fail)
    go_ret
    refine ⟨?_, HB7.out⟩
    simp
    rw [Bool.eq_iff_iff]
    simp
end Go.Proofs.Ytanbkdfffojpnaa
