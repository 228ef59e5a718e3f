/-
  chalklineref16.Least and Most: they hand back what count.Least and count.Most do.
-/
import Derived.Test.YtanbkdfffojpnaaRefLeast16
namespace Go.Proofs.Ytanbkdfffojpnaa
open Go.RowKit

set_option maxHeartbeats 1000000 in
set_option maxRecDepth 100000 in
theorem refLeast_any (w : World) (n c : Nat) (A : Option Addr) (xs : List Int) (k next : Int) (hI : Ints w (Lt w) A n c xs) (hf : Fits xs) :
    Calls Try.prog 14 #[.slice A n c, .int .i64 k, .int .i64 next] w (RetLeast w (leastR xs k next)) := by
  have hlen := hI.len
  have hcap := hI.cap
  have hmax := hI.max
  unfold maxLen at hmax
  have call := lits16_any w n c A xs next hI hf
  by_cases hr : rightR xs next = 0
  case neg =>
    rw [leastR_bad hr]
    have hne : (rightR xs next != 0) = true := by simpa using hr
    generalize rightR xs next = er at *
    have CALL := Lib.hid call
    clear hI hf hlen call
    go_enter Try.func14, Try.ntmps14
    go_wp2_with (fail)
    (with_reducible refine CALL.out.mono ?_)
    rintro e w1 ⟨rfl, hb1⟩
    go_wp2
    exact bodyPost_ret (v := .tuple #[.slice none 0 0, .int .i64 0, .int .i64 er]) (by simp [results, Try.results14, go_sem]) rfl (retLeast_nil hb1)
  obtain ⟨hn1, hn2, hn4, hap⟩ := right_good hr
  by_cases h0 : k ≤ 0
  case pos =>
    rw [leastR_none hr h0]
    rw [hr] at call
    have CALL := Lib.hid call
    clear hI hf hlen call hr hap
    go_enter Try.func14, Try.ntmps14
    go_wp2_with (fail)
    (with_reducible refine CALL.out.mono ?_)
    rintro e w1 ⟨rfl, hb1⟩
    go_wp2
    exact bodyPost_ret (v := .tuple #[.slice none 0 0, .int .i64 next, .int .i64 0]) (by simp [results, Try.results14, go_sem]) rfl (retLeast_nil hb1)
  by_cases h1 : (n : Int) < k
  case pos =>
    rw [leastR_over hr h0 (by rw [← hlen]; exact h1)]
    rw [hr] at call
    have CALL := Lib.hid call
    clear hI hf hlen call hr hap
    go_enter Try.func14, Try.ntmps14
    go_wp2_with (fail)
    (with_reducible refine CALL.out.mono ?_)
    rintro e w1 ⟨rfl, hb1⟩
    go_wp2
    refine bodyPost_ret (v := .tuple #[.slice (some ⟨w1.heap.size + 1, 0, none⟩) 1 1, .int .i64 next, .int .i64 0]) (by simp [results, Try.results14, go_sem]) rfl ?_
    refine ⟨_, _, _, rfl, ⟨[.slice (some ⟨w1.heap.size, 0, none⟩) 0 0], ?_, fun i r hr => ?_⟩, ?_⟩
    · have h := own_new (w1.alloc (.cells #[] 3)) 22 (.slice (some ⟨w1.heap.size, 0, none⟩) 0 0)
      rw [show (w1.alloc (.cells #[] 3)).heap.size = w1.heap.size + 1 by simp] at h
      exact own_base h (by have := hb1.size; omega)
    · match i, hr with
      | 0, hr =>
        simp at hr
        subst hr
        refine ⟨[], rfl, ?_⟩
        have h : (w1.alloc (.cells #[] 3)).ownsRow w1.heap.size 3 1 (.slice (some ⟨w1.heap.size, 0, none⟩) 0 0) 0 [] := World.ownsRow_lit w1 #[] 0 (Nat.le_refl _) (by simp [maxLen]) rfl
        exact own_base (h.alloc _) hb1.size
    · exact below_then (below_then hb1 (alloc_lt _)) (alloc_lt _)
  obtain ⟨m, rfl⟩ := Int.eq_ofNat_of_zero_le (show 0 ≤ k by omega)
  refine refLeast_main w n c A xs m next _ hI hf hr (by omega) (by omega) (by omega) (fun x hx => ⟨(apartG_mem16 hap x hx).2, by have := (apartG_mem16 hap x hx).1; omega, by have := (apartG_mem16 hap x hx).1; omega⟩) hn1 hn2 (fun h => ?_) (fun h => ?_)
  · exact leastR_bound hr (by omega) (by omega) (by rw [← hlen]; exact h)
  · rw [leastR_ok hr (by omega) (by omega) (by rw [← hlen]; exact h), ← hlen]

set_option maxHeartbeats 2000000 in
set_option maxRecDepth 100000 in
theorem refMost_any (w : World) (n c : Nat) (A : Option Addr) (xs : List Int) (k next : Int) (hI : Ints w (Lt w) A n c xs) (hf : Fits xs) :
    Calls Try.prog 17 #[.slice A n c, .int .i64 k, .int .i64 next] w (RetLeast w (mostR xs k next)) := by
  have hlen := hI.len
  have hcap := hI.cap
  have hmax := hI.max
  unfold maxLen at hmax
  have call := lits16_any w n c A xs next hI hf
  by_cases hr : rightR xs next = 0
  case neg =>
    rw [mostR_bad hr]
    have hne : (rightR xs next != 0) = true := by simpa using hr
    generalize rightR xs next = er at *
    have CALL := Lib.hid call
    clear hI hf hlen call
    go_enter Try.func17, Try.ntmps17
    go_wp2_with (fail)
    (with_reducible refine CALL.out.mono ?_)
    rintro e w1 ⟨rfl, hb1⟩
    go_wp2
    exact bodyPost_ret (v := .tuple #[.slice none 0 0, .int .i64 0, .int .i64 er]) (by simp [results, Try.results17, go_sem]) rfl (retLeast_nil hb1)
  rw [mostR_ok hr]
  obtain ⟨hn1, hn2, hn4, hap⟩ := right_good hr
  rw [hr] at call
  have hsm : ∀ x ∈ xs, -70000 ≤ x ∧ x ≤ 70000 := fun x hx => by have := (apartG_mem16 hap x hx).1; omega
  have hn4' : n ≤ 4096 := by omega
  have CALL := Lib.hid call
  have HI := Lib.hid hI
  have HSM := Lib.hid hsm
  have HL := Lib.hid hlen
  obtain ⟨i0, hi0, hz0, hz1, hz2⟩ := info_parts int_info
  obtain ⟨t, ht⟩ : ∃ t : Int, t = (n : Int) - min (max k (-1)) (n : Int) := ⟨_, rfl⟩
  have HT := Lib.hid ht
  clear call hI hf hr hap hsm hn4 hlen ht
  go_enter Try.func17, Try.ntmps17
  go_wp2_with (fail)
  (with_reducible refine CALL.out.mono ?_)
  rintro e w1 ⟨rfl, hb1⟩
  have HB1 := Lib.hid hb1
  clear hb1 CALL
  go_upto_region 6 with (fail)
  go_upto_if 24 with (fail)
  go_cut [11] (fun v wx => v = .int .i64 t ∧ w1 = wx)
  case first =>
    by_cases h1 : k < 0
    · go_wp2
      all_goals go_meet
      all_goals exact ⟨by rw [HT.out]; congr 1; omega, rfl⟩
    · have d1 : decide (k < 0) = false := by simpa using h1
      by_cases h2 : k < (n : Int)
      · go_wp2
        all_goals go_meet
        all_goals exact ⟨by rw [HT.out]; congr 1; omega, rfl⟩
      · have d2 : decide (k < (n : Int)) = false := by simpa using h2
        go_wp2
        all_goals go_meet
        all_goals exact ⟨by rw [HT.out]; congr 1; omega, rfl⟩
  obtain ⟨rfl, rfl⟩ := hcut
  go_wp2_with (fail)
  go_loopw [12, 35] (fun v12 v35 wr => ∃ (i : Nat) (Ab : Option Addr) (cb : Nat), i ≤ n ∧ v35 = .int .i64 i ∧ v12 = .slice Ab i cb ∧ wr.ownsRow w.heap.size 3 1 (.slice Ab i cb) i (((xs.take i).map (fun x => -x)).map (Value.int .i64)) ∧ Below w.heap.size w wr) (fun _ v35 _ => n - (intOf v35).toNat)
  case atStart => exact ⟨0, none, 0, Nat.zero_le _, rfl, rfl, World.ownsRow_nil _ _ _ _, HB1.out⟩
  case round =>
    clear HB1
    obtain ⟨i, Ab, cb, hi, rfl, rfl, hown, hb⟩ := hrel
    have hsz := hb.size
    by_cases hlt : i < n
    · obtain ⟨ad, rfl, hadb, hcell⟩ := HI.out.at_ hlt
      have hcx := (hb.cell (p := ad.add i) (by rw [block_of_add]; exact hadb)).trans hcell
      have hj : i < xs.length := by have := HL.out; omega
      have hx : -70000 ≤ xs.getD i 0 ∧ xs.getD i 0 ≤ 70000 := by
        rw [List.getD_eq_getElem?_getD, List.getElem?_eq_getElem hj]
        exact HSM.out _ (List.getElem_mem hj)
      have HTK : Hid ((xs.take (i + 1)).map (fun x => -x) = (xs.take i).map (fun x => -x) ++ [-(xs.getD i 0)]) := by
        show (xs.take (i + 1)).map (fun x => -x) = _
        rw [List.take_add_one, List.map_append, List.getD_eq_getElem?_getD, List.getElem?_eq_getElem hj]
        rfl
      obtain ⟨hx1, hx2⟩ := hx
      have HB := Lib.hid hb
      have HOWN := Lib.hid hown
      clear hcell hadb hj hb hown
      generalize (xs.take i).map (fun x => -x) = ys at *
      generalize xs.getD i 0 = x at *
      have z0 : (0 : Int) ≤ (i : Int) := by omega
      have z1 : (i : Int) < (n : Int) := by omega
      go_wp2_with (first
        | (at_builtin
           go_must (refine wpList_append_one _ rfl (.tmp 39) (.tmp 42) _ rfl w.heap.size 3 i0 _ 8 Try.underlying22 hi0 hz0 hz1 hz2 rfl (.slice Ab i cb) i (ys.map (Value.int .i64)) (by rfl) HOWN.out 3 (.int .i64 (-x)) 1 rfl (by rfl) (by simp only [maxLen]; omega) (by omega) hsz ?_)
           intro A9 c9 w9 ho9 hg9 hb9))
      go_roundw
      case rel => exact ⟨i + 1, A9, c9, by omega, by go_num, rfl, by rw [HTK.out, List.map_append]; exact ho9, HB.out.grown hg9 hsz (fun g hg => own_lower' HOWN.out g hg)⟩
      case measure => simp [intOf]; omega
    · obtain rfl : n = i := by omega
      rw [List.take_of_length_le (by have := HL.out; omega)] at hown
      have hI2 := Ints.of_ownLt hown
      have hf2 : Fits (xs.map (fun x => -x)) := fun y hy => by
        obtain ⟨x, hx, rfl⟩ := List.mem_map.1 hy
        have := HSM.out x hx
        simp [Lit.wf, IntKind.min, IntKind.max, IntKind.signed, IntKind.bits]; omega
      have call := refLeast_any wr n cb Ab (xs.map (fun x => -x)) t next hI2 hf2
      have hres : leastR (xs.map (fun x => -x)) ((xs.length : Int) - min (max k (-1)) (xs.length : Int)) next = leastR (xs.map (fun x => -x)) t next := by rw [← HL.out, HT.out]
      have HRES := Lib.hid hres
      have HB := Lib.hid hb
      generalize leastR (xs.map (fun x => -x)) t next = RR at *
      obtain ⟨cs, after, err⟩ := RR
      have CALL := Lib.hid call
      clear hown hI2 hf2 hres hb call hi hlt
      go_wp2_with (fail)
      (with_reducible refine CALL.out.mono ?_)
      rintro e w3 ⟨A3, n3, c3, rfl, ho3, hb3⟩
      go_wp2_with (fail)
      refine bodyPost_ret (v := .tuple #[.slice A3 n3 c3, .int .i64 after, .int .i64 err]) (by simp [results, Try.results17, go_sem]) rfl ?_
      rw [HRES.out]
      exact ⟨A3, n3, c3, rfl, ho3.base HB.out.size, below_then HB.out hb3⟩
end Go.Proofs.Ytanbkdfffojpnaa
