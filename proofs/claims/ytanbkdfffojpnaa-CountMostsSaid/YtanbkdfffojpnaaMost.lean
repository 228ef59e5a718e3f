/-
  slices.Clone; count.Most.
-/
import Derived.Test.YtanbkdfffojpnaaLeast
namespace Go.Proofs.Ytanbkdfffojpnaa
open Go.RowKit

set_option maxHeartbeats 1000000 in
theorem clone_nil (w : World) (c : Nat) : Calls Try.prog 31 #[.slice none 0 c] w (RetIntsNew w []) := by
  have hq := Lib.run_eql_slice_nil (P := Try.prog) w 22 3 none 0 c 0 0 Try.underlying22
  go_enter Try.func31, Try.ntmps31
  go_wp2
  go_ret
  exact ⟨none, 0, 0, rfl, World.ownsRow_nil _ _ _ _, Below.refl _ _⟩

set_option maxHeartbeats 1000000 in
theorem clone_any (w : World) (n c : Nat) (A : Option Addr) (xs : List Int) (hI : Ints w (Lt w) A n c xs) (hn : n ≤ 1048576) :
    Calls Try.prog 31 #[.slice A n c] w (RetIntsNew w xs) := by
  have hlen := hI.len
  obtain ⟨i0, hi0, hz0, hz1, hz2⟩ := info_parts int_info
  cases A with
  | none =>
    have h0 : n = 0 := by
      rcases Nat.eq_zero_or_pos n with h | h
      · exact h
      · obtain ⟨ad, e, _⟩ := hI.at_ h; cases e
    subst h0
    have hx : xs = [] := List.eq_nil_of_length_eq_zero hI.len.symm
    subst hx
    exact clone_nil w c
  | some ad =>
    have hq := Lib.run_eql_slice_nil (P := Try.prog) w 22 3 (some ad) n c 0 0 Try.underlying22
    have hal := alloc_lt (w := w) (.cells #[] 3)
    have hrd := (hI.belowLt hal).reads
    have hown0 : (w.alloc (.cells #[] 3)).ownsRow w.heap.size 3 1 (.slice (some ⟨w.heap.size, 0, none⟩) 0 0) 0 [] := World.ownsRow_lit w #[] 0 (Nat.le_refl _) (by simp [maxLen]) rfl
    have HAL := Lib.hid hal
    clear hI hal hlen
    go_enter Try.func31, Try.ntmps31
    go_wp2_with (first
      | (at_builtin
         go_must (refine wpList_append_any _ rfl (.tmp 5) (.tmp 6) _ rfl w.heap.size 3 i0 _ 1 8 Try.underlying22 hi0 hz0 hz1 hz2 rfl (by omega) (.slice (some ⟨w.heap.size, 0, none⟩) 0 0) 0 [] (by rfl) hown0 _ (some ad) n c _ (by rfl) hrd (ints_oneCell _) (by simp only [maxLen]; omega) (by omega) (by simp) ?_)
         intro v1 w1 hown1 hg1 hat1
         obtain ⟨A1, c1, rfl⟩ := own_form hown1))
    go_ret
    have hb : Below w.heap.size w w1 := HAL.out.grown hg1 (by simp) (by simp [Value.ownBlock])
    rw [Nat.zero_add, List.nil_append] at hown1
    exact ⟨A1, n, c1, rfl, hown1, hb⟩

/-- The first i numbers negated. -/
def negP (xs : List Int) (i : Nat) : List Int := (xs.take i).map (fun x => -x) ++ xs.drop i
theorem negP_zero (xs : List Int) : negP xs 0 = xs := by simp [negP]
theorem negP_all (xs : List Int) : negP xs xs.length = xs.map (fun x => -x) := by simp [negP]
theorem negP_get {xs : List Int} {i : Nat} (h : i < xs.length) : (negP xs i)[i]? = some (xs.getD i 0) := by
  unfold negP
  rw [List.getElem?_append_right (by simp; omega)]
  simp [List.getD_eq_getElem?_getD, List.getElem?_eq_getElem h]
  rw [show i - min i xs.length = 0 by omega]
  simp [List.getElem?_eq_getElem h]
theorem negP_succ {xs : List Int} {i : Nat} (h : i < xs.length) : negP xs (i + 1) = (negP xs i).set i (-(xs.getD i 0)) := by
  unfold negP
  apply List.ext_getElem?
  intro j
  rw [List.getElem?_set]
  by_cases hj : i = j
  · subst hj
    rw [if_pos rfl, if_pos (by simp; omega)]
    rw [List.getElem?_append_left (by simp; omega)]
    simp [List.getElem?_take, List.getD_eq_getElem?_getD, List.getElem?_eq_getElem h]
  · rw [if_neg hj]
    by_cases hlt : j < i
    · rw [List.getElem?_append_left (by simp; omega), List.getElem?_append_left (by simp; omega)]
      simp [List.getElem?_take, hlt, Nat.lt_succ_of_lt hlt]
    · rw [List.getElem?_append_right (by simp; omega), List.getElem?_append_right (by simp; omega)]
      simp only [List.length_map, List.length_take, List.getElem?_drop]
      congr 1; omega
theorem mostR_bad {l : List Int} {k next : Int} (h : rightR l next ≠ 0) : mostR l k next = ⟨[], 0, rightR l next⟩ := by rw [mostR, if_pos h]
theorem mostR_ok {l : List Int} {k next : Int} (h : rightR l next = 0) : mostR l k next = leastR (l.map (fun x => -x)) (l.length - min (max k (-1)) l.length) next := by rw [mostR, if_neg (by simp [h])]
theorem right_good {xs : List Int} {next : Int} (hr : rightR xs next = 0) : 1 ≤ next ∧ next ≤ 65537 ∧ xs.length ≤ 4096 ∧ apartB next xs = true := by
  unfold rightR at hr
  by_cases hb : next < 1 ∨ 65537 < next ∨ 4096 < xs.length
  · rw [if_pos hb] at hr; omega
  · rw [if_neg hb] at hr
    by_cases ha : apartB next xs = true
    · exact ⟨by omega, by omega, by omega, ha⟩
    · rw [if_neg ha] at hr; omega

set_option maxHeartbeats 2000000 in
set_option maxRecDepth 100000 in
theorem most_any (w : World) (n c : Nat) (A : Option Addr) (xs : List Int) (k next : Int) (hI : Ints w (Lt w) A n c xs) (hf : Fits xs) (hk : (Lit.int .i64 k).wf = true) :
    Calls Try.prog 16 #[.slice A n c, .int .i64 k, .int .i64 next] w (RetLeast w (mostR xs k next)) := by
  have hlen := hI.len
  have hcap := hI.cap
  have hmax := hI.max
  unfold maxLen at hmax
  have hkb : -9223372036854775808 ≤ k ∧ k ≤ 9223372036854775807 := by simpa [Lit.wf, IntKind.min, IntKind.max, IntKind.signed, IntKind.bits] using hk
  clear hk
  have call := right_any w n c A xs next hI hf
  by_cases hr : rightR xs next = 0
  case neg =>
    rw [mostR_bad hr]
    have hne : (rightR xs next != 0) = true := by simpa using hr
    generalize rightR xs next = er at *
    have CALL := Lib.hid call
    clear hI hf hlen call
    go_enter Try.func16, Try.ntmps16
    go_wp2_with (fail)
    (with_reducible refine CALL.out.mono ?_)
    rintro e w1 ⟨rfl, hb1⟩
    go_wp2
    exact bodyPost_ret (v := .tuple #[.slice none 0 0, .int .i64 0, .int .i64 er]) (by simp [results, Try.results16, go_sem]) rfl (retLeast_nil hb1)
  rw [mostR_ok hr]
  obtain ⟨hn1, hn2, hn4, hap⟩ := right_good hr
  rw [hr] at call
  have hsm : ∀ x ∈ xs, -70000 ≤ x ∧ x ≤ 70000 := fun x hx => by have := (apartG_mem16 hap x hx).1; omega
  have hn4' : n ≤ 4096 := by omega
  have CALL := Lib.hid call
  have HI := Lib.hid hI
  have HSM := Lib.hid hsm
  have HL := Lib.hid hlen
  clear call hI hf hr hap hsm hn4 hlen
  go_enter Try.func16, Try.ntmps16
  go_wp2_with (fail)
  (with_reducible refine CALL.out.mono ?_)
  rintro e w1 ⟨rfl, hb1⟩
  go_wp2_with (fail)
  (with_reducible refine (clone_any w1 n c A xs (HI.out.belowLt hb1) (by omega)).mono ?_)
  rintro e w2 ⟨A2, n2, c2, rfl, ho2, hb2⟩
  obtain rfl : n = n2 := by have := ho2.1; have := HL.out; simp at *; omega
  have HB2 := Lib.hid (below_then hb1 hb2)
  have HO2 := Lib.hid (own_base ho2 hb1.size)
  clear ho2 hb1 hb2 CALL
  go_wp2
  go_loopw [23] (fun v wr => ∃ i : Nat, i ≤ n ∧ v = .int .i64 i ∧ wr.ownsRow w.heap.size 3 1 (.slice A2 n c2) n ((negP xs i).map (Value.int .i64)) ∧ Below w.heap.size w wr) (fun v _ => n - (intOf v).toNat)
  case atStart => exact ⟨0, Nat.zero_le _, rfl, by rw [negP_zero]; exact HO2.out, HB2.out⟩
  case round =>
    clear HO2 HB2
    obtain ⟨i, hi, rfl, hown, hb⟩ := hrel
    by_cases hlt : i < n
    · obtain ⟨g, cap, hv, hgb, _⟩ := hown.form (by omega)
      injection hv with hA _ hcc
      subst hA hcc
      have hcell : wr.cell? ⟨g, i, none⟩ = some (.int .i64 (xs.getD i 0)) := by
        rw [hown.cellAt i (by omega), List.getElem?_map, negP_get (by have := HL.out; omega)]; rfl
      have hfz := hown.frozenAt i
      have hst := hown.stored i (.int .i64 (-(xs.getD i 0)))
      have hx : -70000 ≤ xs.getD i 0 ∧ xs.getD i 0 ≤ 70000 := by
        have hj : i < xs.length := by have := HL.out; omega
        rw [List.getD_eq_getElem?_getD, List.getElem?_eq_getElem hj]
        exact HSM.out _ (List.getElem_mem hj)
      have hst' : (wr.setCell ⟨g, i, none⟩ (.int .i64 (-(xs.getD i 0)))).ownsRow w.heap.size 3 1 (.slice (some ⟨g, 0, none⟩) n c2) n ((negP xs (i + 1)).map (Value.int .i64)) := by
        rw [negP_succ (by have := HL.out; omega), List.map_set]; exact hst.1
      have HST := Lib.hid hst'
      have HB := Lib.hid hb
      clear hst hst' hown hb
      obtain ⟨hx1, hx2⟩ := hx
      generalize xs.getD i 0 = x at *
      go_wp2
      go_roundw
      case rel => exact ⟨i + 1, by omega, by go_num, HST.out, HB.out.setCell hgb _⟩
      case measure => simp [intOf]; omega
    · obtain rfl : n = i := by omega
      have hneg : negP xs n = xs.map (fun x => -x) := by rw [HL.out]; exact negP_all xs
      rw [hneg] at hown
      have hI2 := Ints.of_ownLt hown
      have hf2 : Fits (xs.map (fun x => -x)) := fun y hy => by
        obtain ⟨x, hx, rfl⟩ := List.mem_map.1 hy
        have := HSM.out x hx
        simp [Lit.wf, IntKind.min, IntKind.max, IntKind.signed, IntKind.bits]; omega
      obtain ⟨t, ht⟩ : ∃ t : Int, t = min (max k (-1)) (n : Int) := ⟨_, rfl⟩
      have htb : -1 ≤ t ∧ t ≤ n := by omega
      have call := least_any wr n c2 A2 (xs.map (fun x => -x)) ((n : Int) - t) next hI2 hf2 (by simp [Lit.wf, IntKind.min, IntKind.max, IntKind.signed, IntKind.bits]; omega)
      have hres : leastR (xs.map (fun x => -x)) ((xs.length : Int) - min (max k (-1)) (xs.length : Int)) next = leastR (xs.map (fun x => -x)) ((n : Int) - t) next := by rw [← HL.out, ht]
      have HRES := Lib.hid hres
      have HB := Lib.hid hb
      generalize leastR (xs.map (fun x => -x)) ((n : Int) - t) next = RR at *
      obtain ⟨cs, after, err⟩ := RR
      have CALL := Lib.hid call
      clear hneg hown hI2 hf2 hres hb call
      by_cases h1 : k < -1
      · obtain rfl : t = -1 := by omega
        rw [show (n : Int) - -1 = (n : Int) + 1 by omega] at CALL
        clear ht
        go_wp2_with (fail)
        (with_reducible refine CALL.out.mono ?_)
        rintro e w3 ⟨A3, n3, c3, rfl, ho3, hb3⟩
        go_wp2_with (fail)
        refine bodyPost_ret (v := .tuple #[.slice A3 n3 c3, .int .i64 after, .int .i64 err]) (by simp [results, Try.results16, go_sem]) rfl ?_
        rw [HRES.out]
        exact ⟨A3, n3, c3, rfl, ho3.base HB.out.size, below_then HB.out hb3⟩
      by_cases h2 : (n : Int) < k
      · obtain rfl : t = n := by omega
        rw [show (n : Int) - (n : Int) = 0 by omega] at CALL
        clear ht
        go_wp2_with (fail)
        (with_reducible refine CALL.out.mono ?_)
        rintro e w3 ⟨A3, n3, c3, rfl, ho3, hb3⟩
        go_wp2_with (fail)
        refine bodyPost_ret (v := .tuple #[.slice A3 n3 c3, .int .i64 after, .int .i64 err]) (by simp [results, Try.results16, go_sem]) rfl ?_
        rw [HRES.out]
        exact ⟨A3, n3, c3, rfl, ho3.base HB.out.size, below_then HB.out hb3⟩
      · obtain rfl : t = k := by omega
        clear ht
        go_wp2_with (fail)
        (with_reducible refine CALL.out.mono ?_)
        rintro e w3 ⟨A3, n3, c3, rfl, ho3, hb3⟩
        go_wp2_with (fail)
        refine bodyPost_ret (v := .tuple #[.slice A3 n3 c3, .int .i64 after, .int .i64 err]) (by simp [results, Try.results16, go_sem]) rfl ?_
        rw [HRES.out]
        exact ⟨A3, n3, c3, rfl, ho3.base HB.out.size, below_then HB.out hb3⟩
end Go.Proofs.Ytanbkdfffojpnaa
