/-
  chalklineref19: Lits, by, Levels, Back.
-/
import Derived.Test.YtelgabamdhaplaaRef14
import Derived.Test.YtelgabamdhaplaaPropLaw
namespace Go.Proofs.Ytelgabamdhaplaa
open Go.RowKit

theorem lits_len (ts : List TStep) : (lits ts).length = ts.length := by unfold lits; simp
theorem lits_take (ts : List TStep) (k : Nat) : lits (ts.take k) = (lits ts).take k := by unfold lits; rw [List.map_take]
theorem lits_snoc {ts : List TStep} {k : Nat} (h : k < ts.length) : (lits ts).take (k + 1) = (lits ts).take k ++ [(ts.getD k (0, 0)).1] := by
  rw [← lits_take, ← lits_take, List.take_succ_eq_append_getElem h, List.getD_eq_getElem?_getD, List.getElem?_eq_getElem h]
  unfold lits; rw [List.map_append]; rfl

set_option maxHeartbeats 2000000 in
set_option maxRecDepth 100000 in
theorem lits_any (w : World) (A : Option Addr) (n c : Nat) (ts : List TStep) (h : Steps w A n c ts) (hn : n ≤ 100000) : Calls Try.prog 22 #[.slice A n c] w (RetIntsNew w (lits ts)) := by
  have hcap := h.cap
  have hmax := h.max
  unfold maxLen at hmax
  have HS := Lib.hid h
  have HL := Lib.hid h.len
  obtain ⟨i0, hi0, hz0, hz1, hz2⟩ := info_parts int_info
  clear h
  go_enter Try.func22, Try.ntmps22
  go_wp2
  go_loopw [3, 4] (fun v3 v4 wr => ∃ (k : Nat) (A2 : Option Addr) (c2 : Nat), k ≤ n ∧ v4 = .int .i64 k ∧ v3 = .slice A2 k c2 ∧ wr.ownsRow w.heap.size 3 1 (.slice A2 k c2) k (((lits ts).take k).map (Value.int .i64)) ∧ Below w.heap.size w wr) (fun _ v4 _ => n - (intOf v4).toNat)
  case atStart => exact ⟨0, none, 0, Nat.zero_le _, rfl, rfl, World.ownsRow_nil _ _ _ _, Below.refl _ _⟩
  case round =>
    obtain ⟨k, A2, c2, hk, rfl, rfl, hown, hb⟩ := hrel
    by_cases hlt : k < n
    · obtain ⟨ad, rfl, hadS, hc1, hc2⟩ := HS.out.at_ hlt
      have e1 := (hb.cell (p := ad.add (k * 2)) (by rw [block_of_add]; exact hadS)).trans hc1
      have HLT := Lib.hid (lits_snoc (show k < ts.length by have := HL.out; omega))
      have hbw := hb.size
      have z1 : (0 : Int) ≤ (k : Int) := by omega
      have z2 : (k : Int) < (n : Int) := by omega
      clear hadS hc1 hc2
      generalize ts.getD k (0, 0) = p at *
      obtain ⟨li, wy⟩ := p
      go_wp2_with (first
        | (at_builtin
           go_must (refine wpList_append_one _ rfl (.tmp 11) (.tmp 17) _ rfl w.heap.size 3 i0 _ 8 Try.underlying29 hi0 hz0 hz1 hz2 rfl (.slice A2 k c2) k (((lits ts).take k).map (Value.int .i64)) (by rfl) hown 3 (.int .i64 li) 1 rfl (by rfl) (by simp only [maxLen]; omega) (by omega) hbw ?_)
           intro A9 c9 w9 ho9 hg9 hb9))
      have HB9 := Lib.hid (hb.grown hg9 hbw (fun g hg => (hown.lt g hg).1))
      have HO9 : Hid (w9.ownsRow w.heap.size 3 1 (.slice A9 (k + 1) c9) (k + 1) (((lits ts).take (k + 1)).map (Value.int .i64))) := by
        show w9.ownsRow w.heap.size 3 1 (.slice A9 (k + 1) c9) (k + 1) (((lits ts).take (k + 1)).map (Value.int .i64))
        rw [HLT.out, List.map_append]; exact ho9
      clear ho9 hg9 hb9 hown hb
      go_roundw
      case rel => exact ⟨k + 1, A9, c9, by omega, by go_num, rfl, HO9.out, HB9.out⟩
      case measure => simp [intOf]; omega
    · obtain rfl : n = k := by omega
      have hfull : (lits ts).take n = lits ts := List.take_of_length_le (by rw [lits_len]; have := HL.out; omega)
      rw [hfull] at hown
      have HO := Lib.hid hown
      have HB := Lib.hid hb
      clear hown hb hfull
      go_wp2
      go_ret
      exact ⟨A2, n, c2, rfl, HO.out, HB.out⟩

set_option maxHeartbeats 2000000 in
set_option maxRecDepth 100000 in
theorem levels19_any (w : World) (A : Option Addr) (n c : Nat) (ts : List TStep) (h : Steps w A n c ts) (hn : n ≤ 100000) : Calls Try.prog 15 #[.slice A n c] w (RetIntsNew w (levR ts)) := by
  have hcap := h.cap
  have hmax := h.max
  unfold maxLen at hmax
  have HS := Lib.hid h
  have HL := Lib.hid h.len
  obtain ⟨i0, hi0, hz0, hz1, hz2⟩ := info_parts int_info
  clear h
  go_enter Try.func15, Try.ntmps15
  go_wp2
  go_loopw [3, 4, 5] (fun v3 v4 v5 wr => ∃ (k : Nat) (A2 : Option Addr) (c2 : Nat), k ≤ n ∧ v5 = .int .i64 k ∧ v4 = .int .i64 (decs (ts.take k)) ∧ v3 = .slice A2 k c2 ∧ wr.ownsRow w.heap.size 3 1 (.slice A2 k c2) k (((levR ts).take k).map (Value.int .i64)) ∧ Below w.heap.size w wr) (fun _ _ v5 _ => n - (intOf v5).toNat)
  case atStart => exact ⟨0, none, 0, Nat.zero_le _, rfl, rfl, rfl, World.ownsRow_nil _ _ _ _, Below.refl _ _⟩
  case round =>
    obtain ⟨k, A2, c2, hk, rfl, rfl, rfl, hown, hb⟩ := hrel
    have hdl := decs_le (ts.take k)
    rw [List.length_take] at hdl
    by_cases hlt : k < n
    · obtain ⟨ad, rfl, hadS, hc1, hc2⟩ := HS.out.at_ hlt
      have e1 := (hb.cell (p := ad.add (k * 2)) (by rw [block_of_add]; exact hadS)).trans hc1
      have e2 := (hb.cell (p := ⟨(ad.add (k * 2)).block, (ad.add (k * 2)).off + 1, none⟩) (by show (ad.add (k * 2)).block < _; rw [block_of_add]; exact hadS)).trans hc2
      have hsn := decs_snoc (show k < ts.length by have := HL.out; omega)
      have HLT := Lib.hid (levR_take (show k < ts.length by have := HL.out; omega))
      obtain ⟨q, hq⟩ : ∃ q, q = decs (ts.take (k + 1)) := ⟨_, rfl⟩
      rw [← hq] at hsn HLT
      have HQ := Lib.hid hq
      have z1 : (0 : Int) ≤ (k : Int) := by omega
      have z2 : (k : Int) < (n : Int) := by omega
      clear hadS hc1 hc2 hq
      generalize ts.getD k (0, 0) = p at *
      obtain ⟨li, wy⟩ := p
      generalize hP : decs (ts.take k) = P at *
      have hP9 : P ≤ 100000 := by omega
      have hq9 : q ≤ 100001 := by rw [hsn]; split <;> omega
      have HSN := Lib.hid hsn
      clear hP hdl hsn
      obtain ⟨wa, hwa⟩ : ∃ wa, wa = wr := ⟨_, rfl⟩
      go_upto_if 17 with (fail)
      rw [← hwa] at hb hown e1 e2 ⊢
      have hbw := hb.size
      clear hwa e1 e2
      go_cut [4] (fun v wx => v = .int .i64 q ∧ wa = wx)
      case first =>
        have hsn := HSN.out
        by_cases hw : wy = -1
        · rw [if_pos hw] at hsn
          subst hw hsn
          go_wp2
          go_meet
          case rel => exact ⟨by go_num, rfl⟩
        · rw [if_neg hw] at hsn
          obtain rfl : q = P := by omega
          clear hsn
          have hwb : (wy == -1) = false := by simpa using hw
          go_wp2
          go_meet
          case rel => exact ⟨rfl, rfl⟩
      obtain ⟨rfl, rfl⟩ := hcut
      go_wp2_with (first
        | (at_builtin
           go_must (refine wpList_append_one _ rfl (.tmp 20) (.tmp 22) _ rfl w.heap.size 3 i0 _ 8 Try.underlying29 hi0 hz0 hz1 hz2 rfl (.slice A2 k c2) k (((levR ts).take k).map (Value.int .i64)) (by rfl) hown 3 (.int .i64 q) 1 rfl (by rfl) (by simp only [maxLen]; omega) (by omega) hbw ?_)
           intro A9 c9 w9 ho9 hg9 hb9))
      have HB9 := Lib.hid (hb.grown hg9 hbw (fun g hg => (hown.lt g hg).1))
      have HO9 : Hid (w9.ownsRow w.heap.size 3 1 (.slice A9 (k + 1) c9) (k + 1) (((levR ts).take (k + 1)).map (Value.int .i64))) := by
        show w9.ownsRow w.heap.size 3 1 (.slice A9 (k + 1) c9) (k + 1) (((levR ts).take (k + 1)).map (Value.int .i64))
        rw [HLT.out, List.map_append]; exact ho9
      clear ho9 hg9 hb9 hown hb
      go_roundw
      case rel => exact ⟨k + 1, A9, c9, by omega, by go_num, by rw [HQ.out], rfl, HO9.out, HB9.out⟩
      case measure => simp [intOf]; omega
    · obtain rfl : n = k := by omega
      have hfull : (levR ts).take n = levR ts := List.take_of_length_le (by unfold levR; rw [levG_len]; have := HL.out; omega)
      rw [hfull] at hown
      have HO := Lib.hid hown
      have HB := Lib.hid hb
      generalize decs (ts.take n) = P at *
      clear hown hb hfull
      go_wp2
      go_ret
      exact ⟨A2, n, c2, rfl, HO.out, HB.out⟩

set_option maxHeartbeats 2000000 in
set_option maxRecDepth 100000 in
theorem back19_any (w : World) (A : Option Addr) (n c : Nat) (ts : List TStep) (level : Int) (h : Steps w A n c ts) (hn : n ≤ 100000) : Calls Try.prog 18 #[.slice A n c, .int .i64 level] w (RetSteps w (backR ts level)) := by
  have hcap := h.cap
  have hmax := h.max
  unfold maxLen at hmax
  have HS := Lib.hid h
  have HL := Lib.hid h.len
  have CALL := Lib.hid (levels19_any w A n c ts h hn)
  obtain ⟨i0, hi0, hz0, hz1, hz2⟩ := info_parts' step_info
  clear h
  go_enter Try.func18, Try.ntmps18
  go_wp2_with (fail)
  (with_reducible refine CALL.out.mono ?_)
  rintro e w1 ⟨A1, n1, c1, rfl, ho1, hb1⟩
  obtain rfl : n1 = n := by have := ho1.1; rw [List.length_map, levR, levG_len] at this; have := HL.out; omega
  have HB1 := Lib.hid hb1
  have HI1 := Lib.hid (Ints.of_ownLt ho1)
  have hcap1 := (Ints.of_ownLt ho1).cap
  have hmax1 := (Ints.of_ownLt ho1).max
  unfold maxLen at hmax1
  clear ho1 hb1 CALL
  go_wp2
  go_loopw [5, 7] (fun v5 v7 wr => ∃ (k m : Nat) (A2 : Option Addr) (c2 : Nat), k ≤ n1 ∧ v7 = .int .i64 k ∧ v5 = .slice A2 m c2 ∧ wr.ownsRow w1.heap.size 39 2 (.slice A2 m c2) m (flat (backG level (ts.take k) ((levR ts).take k))) ∧ Below w1.heap.size w1 wr) (fun _ v7 _ => n1 - (intOf v7).toNat)
  case atStart => exact ⟨0, 0, none, 0, Nat.zero_le _, rfl, rfl, World.ownsRow_nil _ _ _ _, Below.refl _ _⟩
  case round =>
    obtain ⟨k, m, A2, c2, hk, rfl, rfl, hown, hb⟩ := hrel
    have hlm : m ≤ k := by
      have h1 := hown.1
      rw [flat_len] at h1
      have h2 := backG_len (level := level) (ts.take k) ((levR ts).take k)
      rw [List.length_take] at h2
      omega
    by_cases hlt : k < n1
    · obtain ⟨ad, rfl, hadS, hc1, hc2⟩ := HS.out.at_ hlt
      have hB := below_then HB1.out hb
      have e1 := (hB.cell (p := ad.add (k * 2)) (by rw [block_of_add]; exact hadS)).trans hc1
      have e2 := (hB.cell (p := ⟨(ad.add (k * 2)).block, (ad.add (k * 2)).off + 1, none⟩) (by show (ad.add (k * 2)).block < _; rw [block_of_add]; exact hadS)).trans hc2
      obtain ⟨ad1, rfl, hadS1, hc3⟩ := HI1.out.at_ hlt
      have e3 := (hb.cell (p := ad1.add k) (by rw [block_of_add]; exact hadS1)).trans hc3
      have hsn := backG_snoc (level := level) (ts := ts) (ns := levR ts) (k := k) (by unfold levR; rw [levG_len]) (by have := HL.out; omega)
      have HSN := Lib.hid hsn
      have hbw := hb.size
      have z1 : (0 : Int) ≤ (k : Int) := by omega
      have z2 : (k : Int) < (n1 : Int) := by omega
      clear hadS hc1 hc2 hadS1 hc3 hsn hB
      generalize ts.getD k (0, 0) = p at *
      obtain ⟨li, wy⟩ := p
      generalize (levR ts).getD k 0 = lv at *
      generalize backG level (ts.take k) ((levR ts).take k) = cur at *
      by_cases hlv : lv ≤ level
      · have hs2 := HSN.out
        rw [if_pos hlv] at hs2
        have HS2 := Lib.hid hs2
        clear hs2
        go_wp2_with (first
          | (at_builtin
             go_must (refine wpList_append_step _ rfl (.tmp 22) (.tmp 27) _ rfl w1.heap.size 39 i0 _ 16 Try.underlying25 hi0 hz0 hz1 hz2 rfl (.slice A2 m c2) m cur (by rfl) hown 39 li wy 1 (by rfl) (by simp only [maxLen]; omega) (by omega) hbw ?_)
             intro A9 c9 w9 ho9 hg9 hb9))
        have HB9 := Lib.hid (hb.grown hg9 hbw (fun g hg => (hown.lt g hg).1))
        have HO9 := Lib.hid ho9
        clear ho9 hg9 hb9 hown hb
        go_roundw
        case rel => exact ⟨k + 1, m + 1, A9, c9, by omega, by go_num, rfl, by rw [HS2.out]; exact HO9.out, HB9.out⟩
        case measure => simp [intOf]; omega
      · have hs2 := HSN.out
        rw [if_neg hlv, List.append_nil] at hs2
        have HS2 := Lib.hid hs2
        have HO := Lib.hid hown
        have HB := Lib.hid hb
        clear hs2 hown hb
        go_wp2
        go_roundw
        case rel => exact ⟨k + 1, m, A2, c2, by omega, by go_num, rfl, by rw [HS2.out]; exact HO.out, HB.out⟩
        case measure => simp [intOf]; omega
    · obtain rfl : n1 = k := by omega
      have h1 : ts.take n1 = ts := List.take_of_length_le (by have := HL.out; omega)
      have h2 : (levR ts).take n1 = levR ts := List.take_of_length_le (by unfold levR; rw [levG_len]; have := HL.out; omega)
      rw [h1, h2] at hown
      have HO := Lib.hid (own_base hown HB1.out.size)
      have HB := Lib.hid (below_then HB1.out hb)
      clear hown hb h1 h2
      go_wp2
      go_ret
      exact ⟨A2, m, c2, rfl, HO.out, HB.out⟩

theorem byAny_snoc {p : Int → Bool} {xs : List Int} {k : Nat} (hk : k < xs.length) (h0 : (xs.take k).any p = false) (h1 : p (xs.getD k 0) = false) : (xs.take (k + 1)).any p = false := by
  rw [List.getD_eq_getElem?_getD, List.getElem?_eq_getElem hk] at h1
  rw [List.take_succ_eq_append_getElem hk, List.any_append, h0]
  simpa using h1

set_option maxHeartbeats 2000000 in
set_option maxRecDepth 100000 in
theorem by_any (w : World) (A : Option Addr) (n c : Nat) (l : List Int) (lit : Int) (A' : Option Addr) (n' c' : Nat) (known : List Int) (h1 : Ints w (Lt w) A n c l) (h2 : Ints w (Lt w) A' n' c' known) (hl : ∀ x ∈ l, -65536 ≤ x ∧ x ≤ 65536) :
    Calls Try.prog 40 #[.slice A n c, .int .i64 lit, .slice A' n' c'] w (RetBoolSame w (byOK l lit known)) := by
  have hcap := h1.cap
  have hmax := h1.max
  unfold maxLen at hmax
  have HI := Lib.hid h1
  have HL := Lib.hid h1.len
  have HX := Lib.hid hl
  have HAS := Lib.hid (fun x => has_any w n' c' A' known x h2)
  have HAL := Lib.hid (has_any w n c A l lit h1)
  have HBY : Hid (byOK l lit known = (decide (lit ∈ l) && !(l.any (openB known lit)))) := rfl
  clear h1 h2 hl
  generalize byOK l lit known = res at *
  go_enter Try.func40, Try.ntmps40
  go_wp2
  go_loopw [7] (fun v wr => ∃ k : Nat, k ≤ n ∧ v = .int .i64 k ∧ (l.take k).any (openB known lit) = false ∧ w = wr) (fun v _ => n - (intOf v).toNat)
  case atStart => exact ⟨0, Nat.zero_le _, rfl, by simp, rfl⟩
  case round =>
    obtain ⟨k, hk, rfl, hany, rfl⟩ := hrel
    have HA := Lib.hid hany
    clear hany
    by_cases hlt : k < n
    · obtain ⟨ad, rfl, hadS, hcell⟩ := HI.out.at_ hlt
      have hmem : l.getD k 0 ∈ l := by rw [List.getD_eq_getElem?_getD, List.getElem?_eq_getElem (by have := HL.out; omega)]; simp
      have hbd := HX.out _ hmem
      have z1 : (0 : Int) ≤ (k : Int) := by omega
      have z2 : (k : Int) < (n : Int) := by omega
      by_cases hxl : l.getD k 0 = lit
      · have hq : (l.getD k 0 != lit) = false := by simpa using hxl
        have HN := Lib.hid (byAny_snoc (p := openB known lit) (by have := HL.out; omega) HA.out (by unfold openB; simp only [beq_iff_eq.2 hxl]; rfl))
        clear hxl hmem hadS
        generalize l.getD k 0 = x at *
        go_wp2
        go_roundw
        case rel => exact ⟨k + 1, by omega, by go_num, HN.out, trivial⟩
        case measure => simp [intOf]; omega
      have hq : (l.getD k 0 != lit) = true := by simpa using hxl
      have hq2 : (l.getD k 0 == lit) = false := by simpa using hxl
      have CALL := Lib.hid (HAS.out (-(l.getD k 0)))
      by_cases hmk : -(l.getD k 0) ∈ known
      · have HN := Lib.hid (byAny_snoc (p := openB known lit) (by have := HL.out; omega) HA.out (by unfold openB; rw [decide_eq_true hmk]; simp))
        rw [show decide (-(l.getD k 0) ∈ known) = true by simpa using hmk] at CALL
        clear hxl hmem hadS hmk
        generalize l.getD k 0 = x at *
        go_wp2_with (fail)
        (with_reducible refine CALL.out.mono ?_)
        rintro e w1 ⟨rfl, rfl⟩
        go_wp2
        go_roundw
        case rel => exact ⟨k + 1, by omega, by go_num, HN.out, trivial⟩
        case measure => simp [intOf]; omega
      · have HN : Hid (res = false) := by
          show res = false
          rw [HBY.out]
          have : l.any (openB known lit) = true := List.any_eq_true.2 ⟨_, hmem, by unfold openB; rw [hq2, decide_eq_false hmk]; rfl⟩
          rw [this]; simp
        rw [show decide (-(l.getD k 0) ∈ known) = false by simpa using hmk] at CALL
        clear hxl hmem hadS hmk
        generalize l.getD k 0 = x at *
        go_wp2_with (fail)
        (with_reducible refine CALL.out.mono ?_)
        rintro e w1 ⟨rfl, rfl⟩
        go_wp2
        go_ret
        exact ⟨by rw [HN.out]; rfl, rfl⟩
    · have HN : Hid (res = decide (lit ∈ l)) := by
        show res = _
        have := HA.out
        rw [List.take_of_length_le (by have := HL.out; omega)] at this
        rw [HBY.out, this]; simp
      generalize decide (lit ∈ l) = r at *
      go_wp2_with (fail)
      (with_reducible refine HAL.out.mono ?_)
      rintro e w1 ⟨rfl, rfl⟩
      go_wp2
      go_ret
      exact ⟨by rw [HN.out]; rfl, rfl⟩
end Go.Proofs.Ytelgabamdhaplaa
