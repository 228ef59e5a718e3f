/-
  chalklinelaw19.PropSound: the walk.
-/
import Derived.Test.YtelgabamdhaplaaTotalAsg
import Derived.Test.YtelgabamdhaplaaTruths
namespace Go.Proofs.Ytelgabamdhaplaa
open Go.RowKit

/-- Do the decisions of a trail hold? -/
def decsB (a : List Bool) (ts : List TStep) : Bool := ts.all fun p => decide (0 ≤ p.2) || litT p.1 a
theorem decsB_snoc {a : List Bool} {ts : List TStep} {k : Nat} (h : k < ts.length) : decsB a (ts.take (k + 1)) = (decsB a (ts.take k) && (decide (0 ≤ (ts.getD k (0, 0)).2) || litT (ts.getD k (0, 0)).1 a)) := by
  unfold decsB
  rw [List.take_succ_eq_append_getElem h, List.all_append, List.getD_eq_getElem?_getD, List.getElem?_eq_getElem h]
  simp
theorem decsB_all {a : List Bool} {ts : List TStep} (h : decsB a ts = true) : ∀ p ∈ ts, p.2 < 0 → litT p.1 a = true := fun p hp h0 => by
  unfold decsB at h
  have := List.all_eq_true.1 h p hp
  simp only [Bool.or_eq_true, decide_eq_true_eq] at this
  rcases this with h | h
  · omega
  · exact h
theorem holdsT_one (x : Int) (a : List Bool) : holdsT [x] a = litT x a := by unfold holdsT; simp
theorem holds_lit (w : World) (x : Int) (A' : Option Addr) (n' c' : Nat) (a : List Bool) (hB : Bools w A' n' c' a) :
    Calls Try.prog 31 #[.slice (some ⟨w.heap.size, 0, none⟩) 1 1, .slice A' n' c'] (w.alloc (.cells #[.int .i64 x] 3)) (RetBoolBelow w (litT x a)) := by
  have h := holds_any _ _ 1 1 [x] A' n' c' a (lit_ints w [x] (by simp [maxLen])) (hB.belowLt (alloc_lt _))
  rw [holdsT_one] at h
  exact h.mono fun _ _ ⟨he, hb⟩ => ⟨he, below_then (alloc_lt _) hb⟩

set_option maxHeartbeats 8000000 in
set_option maxRecDepth 100000 in
theorem sound_walk (w : World) (N : Int) (A : Option Addr) (n c : Nat) (cs : List (List Int)) (A' : Option Addr) (m c' : Nat) (ts : List TStep) (h1 : InCnf w N A n c cs) (h2 : InSteps w A' m c' ts) :
    Calls Try.prog 9 #[.agg #[.int .i64 N, .slice A n c], .slice A' m c'] w (RetBoolBelow w true) := by
  obtain ⟨W, hW⟩ : ∃ W, W = w.alloc (.cells #[.int .i64 N, .slice A n c] 24) := ⟨_, rfl⟩
  have hs : BS w N A n c cs A' m c' ts W := by rw [hW]; exact BS.start h1.rows h2.steps
  have hlen := h2.steps.len
  have hcap := h2.steps.cap
  have hmax := h2.steps.max
  unfold maxLen at hmax
  have HL := Lib.hid hlen
  have HS := Lib.hid hs
  have LIVE := Lib.hid (live_any W)
  clear h1 h2 hlen hs
  go_enter Try.func9, Try.ntmps9
  go_upto_region 1 with (fail)
  rw [← hW]
  clear hW
  go_wp2_with (fail)
  (with_reducible refine LIVE.out.mono ?_)
  rintro e w1 ⟨rfl, hb1⟩
  have HS1 := Lib.hid (HS.out.to hb1)
  have c0 := HS1.out.c0
  have c1 := HS1.out.c1
  have FEW := Lib.hid (few19 w1 N A n c cs A' m c' HS1.out.rows)
  clear hb1 LIVE HS
  go_wp2_with (fail)
  (with_reducible refine FEW.out.mono ?_)
  rintro e w2 ⟨b, rfl, hbn, hb2⟩
  have HS2 := Lib.hid (HS1.out.to hb2)
  clear HS1 FEW c0 c1 hb2
  cases b
  case false =>
    go_wp2
    go_ret
    exact ⟨rfl, HS2.out.bel⟩
  obtain ⟨hn, hm⟩ := hbn rfl
  have c0 := HS2.out.c0
  have c1 := HS2.out.c1
  clear hbn
  by_cases g1 : N < 0
  · have d1 : decide (N < 0) = true := by simpa using g1
    go_wp2
    go_ret
    exact ⟨rfl, HS2.out.bel⟩
  by_cases g2 : 9 < N
  · have d1 : decide (N < 0) = false := by simpa using g1
    have d2 : decide (9 < N) = true := by simpa using g2
    go_wp2
    go_ret
    exact ⟨rfl, HS2.out.bel⟩
  have d1 : decide (N < 0) = false := by simpa using g1
  have d2 : decide (9 < N) = false := by simpa using g2
  by_cases he : checkS N cs ts = 0
  case neg =>
    have CALL := Lib.hid (prop_bad w2 N A n c cs A' m c' ts HS2.out.rows HS2.out.steps (by omega) he)
    have hq : (checkS N cs ts != 0) = true := by simpa using he
    clear he
    generalize checkS N cs ts = er at *
    go_wp2_with (fail)
    (with_reducible refine CALL.out.mono ?_)
    rintro e w3 ⟨rfl, hb3⟩
    go_wp2
    go_ret
    exact ⟨rfl, below_then HS2.out.bel hb3⟩
  obtain ⟨M, hM⟩ : ∃ M : Nat, N = M := ⟨N.toNat, by omega⟩
  subst hM
  have hM9 : M ≤ 9 := by omega
  have CALL := Lib.hid (prop_ok w2 M A n c cs A' m c' ts HS2.out.rows HS2.out.steps (by omega) he (by
    rw [Int.toNat_natCast]
    have h1 : 4 ^ (M - m) ≤ 4 ^ 9 := Nat.pow_le_pow_right (by omega) (by omega)
    have h2 := Nat.mul_le_mul (show 2 * n + 1 ≤ 401 by omega) h1
    omega))
  clear he
  go_wp2_with (fail)
  (with_reducible refine CALL.out.mono ?_)
  rintro e w5 ⟨Ax, nx, cx, x, cf, rfl, hx, hp, hb5⟩
  have HSND : Hid (∀ a, valueT M cs a = true → decsB a ts = true → cf = -1 ∧ ∀ y ∈ lits x, litT y a = true) := fun a hv hd => prop_sound hp hv (decsB_all hd)
  have HS5 := Lib.hid (HS2.out.to hb5)
  have hst := Steps.of_own hx
  have HX := Lib.hid hst
  have hcx := hst.cap
  have hmx := hst.max
  unfold maxLen at hmx
  obtain ⟨q, hq⟩ : ∃ q : Nat, q = 2 ^ M := ⟨_, rfl⟩
  have hq5 : q ≤ 512 := by rw [hq]; have := Nat.pow_le_pow_right (show 0 < 2 by omega) hM9; simpa using this
  have hpw : wrap64 ((2 : Int) ^ M) = (q : Int) := by
    have e : (2 : Int) ^ M = (q : Int) := by rw [hq]; simp
    rw [e]; exact IntWalk.wrap64_in _ (by omega)
  obtain ⟨K, hK⟩ : ∃ K, K = M + 1 := ⟨_, rfl⟩
  have HK := Lib.hid hK
  clear hx hp hb5 hst CALL HS2 c0 c1 d1 d2 g1 g2 hq hK
  go_wp2
  go_loopw [8, 9, 10, 11, 12] (fun v8 _ _ _ _ wr => ∃ k : Nat, k ≤ q ∧ v8 = .int .i64 k ∧ Below w5.heap.size w5 wr) (fun v8 _ _ _ _ _ => q - (intOf v8).toNat)
  case atStart => exact ⟨0, Nat.zero_le _, rfl, Below.refl _ _⟩
  case round =>
    obtain ⟨k, hk, rfl, hb⟩ := hrel
    have HS6 := Lib.hid (HS5.out.to hb)
    have HX6 := Lib.hid (HX.out.belowLt hb)
    have HB6 := Lib.hid hb
    have c0 := HS6.out.c0
    have c1 := HS6.out.c1
    clear hb
    by_cases hlt : k < q
    case neg =>
      obtain rfl : q = k := by omega
      have dq : decide (q < q) = false := by simp
      go_wp2
      go_ret
      exact ⟨rfl, HS6.out.bel⟩
    have dq : decide (k < q) = true := by simpa using hlt
    have CALL := Lib.hid (truths_any wr M k K HK.out (by omega) (by omega))
    go_wp2_with (fail)
    (with_reducible refine CALL.out.mono ?_)
    rintro e w7 ⟨A7, c7, bs, rfl, hB7, hb7⟩
    have HS7 := Lib.hid (HS6.out.to hb7)
    have HX7 := Lib.hid (HX6.out.belowLt hb7)
    have HB7 := Lib.hid hB7
    have HBL7 := Lib.hid (HB6.out.trans (hb7.mono HB6.out.size))
    clear CALL hB7 hb7 HS6 HX6 HB6 c0 c1
    go_wp2
    go_loopw [10, 11] (fun v10 v11 wy => ∃ j : Nat, j ≤ m ∧ v11 = .int .i64 j ∧ v10 = .bool (decsB bs (ts.take j)) ∧ Below w7.heap.size w7 wy) (fun _ v11 _ => m - (intOf v11).toNat)
    case atStart => exact ⟨0, Nat.zero_le _, rfl, by simp [decsB], Below.refl _ _⟩
    case round =>
      obtain ⟨j, hj, rfl, rfl, hb⟩ := hrel
      have HS8 := Lib.hid (HS7.out.to hb)
      have HX8 := Lib.hid (HX7.out.belowLt hb)
      have HB8 := Lib.hid (HB7.out.belowLt hb)
      have HBL8 := Lib.hid (HBL7.out.trans (hb.mono HBL7.out.size))
      have HBJ := Lib.hid hb
      have c0 := HS8.out.c0
      have c1 := HS8.out.c1
      clear hb
      by_cases hjl : j < m
      · obtain ⟨ad, rfl, hadS, hc1, hc2⟩ := HS8.out.steps.at_ hjl
        have hsn := decsB_snoc (a := bs) (ts := ts) (k := j) (by have := HL.out; omega)
        have z1 : (0 : Int) ≤ (j : Int) := by omega
        have z2 : (j : Int) < (m : Int) := by omega
        clear hadS
        generalize ts.getD j (0, 0) = p at *
        obtain ⟨li, wy⟩ := p
        cases hd : decsB bs (ts.take j)
        · rw [hd, Bool.false_and] at hsn
          have HSN := Lib.hid hsn
          clear hd hsn
          go_wp2
          go_roundw
          case rel => exact ⟨j + 1, by omega, by go_num, by rw [HSN.out], HBJ.out⟩
          case measure => simp [intOf]; omega
        rw [hd, Bool.true_and] at hsn
        clear hd
        by_cases hwy : 0 ≤ wy
        · have hq : decide (0 ≤ wy) = true := by simpa using hwy
          have hsn' : decsB bs (ts.take (j + 1)) = true := by rw [hsn]; simp [hwy]
          have HSN := Lib.hid hsn'
          clear hsn hsn' hwy
          go_wp2
          go_roundw
          case rel => exact ⟨j + 1, by omega, by go_num, by rw [HSN.out], HBJ.out⟩
          case measure => simp [intOf]; omega
        · have hq : decide (0 ≤ wy) = false := by simpa using hwy
          have hsn' : decsB bs (ts.take (j + 1)) = litT li bs := by rw [hsn]; simp [hwy]
          have HSN := Lib.hid hsn'
          have CALL := Lib.hid (holds_lit wr li A7 K c7 bs HB8.out)
          clear hsn hsn' hwy
          generalize litT li bs = r at *
          go_wp2_with (fail)
          (with_reducible refine CALL.out.mono ?_)
          rintro e w9 ⟨rfl, hb9⟩
          go_wp2
          go_roundw
          case rel => exact ⟨j + 1, by omega, by go_num, by rw [HSN.out], HBJ.out.trans (hb9.mono HBJ.out.size)⟩
          case measure => simp [intOf]; omega
      obtain rfl : m = j := by omega
      have hfull : ts.take m = ts := List.take_of_length_le (by have := HL.out; omega)
      rw [hfull]
      clear hfull HBJ HS7 HX7 HB7
      cases hd : decsB bs ts
      · clear hd
        go_wp2
        go_roundw
        case rel => exact ⟨k + 1, by omega, by go_num, HBL8.out⟩
        case measure => simp [intOf]; omega
      have HD := Lib.hid hd
      clear hd
      have VAL := Lib.hid (value_any wr M A n c cs A7 K c7 bs HS8.out.rows HB8.out)
      have HSN := Lib.hid (fun h => HSND.out bs h HD.out)
      generalize valueT M cs bs = r at *
      cases r
      · go_wp2_with (fail)
        (with_reducible refine VAL.out.mono ?_)
        rintro e w9 ⟨rfl, hb9⟩
        go_wp2
        go_roundw
        case rel => exact ⟨k + 1, by omega, by go_num, HBL8.out.trans (hb9.mono HBL8.out.size)⟩
        case measure => simp [intOf]; omega
      obtain ⟨hcf, hall⟩ := HSN.out rfl
      have dcf : (cf != -1) = false := by simpa using hcf
      have HALL := Lib.hid hall
      clear hcf hall HSN
      go_wp2_with (fail)
      (with_reducible refine VAL.out.mono ?_)
      rintro e w9 ⟨rfl, hb9⟩
      have HS9 := Lib.hid (HS8.out.to hb9)
      have HX9 := Lib.hid (HX8.out.belowLt hb9)
      have HB9 := Lib.hid (HB8.out.belowLt hb9)
      have HBL9 := Lib.hid (HBL8.out.trans (hb9.mono HBL8.out.size))
      clear hb9 VAL HS8 HX8 HB8 HBL8 c0 c1
      go_wp2
      go_loopw [12] (fun v12 wy => ∃ i : Nat, i ≤ nx ∧ v12 = .int .i64 i ∧ Below w9.heap.size w9 wy) (fun v12 _ => nx - (intOf v12).toNat)
      case atStart => exact ⟨0, Nat.zero_le _, rfl, Below.refl _ _⟩
      case round =>
        obtain ⟨i, hi, rfl, hb⟩ := hrel
        have HX10 := Lib.hid (HX9.out.belowLt hb)
        have HB10 := Lib.hid (HB9.out.belowLt hb)
        have HBL10 := Lib.hid (HBL9.out.trans (hb.mono HBL9.out.size))
        have HBI := Lib.hid hb
        clear hb
        by_cases hil : i < nx
        · obtain ⟨ax, rfl, hadS, hc1, hc2⟩ := HX10.out.at_ hil
          have hmem : (x.getD i (0, 0)).1 ∈ lits x := by
            have := HX.out.len
            refine List.mem_map.2 ⟨_, ?_, rfl⟩
            rw [List.getD_eq_getElem?_getD, List.getElem?_eq_getElem (by omega)]; simp
          have hlt' := HALL.out _ hmem
          have z1 : (0 : Int) ≤ (i : Int) := by omega
          have z2 : (i : Int) < (nx : Int) := by omega
          have CALL := Lib.hid (holds_lit wr (x.getD i (0, 0)).1 A7 K c7 bs HB10.out)
          rw [hlt'] at CALL
          clear hadS hmem hlt'
          generalize x.getD i (0, 0) = p at *
          obtain ⟨li, wy⟩ := p
          go_wp2_with (fail)
          (with_reducible refine CALL.out.mono ?_)
          rintro e w11 ⟨rfl, hb11⟩
          go_wp2
          go_roundw
          case rel => exact ⟨i + 1, by omega, by go_num, HBI.out.trans (hb11.mono HBI.out.size)⟩
          case measure => simp [intOf]; omega
        obtain rfl : nx = i := by omega
        go_wp2
        go_roundw
        case rel => exact ⟨k + 1, by omega, by go_num, HBL10.out⟩
        case measure => simp [intOf]; omega
end Go.Proofs.Ytelgabamdhaplaa
