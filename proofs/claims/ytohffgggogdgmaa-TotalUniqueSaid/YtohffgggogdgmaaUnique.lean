/-
  chalklinelaw15.TotalUnique: the walk.
-/
import Derived.Test.YtohffgggogdgmaaCounts
import Derived.Test.YtohffgggogdgmaaUniqueLaw
namespace Go.Proofs.Ytohffgggogdgmaa
open Go.RowKit

/-! ### bits -/
theorem bits_of : ∀ (f : Nat) (g : Nat → Bool), ∃ b, b < 2 ^ f ∧ ∀ i, i < f → b.testBit i = g i
  | 0, g => ⟨0, by simp, fun i hi => absurd hi (by omega)⟩
  | f + 1, g => by
    obtain ⟨b, hb, hg⟩ := bits_of f (fun i => g (i + 1))
    refine ⟨2 * b + (g 0).toNat, ?_, fun i hi => ?_⟩
    · rw [Nat.pow_succ]; have : (g 0).toNat ≤ 1 := by cases g 0 <;> simp
      omega
    · cases i with
      | zero => rw [Nat.testBit_zero]; cases g 0 <;> simp <;> omega
      | succ i =>
        rw [Nat.testBit_succ, ← hg i (by omega)]
        congr 1
        cases g 0 <;> simp <;> omega
theorem bits_eq {f a b : Nat} (ha : a < 2 ^ f) (hb : b < 2 ^ f) (h : ∀ i, i < f → a.testBit i = b.testBit i) : a = b := by
  apply Nat.eq_of_testBit_eq
  intro i
  by_cases hi : i < f
  · exact h i hi
  · rw [Nat.testBit_lt_two_pow (Nat.lt_of_lt_of_le ha (Nat.pow_le_pow_right (by omega) (by omega))), Nat.testBit_lt_two_pow (Nat.lt_of_lt_of_le hb (Nat.pow_le_pow_right (by omega) (by omega)))]

theorem vars_four (most n : Nat) (h : n ≤ 4) : vars most n ≤ 8 := by
  have v2 : vars most 2 ≤ 2 := by rw [vars_two (by omega), vars_one (by omega)]; omega
  by_cases h1 : n ≤ 1
  · rw [vars_one h1]; omega
  · rw [vars_two h1]
    have : n = 2 ∨ n = 3 ∨ n = 4 := by omega
    rcases this with rfl | rfl | rfl
    · rw [show 2 / 2 = 1 from rfl, show 2 - 1 = 1 from rfl, vars_one (by omega)]; omega
    · rw [show 3 / 2 = 1 from rfl, show 3 - 1 = 2 from rfl, vars_one (by omega)]; omega
    · rw [show 4 / 2 = 2 from rfl, show 4 - 2 = 2 from rfl]; omega

theorem totalR_four {l : List Int} {most next : Int} (h0 : (totalR l most next).err = 0) (hl : l.length ≤ 4) : (totalR l most next).after ≤ next + 8 := by
  by_cases g : next < 1 ∨ 65537 < next ∨ most < 0 ∨ 1099511627776 < most ∨ 4096 < l.length
  · rw [totalR_arg g] at h0; cases h0
  cases ha : apartB next l with
  | false => rw [totalR_lit g ha] at h0; cases h0
  | true =>
    by_cases hz : l.length = 0 ∨ most = 0
    · rw [totalR_zero g ha hz]; show next ≤ next + 8; omega
    · by_cases hb : 65537 < next + (vars most.toNat l.length : Int)
      · rw [totalR_bound g ha hz hb] at h0; cases h0
      · rw [totalR_ok g ha hz hb]
        show next + (vars most.toNat l.length : Int) ≤ next + 8
        have := vars_four most.toNat l.length hl
        omega
/-- The assignment with the first k new variables set by the bits. -/
def bitsK (pb : List Bool) (next bits k : Nat) : List Bool := (List.range pb.length).map fun v => if next ≤ v ∧ v < next + k then bits.testBit (v - next) else pb.getD v false
theorem bitsK_len (pb : List Bool) (next bits k : Nat) : (bitsK pb next bits k).length = pb.length := by simp [bitsK]
theorem bitsK_var (pb : List Bool) (next bits k v : Nat) (hk : next + k ≤ pb.length) : varT (bitsK pb next bits k) v = if next ≤ v ∧ v < next + k then bits.testBit (v - next) else varT pb v := by
  unfold varT
  by_cases hv : v < pb.length
  · rw [List.getD_eq_getElem?_getD, bitsK, List.getElem?_map, List.getElem?_range hv]; rfl
  · rw [if_neg (by omega), List.getD_eq_getElem?_getD, List.getElem?_eq_none (by rw [bitsK_len]; omega), List.getD_eq_getElem?_getD, List.getElem?_eq_none (by omega)]
theorem bitsK_zero (pb : List Bool) (next bits : Nat) : bitsK pb next bits 0 = pb := by
  apply List.ext_getElem
  · rw [bitsK_len]
  · intro i h1 h2
    simp only [bitsK, List.getElem_map, List.getElem_range]
    rw [if_neg (by omega), List.getD_eq_getElem?_getD, List.getElem?_eq_getElem h2]; rfl
theorem bitsK_snoc (pb : List Bool) (next bits k : Nat) (hk : next + k < pb.length) :
    ((bitsK pb next bits k).map Value.bool).toArray.setIfInBounds (next + k) (.bool (bits.testBit k)) = ((bitsK pb next bits (k + 1)).map Value.bool).toArray := by
  apply Array.ext'
  simp only [List.setIfInBounds_toArray]
  rw [← List.map_set]
  congr 1
  apply List.ext_getElem
  · simp [bitsK]
  · intro i h2 h3
    rw [List.getElem_set]
    simp only [bitsK, List.getElem_map, List.getElem_range]
    by_cases hik : next + k = i
    · subst hik
      rw [if_pos rfl, if_pos (by omega), Nat.add_sub_cancel_left]
    · rw [if_neg hik]
      by_cases h4 : next ≤ i ∧ i < next + k
      · rw [if_pos h4, if_pos (by omega)]
      · rw [if_neg h4, if_neg (by omega)]
/-- Only the new variables differ: the next bits make the same of it. -/
theorem bitsK_again (pb : List Bool) (next a b f : Nat) : bitsK (bitsK pb next a f) next b f = bitsK pb next b f := by
  apply List.ext_getElem
  · rw [bitsK_len, bitsK_len, bitsK_len]
  · intro i h1 h2
    have hi : i < pb.length := by rw [bitsK_len] at h2; exact h2
    simp only [bitsK, List.getElem_map, List.getElem_range]
    by_cases h : next ≤ i ∧ i < next + f
    · rw [if_pos h, if_pos h]
    · rw [if_neg h, if_neg h]
      have := bitsK_len pb next a f
      rw [List.getD_eq_getElem?_getD, List.getElem?_eq_getElem (by simpa [bitsK] using hi)]
      simp only [Option.getD_some, List.getElem_map, List.getElem_range]
      rw [if_neg h]

/-- THE LAW: exactly one setting of the bits satisfies all clauses. -/
theorem one_way {l : List Int} {most next : Int} (h0 : (totalR l most next).err = 0) (pb : List Bool) (hpb : (pb.length : Int) = (totalR l most next).after + 1) {f nx : Nat} (hnx : next = nx) (hf : (f : Int) = (totalR l most next).after - next) :
    ∃ b0, b0 < 2 ^ f ∧ ∀ b, b < 2 ^ f → (allT (totalR l most next).cs (bitsK pb nx b f) = true ↔ b = b0) := by
  have g := totalR_good h0
  have ga := g.after
  have gr := g.arg
  have key : ∃ s : Nat → Bool, (∀ v, v < nx → s v = varT pb v) ∧ ∀ t : Nat → Bool, (∀ v, v < nx → t v = varT pb v) → ((∀ c ∈ (totalR l most next).cs, cval t c = true) ↔ ∀ v, v < nx + f → t v = s v) := by
    by_cases gg : next < 1 ∨ 65537 < next ∨ most < 0 ∨ 1099511627776 < most ∨ 4096 < l.length
    · rw [totalR_arg gg] at h0; cases h0
    cases ha : apartB next l with
    | false => rw [totalR_lit gg ha] at h0; cases h0
    | true =>
      by_cases hz : l.length = 0 ∨ most = 0
      · have e := totalR_zero gg ha hz
        rw [e] at hf ⊢
        have hf0 : f = 0 := by have : (f : Int) = next - next := hf; omega
        subst hf0
        exact ⟨varT pb, fun _ _ => rfl, fun t ht => ⟨fun _ v hv => ht v hv, fun _ c hc => by cases hc⟩⟩
      · by_cases hb : 65537 < next + (vars most.toNat l.length : Int)
        · rw [totalR_bound gg ha hz hb] at h0; cases h0
        · have e := totalR_ok gg ha hz hb
          rw [e] at hf ⊢
          have hff : f = vars most.toNat l.length := by have : (f : Int) = next + vars most.toNat l.length - next := hf; omega
          subst hff
          subst hnx
          have hx : ∀ x ∈ l, x ≠ 0 ∧ x.natAbs < nx := fun x h => ⟨(g.lits x h).1, by have := (g.lits x h).2; omega⟩
          refine ⟨sol most.toNat l nx (varT pb), fun v hv => sol_out most.toNat l.length l nx (varT pb) v (Nat.le_refl _) (.inl hv), fun t ht => ⟨fun hc v hv => sol_unique (by omega) l.length l nx (varT pb) (Nat.le_refl _) (by omega) hx (by omega) ht hc v hv, fun hv c hc => ?_⟩⟩
          have hs := (sol_good (show 1 ≤ most.toNat by omega) l.length l nx (varT pb) (Nat.le_refl _) (by omega) hx (by omega)).1 c hc
          have hcl := g.cs
          rw [e] at hcl
          rw [← hs]
          refine cval_congr fun x hxc => hv _ ?_
          have := natAbs_lt (m := nx + vars most.toNat l.length) (x := x) (by have := hcl c hc x hxc; exact ⟨this.1, by have := this.2; simp only [Int.natCast_add] ; exact this⟩)
          exact this
  obtain ⟨s, hold, hs⟩ := key
  obtain ⟨b0, hb0, hg0⟩ := bits_of f (fun i => s (nx + i))
  have hlen : nx + f ≤ pb.length := by omega
  have iff1 : ∀ b, allT (totalR l most next).cs (bitsK pb nx b f) = true ↔ ∀ v, v < nx + f → varT (bitsK pb nx b f) v = s v := fun b => by
    have h1 := hs (varT (bitsK pb nx b f)) (fun v hv => by rw [bitsK_var _ _ _ _ _ hlen, if_neg (by omega)])
    rw [← h1]
    exact ⟨fun h => allT_cval _ g.cs (by omega) h, fun h => List.all_eq_true.2 fun c hc => by
      obtain ⟨x, hx, hv⟩ := List.any_eq_true.1 (h c hc)
      exact List.any_eq_true.2 ⟨x, hx, by rw [litT_sval _ (g.cs c hc x hx) (by omega)]; exact hv⟩⟩
  refine ⟨b0, hb0, fun b hb => ?_⟩
  rw [iff1]
  constructor
  · intro h
    refine bits_eq hb hb0 fun i hi => ?_
    have h1 := h (nx + i) (by omega)
    rw [bitsK_var _ _ _ _ _ hlen, if_pos (by omega), Nat.add_sub_cancel_left] at h1
    rw [h1, hg0 i hi]
  · rintro rfl v hv
    rw [bitsK_var _ _ _ _ _ hlen]
    by_cases h1 : nx ≤ v
    · rw [if_pos (by omega), hg0 _ (by omega), show nx + (v - nx) = v by omega]
    · rw [if_neg (by omega)]
      exact (hold v (by omega)).symm

theorem ofInt_i64 (a : Nat) (ha : a < 9223372036854775808) : (BitVec.ofInt 64 (a : Int)).toNat = a := by
  rw [BitVec.ofInt_natCast, BitVec.toNat_ofNat]; exact Nat.mod_eq_of_lt (by omega)
theorem i64_and_nat (a b : Nat) (ha : a < 9223372036854775808) (hb : b < 9223372036854775808) : bits .and .i64 (a : Int) (b : Int) = ((a &&& b : Nat) : Int) := by
  have hx : a &&& b < 2 ^ 63 := Nat.and_lt_two_pow _ (by omega)
  show IntKind.i64.wrap ((BitVec.ofInt 64 (a : Int) &&& BitVec.ofInt 64 (b : Int)).toNat : Int) = _
  rw [BitVec.toNat_and, ofInt_i64 a ha, ofInt_i64 b hb, IntKind.wrap_i64]
  omega
theorem bit_spell (k j : Nat) (hk : k ≤ 256) : (bits .and .i64 ((k : Int) / 2 ^ j) 1 == 1) = k.testBit j := by
  have e : ((k : Int) / 2 ^ j) = ((k / 2 ^ j : Nat) : Int) := by simp
  have hle : k / 2 ^ j ≤ k := Nat.div_le_self _ _
  have h := i64_and_nat (k / 2 ^ j) 1 (by omega) (by omega)
  rw [e]
  have h1 : bits .and .i64 ((k / 2 ^ j : Nat) : Int) (1 : Int) = ((k / 2 ^ j &&& 1 : Nat) : Int) := h
  rw [h1, Nat.and_one_is_mod, Nat.testBit_eq_decide_div_mod_eq]
  rw [Bool.eq_iff_iff]
  simp
  omega

set_option maxHeartbeats 4000000 in
set_option maxRecDepth 100000 in
theorem unique_walk (w : World) (n c : Nat) (A : Option Addr) (xs : List Int) (most next : Int) (n' c' : Nat) (A' : Option Addr) (bs : List Bool) (hI : Ints w (Lt w) A n c xs) (hf : Fits xs) (hB : Bools w A' n' c' bs) :
    Calls Try.prog 6 #[.slice A n c, .int .i64 most, .int .i64 next, .slice A' n' c'] w (RetBoolBelow w true) := by
  have hlen := hI.len
  have HI := Lib.hid hI
  have HB := Lib.hid hB
  have HF := Lib.hid hf
  have HLEN := Lib.hid hlen
  have LIVE := Lib.hid (live_any w)
  have hmx := hB.max
  have hcp := hB.cap
  unfold maxLen at hmx
  clear hI hf hlen hB
  by_cases g1 : 4 < n
  case pos =>
    go_enter Try.func6, Try.ntmps6
    go_wp2_with (fail)
    (with_reducible refine LIVE.out.mono ?_)
    rintro e w1 ⟨rfl, hb1⟩
    go_wp2
    go_ret
    exact ⟨rfl, hb1⟩
  by_cases g4 : 30 < next
  case pos =>
    go_enter Try.func6, Try.ntmps6
    go_wp2_with (fail)
    (with_reducible refine LIVE.out.mono ?_)
    rintro e w1 ⟨rfl, hb1⟩
    go_wp2
    go_ret
    exact ⟨rfl, hb1⟩
  have d1 : decide ((4 : Int) < (n : Int)) = false := by simp; omega
  have d4 : decide (30 < next) = false := by simp; omega
  go_enter Try.func6, Try.ntmps6
  go_wp2_with (fail)
  (with_reducible refine LIVE.out.mono ?_)
  rintro e w1 ⟨rfl, hb1⟩
  go_wp2_with (fail)
  (with_reducible refine (total_t w1 n c A xs most next (HI.out.belowLt hb1) HF.out (by omega)).mono ?_)
  rintro e w2 ⟨A2, n2, c2, A2', n2', c2', rfl, ho2, hr2, hb2⟩
  have HB2 := Lib.hid (below_then hb1 hb2)
  have HL2 := Lib.hid ho2.len
  have HO2 := Lib.hid ho2
  have HR2 := Lib.hid hr2
  clear hb1 hb2 ho2 hr2 LIVE
  by_cases h0 : (totalR xs most next).err = 0
  case neg =>
    have hne : ((totalR xs most next).err != 0) = true := by simpa using h0
    clear h0 HO2 HR2 HL2
    generalize (totalR xs most next).err = er at *
    generalize (totalR xs most next).after = af at *
    go_wp2
    go_ret
    exact ⟨rfl, HB2.out⟩
  have hg := totalR_good h0
  have hvar : (totalR xs most next).after ≤ next + 8 := totalR_four h0 (by have := HLEN.out; omega)
  have LAW := Lib.hid (fun (b : List Bool) hb ha (i : Nat) hi => counts_law (l := xs) (most := most) (next := next) h0 b hb ha (i := i) hi)
  have ONE := Lib.hid (fun (pb : List Bool) hpb (f nx : Nat) hnx hf => one_way (l := xs) (most := most) (next := next) h0 pb hpb (f := f) (nx := nx) hnx hf)
  have HSX : Hid (Small xs) := fun x hx => (hg.lits x hx).small (by have := hg.after; omega)
  have HSO : Hid (Small (totalR xs most next).outs) := fun x hx => (hg.outs x hx).small hg.after.2
  have hafter := hg.after
  have HLO := Lib.hid hg.len
  have harg := hg.arg
  rw [h0]
  clear hg h0
  generalize (totalR xs most next).outs = outs at *
  generalize (totalR xs most next).cs = cs at *
  generalize (totalR xs most next).after = af at *
  obtain ⟨af1, af2⟩ := hafter
  obtain ⟨ag1, ag2⟩ := harg
  obtain ⟨nx, rfl⟩ := Int.eq_ofNat_of_zero_le (show 0 ≤ next by omega)
  obtain ⟨m, rfl⟩ := Int.eq_ofNat_of_zero_le (show 0 ≤ af by omega)
  obtain ⟨f, hf⟩ : ∃ f : Nat, f = m - nx := ⟨_, rfl⟩
  have hf8 : f ≤ 8 := by omega
  have hfm : nx + f = m := by omega
  have hsub : (m : Int) - (nx : Int) = (f : Int) := by omega
  have HFM := Lib.hid hfm
  clear hf hfm
  go_upto_region 9 with (fail)
  clear hsub
  have d5 : decide ((f : Int) < 0) = false := by simp
  have d6 : decide ((8 : Int) < (f : Int)) = false := by simp; omega
  go_wp2_with (fail)
  (with_reducible refine (padded_any w2 A' n' c' bs m (HB.out.belowLt HB2.out) (by omega)).mono ?_)
  rintro e w3 ⟨g, rfl, hblk, hgw, hb3⟩
  have hlen3 := padT_len bs m
  have hone := ONE.out (padT bs m) (by rw [hlen3]; omega) f nx rfl (by have := HFM.out; omega)
  have LAW2 := Lib.hid (fun b => LAW.out (bitsK (padT bs m) nx b f) (by rw [bitsK_len, hlen3]; omega))
  have hz3 : padT bs m = bitsK (padT bs m) nx 0 0 := (bitsK_zero _ _ _).symm
  generalize padT bs m = pb at *
  obtain ⟨b0, hb0, hsat⟩ := hone
  have HSAT := Lib.hid hsat
  have HB0 := Lib.hid hb0
  have HL3 := Lib.hid hlen3
  have HBLK := Lib.hid hblk
  have hgS : g < w3.heap.size := lt_of_block hblk
  have hpl : pb.length ≤ 40 := by have := hlen3; omega
  have hgne : w2.heap.size ≤ g := hgw
  clear hsat hlen3 hblk hz3 hgw LAW ONE hb0
  go_wp2_with (fail)
  clear d1 d4 d5 d6
  go_loopw [15, 16] (fun t i wr => ∃ k : Nat, k ≤ 2 ^ f ∧ i = .int .i64 k ∧ t = .int .i64 (if b0 < k then 1 else 0) ∧ (∃ cur : List Bool, cur.length = pb.length ∧ (∀ b, bitsK cur nx b f = bitsK pb nx b f) ∧ Blk wr g 4 (cur.map Value.bool).toArray) ∧ Below w2.heap.size w2 wr) (fun _ i _ => 2 ^ f - (intOf i).toNat)
  case atStart => exact ⟨0, Nat.zero_le _, rfl, rfl, ⟨pb, rfl, fun _ => rfl, HBLK.out⟩, hb3⟩
  case round =>
    obtain ⟨k, hk, rfl, rfl, ⟨cur, hcl, hcb, hcblk⟩, hbl⟩ := hrel
    have h256 : 2 ^ f ≤ 256 := by have := Nat.pow_le_pow_right (show 0 < 2 by omega) hf8; simpa using this
    obtain ⟨q, hq⟩ : ∃ q : Nat, q = 2 ^ f := ⟨_, rfl⟩
    rw [← hq] at hk h256
    generalize ht : (if b0 < k then (1 : Int) else 0) = tt at *
    have HT := Lib.hid ht
    have HQ := Lib.hid hq
    have HCL := Lib.hid hcl
    have HCB := Lib.hid hcb
    have HCBLK := Lib.hid hcblk
    clear ht hq hcl hcb hcblk
    have hpw : wrap64 ((2 : Int) ^ f) = (q : Int) := by
      have e : ((2 : Int) ^ f) = (q : Int) := by rw [HQ.out]; simp
      rw [e]; exact IntWalk.wrap64_in _ (by omega)
    by_cases hlt : k < q
    case neg =>
      obtain rfl : q = k := Nat.le_antisymm (Nat.le_of_not_lt hlt) hk
      have ht1 : tt = 1 := by rw [← HT.out, if_pos (by rw [HQ.out]; exact HB0.out)]
      subst ht1
      go_wp2
      go_ret
      exact ⟨rfl, below_then HB2.out hbl⟩
    case pos =>
      obtain ⟨wo, rfl⟩ : ∃ wo : World, wo = wr := ⟨_, rfl⟩
      have HBO := Lib.hid hbl
      clear hbl
      have dk : decide (k < q) = true := by simpa using hlt
      go_wp2
      clear hpw dk
      go_loopw [17] (fun i wi => ∃ j : Nat, j ≤ f ∧ i = .int .i64 j ∧ Blk wi g 4 ((bitsK cur nx k j).map Value.bool).toArray ∧ Below w2.heap.size w2 wi) (fun i _ => f - (intOf i).toNat)
      case atStart => exact ⟨0, Nat.zero_le _, rfl, by rw [bitsK_zero]; exact HCBLK.out, HBO.out⟩
      case round =>
        obtain ⟨j, hj, rfl, hblk, hbi⟩ := hrel
        have HBK := Lib.hid hblk
        by_cases hjf : j < f
        · have hnj : nx + j < pb.length := by have := HL3.out; have := HFM.out; omega
          have hfz := hblk.frozen (nx + j)
          obtain ⟨u, hu⟩ : ∃ u, wr.cell? ⟨g, nx + j, none⟩ = some u := by
            rw [hblk.cell (nx + j)]
            exact ⟨_, Array.getElem?_eq_getElem (by simp [bitsK_len]; have := HCL.out; omega)⟩
          have hset := hblk.set_ (nx + j) (.bool (k.testBit j))
          rw [bitsK_snoc cur nx k j (by have := HCL.out; omega)] at hset
          have hbs := bit_spell k j (by omega)
          rw [← hbs] at hset
          have HSET := Lib.hid hset
          clear hblk hset hbs
          go_wp2
          go_roundw
          case rel => exact ⟨j + 1, by omega, by go_num, HSET.out, hbi.setCell (by exact hgne) _⟩
          case measure => simp [intOf]; omega
        · obtain rfl : f = j := by omega
          rw [HCB.out k] at HBK
          have hBk := Bools.of_blk HBK.out (by rw [bitsK_len]; simp only [maxLen]; omega)
          rw [bitsK_len] at hBk
          have hRk := HR2.out.belowLt hbi
          have call := lawHolds_any wr A2' n2' c2' cs (some ⟨g, 0, none⟩) pb.length pb.length (bitsK pb nx k f) hRk hBk
          have hkey := HSAT.out k (by rw [← HQ.out]; exact hlt)
          have HAG := Lib.hid (fun b => bitsK_again pb nx k b f)
          have hgl : g < wr.heap.size := lt_of_block HBK.out
          have HLB := Lib.hid (bitsK_len pb nx k f)
          clear hblk
          cases hall : allT cs (bitsK pb nx k f)
          · rw [hall] at call hkey
            have hkb : k ≠ b0 := by simpa using hkey
            have HTT : Hid (tt = if b0 < k + 1 then 1 else 0) := by
              show tt = if b0 < k + 1 then 1 else 0
              rw [← HT.out]
              by_cases h1 : b0 < k
              · rw [if_pos h1, if_pos (by omega)]
              · rw [if_neg h1, if_neg (by omega)]
            have CALL := Lib.hid call
            clear call hall hkey hRk hBk LAW2
            generalize bitsK pb nx k f = cu at *
            go_wp2_with (fail)
            (with_reducible refine CALL.out.mono ?_)
            rintro e w5 ⟨rfl, hb5⟩
            have HB5 := Lib.hid ((hb5.block g hgl).trans HBK.out)
            go_wp2_with (fail)
            go_roundw
            case rel => exact ⟨k + 1, by have := HQ.out; omega, by go_num, by rw [← HTT.out], ⟨cu, HLB.out, HAG.out, HB5.out⟩, hbi.trans (hb5.mono hbi.size)⟩
            case measure => rw [← HQ.out]; simp [intOf]; omega
          · rw [hall] at call hkey
            have hkb : k = b0 := by simpa using hkey
            have HTT : Hid (tt = 0 ∧ (1 : Int) = if b0 < k + 1 then 1 else 0) := by
              show tt = 0 ∧ (1 : Int) = if b0 < k + 1 then 1 else 0
              rw [← HT.out, if_neg (by omega), if_pos (by omega)]
              exact ⟨rfl, rfl⟩
            have LAW3 := Lib.hid (LAW2.out k hall)
            have CALL := Lib.hid call
            have HBK2 := Lib.hid hBk
            clear call hall hkey hRk hBk LAW2 hkb
            generalize bitsK pb nx k f = cu at *
            obtain rfl : tt = 0 := HTT.out.1
            go_wp2_with (fail)
            (with_reducible refine CALL.out.mono ?_)
            rintro e w5 ⟨rfl, hb5⟩
            have HB5 := Lib.hid ((hb5.block g hgl).trans HBK.out)
            have HBW5 := Lib.hid (hbi.trans (hb5.mono hbi.size))
            have HBL5 := Lib.hid (HBK2.out.belowLt hb5)
            clear hb5 CALL HBK HBK2
            go_wp2_with (fail)
            (with_reducible refine (many_any w5 A n c xs (some ⟨g, 0, none⟩) pb.length pb.length cu ((HI.out.belowLt HB2.out).belowLt HBW5.out) HBL5.out HSX.out (by omega)).mono ?_)
            rintro e w6 ⟨rfl, rfl⟩
            have hmy : manyT xs cu ≤ 4 := by have := manyT_le xs cu; have := HLEN.out; omega
            generalize manyT xs cu = my at *
            go_wp2_with (fail)
            have HO5 := Lib.hid (HO2.out.belowLt HBW5.out)
            have hn24 : n2 ≤ 4 := by have := HL2.out; have := HLO.out; have := HLEN.out; omega
            go_loop [19] (fun i => ∃ j : Nat, j ≤ n2 ∧ i = .int .i64 j) (fun i => n2 - (intOf i).toNat)
            case atStart => exact ⟨0, Nat.zero_le _, rfl⟩
            case round =>
              obtain ⟨j, hj, rfl⟩ := hrel
              by_cases hjlt : j < n2
              · obtain ⟨ad, rfl, hadS, hcell⟩ := HO5.out.at_ hjlt
                have hl := LAW3.out j (by have := HL2.out; omega)
                have hsx := HSO.out (outs.getD j 0) (by rw [List.getD_eq_getElem?_getD, List.getElem?_eq_getElem (by have := HL2.out; omega)]; simp)
                have call := lit_any w5 (outs.getD j 0) _ _ _ cu HBL5.out hsx.1 hsx.2
                rw [hl] at call
                have CALL := Lib.hid call
                clear call hl hsx hadS
                generalize outs.getD j 0 = x at *
                by_cases hkm : j < my
                · have d4 : decide (j < my) = true := by simpa using hkm
                  rw [d4] at CALL
                  go_wp2_with (fail)
                  (with_reducible refine CALL.out.mono ?_)
                  rintro e w6 ⟨rfl, rfl⟩
                  go_wp2_with (fail)
                  go_round
                  case rel => exact ⟨j + 1, by omega, by go_num⟩
                  case measure => simp [intOf]; omega
                · have d4 : decide (j < my) = false := by simpa using hkm
                  rw [d4] at CALL
                  go_wp2_with (fail)
                  (with_reducible refine CALL.out.mono ?_)
                  rintro e w6 ⟨rfl, rfl⟩
                  go_wp2_with (fail)
                  go_round
                  case rel => exact ⟨j + 1, by omega, by go_num⟩
                  case measure => simp [intOf]; omega
              · go_wp2_with (fail)
                go_roundw
                case rel => exact ⟨k + 1, by have := HQ.out; omega, by go_num, by rw [← HTT.out.2], ⟨cu, HLB.out, HAG.out, HB5.out⟩, HBW5.out⟩
                case measure => rw [← HQ.out]; simp [intOf]; omega
end Go.Proofs.Ytohffgggogdgmaa
