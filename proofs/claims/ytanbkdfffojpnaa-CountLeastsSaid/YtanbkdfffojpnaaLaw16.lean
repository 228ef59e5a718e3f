/-
  The helpers of chalklinelaw16: Truth, many, can.
-/
import Derived.Test.YtanbkdfffojpnaaBits
import Derived.Test.YtanbkdfffojpnaaLive16
namespace Go.Proofs.Ytanbkdfffojpnaa
open Go.RowKit

theorem bool_info : (Try.prog.info? 4).map (fun i => (i.zero, i.size, i.bytes)) = some (some (.bool false), 1, 1) := by kernel_rfl
/-- The value of a literal (the reference's words). -/
def truthT (x : Int) (a : List Bool) : Bool := if x < 0 then decide (-x < a.length) && !a.getD (-x).toNat false else decide (x < a.length) && a.getD x.toNat false

set_option maxHeartbeats 1000000 in
theorem truth_any (w : World) (x : Int) (A : Option Addr) (n c : Nat) (a : List Bool) (h : Bools w A n c a) (h0 : -70000 ≤ x) (h1 : x ≤ 70000) : Calls Try.prog 32 #[.int .i64 x, .slice A n c] w (RetBoolSame w (truthT x a)) := by
  have hl := h.len
  have hc := h.cap
  have hm := h.max
  unfold maxLen at hm
  have HB := Lib.hid h
  clear h
  by_cases c0 : x < 0
  · obtain ⟨v, hv⟩ := Int.eq_ofNat_of_zero_le (show 0 ≤ -x by omega)
    obtain rfl : x = -(v : Int) := by omega
    have e : truthT (-(v : Int)) a = (decide (v < n) && !a.getD v false) := by
      unfold truthT
      rw [if_pos c0, Int.neg_neg, Int.toNat_natCast, hl]
      simp
    rw [e]
    clear e hv hl
    by_cases c1 : v < n
    · obtain ⟨ad, rfl, hadS, hcell⟩ := HB.out.at_ c1
      have d1 : decide (v < n) = true := by simpa using c1
      rw [d1]
      clear hadS
      generalize a.getD v false = b at *
      go_enter Try.func32, Try.ntmps32
      go_wp2
      all_goals go_ret
      all_goals exact ⟨ret_bool (by cases b <;> rfl), rfl⟩
    · have d1 : decide (v < n) = false := by simpa using c1
      rw [d1]
      generalize a.getD v false = b at *
      go_enter Try.func32, Try.ntmps32
      go_wp2
      all_goals go_ret
      all_goals exact ⟨ret_bool (by cases b <;> rfl), rfl⟩
  · obtain ⟨v, rfl⟩ := Int.eq_ofNat_of_zero_le (show 0 ≤ x by omega)
    have e : truthT (v : Int) a = (decide (v < n) && a.getD v false) := by
      unfold truthT
      rw [if_neg c0, Int.toNat_natCast, hl]
      simp
    rw [e]
    clear e hl
    by_cases c1 : v < n
    · obtain ⟨ad, rfl, hadS, hcell⟩ := HB.out.at_ c1
      have d1 : decide (v < n) = true := by simpa using c1
      rw [d1]
      clear hadS
      generalize a.getD v false = b at *
      go_enter Try.func32, Try.ntmps32
      go_wp2
      all_goals go_ret
      all_goals exact ⟨ret_bool (by cases b <;> rfl), rfl⟩
    · have d1 : decide (v < n) = false := by simpa using c1
      rw [d1]
      generalize a.getD v false = b at *
      go_enter Try.func32, Try.ntmps32
      go_wp2
      all_goals go_ret
      all_goals exact ⟨ret_bool (by cases b <;> rfl), rfl⟩

/-- How many literals are true. -/
def manyT (l : List Int) (a : List Bool) : Nat := l.countP (truthT · a)
theorem manyT_snoc {l : List Int} {a : List Bool} {k : Nat} (hk : k < l.length) : manyT (l.take (k + 1)) a = manyT (l.take k) a + if truthT (l.getD k 0) a = true then 1 else 0 := by
  unfold manyT
  rw [List.take_succ_eq_append_getElem hk, List.countP_append, List.getD_eq_getElem?_getD, List.getElem?_eq_getElem hk]
  simp [List.countP_cons]
theorem manyT_le (l : List Int) (a : List Bool) : manyT l a ≤ l.length := List.countP_le_length

set_option maxHeartbeats 1000000 in
theorem many_any (w : World) (A : Option Addr) (n c : Nat) (l : List Int) (A' : Option Addr) (n' c' : Nat) (a : List Bool) (hI : Ints w (Lt w) A n c l) (hB : Bools w A' n' c' a) (hs : Small l) (hn : n ≤ 64) :
    Calls Try.prog 19 #[.slice A n c, .slice A' n' c'] w (RetNatSame w (manyT l a)) := by
  have hc := hI.cap
  have hm := hI.max
  unfold maxLen at hm
  have HI := Lib.hid hI
  have HB := Lib.hid hB
  have HS := Lib.hid hs
  clear hI hB hs
  go_enter Try.func19, Try.ntmps19
  go_wp2
  go_loop [5, 10] (fun t i => ∃ k : Nat, k ≤ n ∧ i = .int .i64 k ∧ t = .int .i64 (manyT (l.take k) a)) (fun _ i => n - (intOf i).toNat)
  case atStart => exact ⟨0, Nat.zero_le _, rfl, rfl⟩
  case round =>
    obtain ⟨k, hk, rfl, rfl⟩ := hrel
    have hle := manyT_le (l.take k) a
    rw [List.length_take] at hle
    have hle2 : manyT (l.take k) a ≤ 64 := by omega
    clear hle
    by_cases hlt : k < n
    · obtain ⟨ad, rfl, hadS, hcell⟩ := HI.out.at_ hlt
      have hl := HI.out.len
      have hsn := manyT_snoc (a := a) (show k < l.length by omega)
      have hsx := HS.out (l.getD k 0) (by rw [List.getD_eq_getElem?_getD, List.getElem?_eq_getElem (by omega)]; simp)
      have CALL := Lib.hid (truth_any w (l.getD k 0) A' n' c' a HB.out hsx.1 hsx.2)
      have HSN := Lib.hid hsn
      clear hl hsn hsx hadS
      generalize l.getD k 0 = x at *
      cases hb : truthT x a
      · rw [hb] at CALL HSN
        clear hb
        go_wp2_with (fail)
        (with_reducible refine CALL.out.mono ?_)
        rintro e w1 ⟨rfl, rfl⟩
        generalize hq : manyT (l.take k) a = q at *
        go_wp2
        go_round
        case rel => exact ⟨k + 1, by omega, by go_num, by rw [HSN.out]; simp [hq]⟩
        case measure => simp [intOf]; omega
      · rw [hb] at CALL HSN
        clear hb
        go_wp2_with (fail)
        (with_reducible refine CALL.out.mono ?_)
        rintro e w1 ⟨rfl, rfl⟩
        generalize hq : manyT (l.take k) a = q at *
        have HQ := Lib.hid hq
        clear hq
        go_wp2
        go_round
        case rel => exact ⟨k + 1, by omega, by go_num, by rw [HSN.out]; simp⟩
        case measure => simp [intOf]; omega
    · have ht : l.take k = l := List.take_of_length_le (by have := HI.out.len; omega)
      rw [ht] at hle2 ⊢
      clear ht
      generalize manyT l a = q at *
      go_wp2
      go_ret
      exact ⟨rfl, rfl⟩

/-- All clauses hold. -/
def allT (cs : List (List Int)) (a : List Bool) : Bool := cs.all (holdsT · a)
theorem all_snoc {p : List Int → Bool} {xs : List (List Int)} {k : Nat} (hk : k < xs.length) (h0 : (xs.take k).all p = true) (h1 : p (xs.getD k []) = true) : (xs.take (k + 1)).all p = true := by
  rw [List.getD_eq_getElem?_getD, List.getElem?_eq_getElem hk] at h1
  simp only [Option.getD_some] at h1
  rw [List.take_succ_eq_append_getElem hk, List.all_append, h0]
  simp [h1]
theorem all_miss {p : List Int → Bool} {xs : List (List Int)} {k : Nat} (hk : k < xs.length) (h1 : p (xs.getD k []) = false) : xs.all p = false := by
  rw [List.getD_eq_getElem?_getD, List.getElem?_eq_getElem hk] at h1
  simp only [Option.getD_some] at h1
  exact List.all_eq_false.2 ⟨_, List.getElem_mem hk, by simp [h1]⟩


/-- The low n bits of m. -/
def bitsL (m n : Nat) : List Bool := (List.range n).map fun i => m.testBit i
theorem bitsL_succ (m n : Nat) : bitsL m (n + 1) = bitsL m n ++ [m.testBit n] := by simp [bitsL, List.range_succ]
theorem bitsL_len (m n : Nat) : (bitsL m n).length = n := by simp [bitsL]
/-- Some setting of n new variables satisfies all clauses. -/
def canB (cs : List (List Int)) (a : List Bool) (n : Nat) : Bool := (List.range (2 ^ n)).any fun m => allT cs (a ++ bitsL m n)
theorem canB_hit {cs : List (List Int)} {a : List Bool} {n m : Nat} (h : m < 2 ^ n) (ht : allT cs (a ++ bitsL m n) = true) : canB cs a n = true := List.any_eq_true.2 ⟨m, List.mem_range.2 h, ht⟩
theorem bools_oneCell (xs : List Bool) : ∀ u ∈ xs.map Value.bool, u.oneCell' = true := by
  intro u hu
  obtain ⟨x, _, rfl⟩ := List.mem_map.1 hu
  rfl
theorem Bools.of_own {w : World} {base : Nat} {e : TypeId} {A : Option Addr} {n c : Nat} {bs : List Bool} (h : w.ownsRow base e 1 (.slice A n c) n (bs.map Value.bool)) : Bools w A n c bs := by
  have hx : n ≤ c ∧ c ≤ maxLen := by
    rcases h.2 with ⟨hv, hn⟩ | ⟨g, cap, cur, hv, _, _, hc, hm, _⟩
    · injection hv with _ _ hcap; subst hn hcap; simp [maxLen]
    · injection hv with _ _ hcap; subst hcap; exact ⟨hc, hm⟩
  exact ⟨by have := h.1; simpa using this.symm, hx.1, hx.2, (Reads.of_own h).more fun _ h => h.2⟩
theorem own_low {w : World} {base size n : Nat} {e : TypeId} {v : Value} {xs : List Value} (h : w.ownsRow base e size v n xs) : ∀ g, v.ownBlock = some g → base ≤ g := fun g hg => (h.lt g hg).1
def RetCan (w : World) (is tried : Bool) (e : Ending) (w' : World) : Prop := e = .returned (.tuple #[.bool is, .bool tried]) ∧ Below w.heap.size w w'

set_option maxHeartbeats 1000000 in
theorem can_not (w : World) (A : Option Addr) (n c : Nat) (A' : Option Addr) (n' c' : Nat) (after : Int) (hn : n' ≤ 100000) (h0 : 0 ≤ after) (h1 : after ≤ 70000) (h : after - n' < 0 ∨ 9 < after - n') :
    Calls Try.prog 20 #[.slice A n c, .slice A' n' c', .int .i64 after] w (RetCan w false false) := by
  by_cases h2 : after - n' < 0
  · clear h
    go_enter Try.func20, Try.ntmps20
    go_wp2
    exact bodyPost_ret (v := .tuple #[.bool false, .bool false]) (by simp [results, Try.results20, go_sem]) rfl ⟨rfl, Below.refl _ _⟩
  · have h3 : 9 < after - n' := by omega
    clear h
    go_enter Try.func20, Try.ntmps20
    go_wp2
    exact bodyPost_ret (v := .tuple #[.bool false, .bool false]) (by simp [results, Try.results20, go_sem]) rfl ⟨rfl, Below.refl _ _⟩

set_option maxHeartbeats 4000000 in
set_option maxRecDepth 100000 in
theorem can_any (w : World) (A : Option Addr) (n c : Nat) (cs : List (List Int)) (A' : Option Addr) (n' c' : Nat) (a : List Bool) (f : Nat) (hR : Rows2 w A n c cs) (hB : Bools w A' n' c' a) (hn : n' ≤ 60000) (hf : f ≤ 9) :
    Calls Try.prog 20 #[.slice A n c, .slice A' n' c', .int .i64 ((n' : Int) + f)] w (RetCan w (canB cs a f) true) := by
  have hlen := hB.len
  have hcn := hR.cap
  have hmn := hR.max
  unfold maxLen at hmn
  have HR := Lib.hid hR
  have HB := Lib.hid hB
  have HL := Lib.hid hlen
  obtain ⟨i0, hi0, hz0, hz1, hz2⟩ := info_parts bool_info
  clear hR hB hlen
  have e1 : (n' : Int) + f - n' = f := by omega
  have d1 : decide ((f : Int) < 0) = false := by simp
  have d2 : decide ((9 : Int) < (f : Int)) = false := by simp; omega
  go_enter Try.func20, Try.ntmps20
  obtain ⟨q, hq⟩ : ∃ q : Nat, q = 2 ^ f := ⟨_, rfl⟩
  have hq5 : q ≤ 512 := by rw [hq]; have := Nat.pow_le_pow_right (show 0 < 2 by omega) hf; simpa using this
  have hpw : wrap64 ((2 : Int) ^ f) = (q : Int) := by
    have e : (2 : Int) ^ f = (q : Int) := by rw [hq]; simp
    rw [e]; exact IntWalk.wrap64_in _ (by omega)
  have HQ := Lib.hid hq
  clear hq
  go_wp2
  rw [hpw]
  clear e1 hpw
  go_loopw [27] (fun v wr => ∃ m : Nat, m ≤ q ∧ v = .int .i64 m ∧ (∀ j, j < m → allT cs (a ++ bitsL j f) = false) ∧ Below w.heap.size w wr) (fun v _ => q - (intOf v).toNat)
  case atStart => exact ⟨0, Nat.zero_le _, rfl, fun j hj => absurd hj (by omega), Below.refl _ _⟩
  case round =>
    obtain ⟨m, hm, rfl, hno, hb⟩ := hrel
    have HNO := Lib.hid hno
    have HBW := Lib.hid hb
    clear hno hb
    by_cases hlt : m < q
    case neg =>
      obtain rfl : q = m := by omega
      have hc : canB cs a f = false := by
        unfold canB
        refine List.any_eq_false.2 fun j hj => ?_
        have := HNO.out j (by have := HQ.out; have := List.mem_range.1 hj; omega)
        simp [this]
      have HC := Lib.hid hc
      clear hc
      go_wp2
      exact bodyPost_ret (v := .tuple #[.bool false, .bool true]) (by simp [results, Try.results20, go_sem]) rfl ⟨by rw [HC.out], HBW.out⟩
    have hm512 : m ≤ 512 := by omega
    obtain ⟨wo, rfl⟩ : ∃ wo : World, wo = wr := ⟨_, rfl⟩
    have hrd := (HB.out.belowLt HBW.out).reads
    have dm : decide (m < q) = true := by simpa using hlt
    go_wp2_with (first
      | (at_builtin
         go_must (refine wpList_append_any _ rfl (.const (.slice none 0 0)) (.tmp 30) _ rfl wo.heap.size 4 i0 _ 1 1 Try.underlying30 hi0 hz0 hz1 hz2 rfl (by omega) (.slice none 0 0) 0 [] (by rfl) (World.ownsRow_nil _ _ _ _) _ A' n' c' _ (by rfl) hrd (bools_oneCell _) (by simp only [maxLen]; omega) (by omega) (Nat.le_refl _) ?_)
         intro v1 w1 hown1 hg1 hat1
         obtain ⟨A1, c1, rfl⟩ := own_form hown1))
    rw [Nat.zero_add] at hown1
    have hb1 : Below wo.heap.size wo w1 := (Below.refl _ _).grown hg1 (Nat.le_refl _) (by simp [Value.ownBlock])
    have HOWN1 := Lib.hid hown1
    have HB1 := Lib.hid hb1
    clear hown1 hg1 hat1 hb1 hrd
    go_loopw [10, 33] (fun v10 v33 wy => ∃ (j : Nat) (A2 : Option Addr) (c2 : Nat), j ≤ f ∧ v33 = .int .i64 j ∧ v10 = .slice A2 (n' + j) c2 ∧ wy.ownsRow wo.heap.size 4 1 (.slice A2 (n' + j) c2) (n' + j) ((a ++ bitsL m j).map Value.bool) ∧ Below wo.heap.size wo wy) (fun _ v33 _ => f - (intOf v33).toNat)
    case atStart => exact ⟨0, A1, c1, Nat.zero_le _, rfl, by simp, by simpa [bitsL] using HOWN1.out, HB1.out⟩
    case round =>
      clear HOWN1 HB1
      obtain ⟨j, A2, c2, hj, rfl, rfl, hown, hb2⟩ := hrel
      by_cases hjl : j < f
      · have hbs := bit_spell m j (by omega)
        have HBS := Lib.hid hbs
        have hbw : wo.heap.size ≤ wr.heap.size := hb2.size
        have HE : Hid ((a ++ bitsL m (j + 1)).map Value.bool = (a ++ bitsL m j).map Value.bool ++ [.bool (bits .and .i64 ((m : Int) / 2 ^ j) 1 == 1)]) := by
          show (a ++ bitsL m (j + 1)).map Value.bool = (a ++ bitsL m j).map Value.bool ++ [.bool (bits .and .i64 ((m : Int) / 2 ^ j) 1 == 1)]
          rw [hbs, bitsL_succ]; simp
        clear hbs
        go_wp2_with (first
          | (at_builtin
             go_must (refine wpList_append_one _ rfl (.tmp 36) (.tmp 42) _ rfl wo.heap.size 4 i0 _ 1 Try.underlying30 hi0 hz0 hz1 hz2 rfl (.slice A2 (n' + j) c2) (n' + j) ((a ++ bitsL m j).map Value.bool) (by rfl) hown 4 (.bool (bits .and .i64 ((m : Int) / 2 ^ j) 1 == 1)) 1 rfl (by rfl) (by simp only [maxLen]; omega) (by omega) hbw ?_)
             intro A9 c9 w9 ho9 hg9 hb9))
        have HB9 := Lib.hid (hb2.grown hg9 hbw (fun g hg => own_low hown g hg))
        have HO9 : Hid (w9.ownsRow wo.heap.size 4 1 (.slice A9 (n' + (j + 1)) c9) (n' + (j + 1)) ((a ++ bitsL m (j + 1)).map Value.bool)) := by
          show w9.ownsRow wo.heap.size 4 1 (.slice A9 (n' + (j + 1)) c9) (n' + (j + 1)) ((a ++ bitsL m (j + 1)).map Value.bool)
          rw [HE.out]; exact ho9
        clear ho9 hg9 hb9 hown hb2
        go_roundw
        case rel => exact ⟨j + 1, A9, c9, by omega, by go_num, rfl, HO9.out, HB9.out⟩
        case measure => simp [intOf]; omega
      obtain rfl : f = j := by omega
      have hBo := Bools.of_own hown
      have hBA := below_then HBW.out hb2
      have HBO := Lib.hid hBo
      have HBA := Lib.hid hBA
      obtain ⟨wi, rfl⟩ : ∃ wi : World, wi = wr := ⟨_, rfl⟩
      clear hown hb2 hBo hBA
      have djl : decide (f < f) = false := by simp
      go_wp2
      go_loopw [12, 47] (fun v12 v47 wy => ∃ (j : Nat), j ≤ n ∧ v47 = .int .i64 j ∧ v12 = .bool ((cs.take j).all (holdsT · (a ++ bitsL m f))) ∧ Below wi.heap.size wi wy) (fun _ v47 _ => n - (intOf v47).toNat)
      case atStart => exact ⟨0, Nat.zero_le _, rfl, by simp, Below.refl _ _⟩
      case round =>
        obtain ⟨j, hj, rfl, rfl, hb3⟩ := hrel
        have HB3 := Lib.hid hb3
        clear hb3
        by_cases hjn : j < n
        case neg =>
          have hfull : cs.take j = cs := List.take_of_length_le (by have := HR.out.len; omega)
          rw [hfull]
          clear hfull
          cases hall : cs.all (holdsT · (a ++ bitsL m f))
          · have hno2 : ∀ i, i < m + 1 → allT cs (a ++ bitsL i f) = false := fun i hi => by
              rcases Nat.lt_or_ge i m with h | h
              · exact HNO.out i h
              · obtain rfl : i = m := by omega
                exact hall
            have HNO2 := Lib.hid hno2
            clear hall hno2
            go_wp2
            go_roundw
            case rel => exact ⟨m + 1, by omega, by go_num, HNO2.out, below_then HBA.out HB3.out⟩
            case measure => simp [intOf]; omega
          · have HC := Lib.hid (canB_hit (m := m) (by rw [← HQ.out]; exact hlt) hall)
            clear hall
            go_wp2
            exact bodyPost_ret (v := .tuple #[.bool true, .bool true]) (by simp [results, Try.results20, go_sem]) rfl ⟨by rw [HC.out], below_then HBA.out HB3.out⟩
        obtain ⟨ad, B1, m1, k1, rfl, hadS, hcell, hr1⟩ := HR.out.at_ hjn
        have hBx := below_then HBA.out HB3.out
        have e1 := (hBx.cell (p := ad.add j) (by rw [block_of_add]; exact hadS)).trans hcell
        have hsn : (cs.take (j + 1)).all (holdsT · (a ++ bitsL m f)) = ((cs.take j).all (holdsT · (a ++ bitsL m f)) && holdsT (cs.getD j []) (a ++ bitsL m f)) := by
          have hl : j < cs.length := by have := HR.out.len; omega
          rw [List.take_succ_eq_append_getElem hl, List.all_append, List.getD_eq_getElem?_getD, List.getElem?_eq_getElem hl]
          simp
        have call := holds_any wr B1 m1 k1 (cs.getD j []) A2 (n' + f) c2 (a ++ bitsL m f) (hr1.belowLt hBx) (HBO.out.belowLt HB3.out)
        have HSN := Lib.hid hsn
        clear hsn hcell hadS hr1 hBx
        generalize (cs.take j).all (holdsT · (a ++ bitsL m f)) = r0 at *
        generalize holdsT (cs.getD j []) (a ++ bitsL m f) = hx at *
        have CALL := Lib.hid call
        clear call
        cases r0
        · go_wp2_with (fail)
          go_roundw
          case rel => exact ⟨j + 1, by omega, by go_num, by rw [HSN.out]; rfl, HB3.out⟩
          case measure => simp [intOf]; omega
        · go_wp2_with (fail)
          (with_reducible refine CALL.out.mono ?_)
          rintro e w4 ⟨rfl, hb4⟩
          have HB4 := Lib.hid (below_then HB3.out hb4)
          clear hb4
          go_wp2_with (fail)
          go_roundw
          case rel => exact ⟨j + 1, by omega, by go_num, by rw [HSN.out]; simp, HB4.out⟩
          case measure => simp [intOf]; omega
end Go.Proofs.Ytanbkdfffojpnaa
