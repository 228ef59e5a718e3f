/-
  The helpers of chalklinelaw15: lit, many, holds, padded.
-/
import Derived.Test.YtohffgggogdgmaaHolds
import Derived.Test.YtohffgggogdgmaaTotState
namespace Go.Proofs.Ytohffgggogdgmaa
open Go.RowKit

/-- A literal is true under an assignment (the law's own words). -/
def lawLit (x : Int) (a : List Bool) : Bool := if x < 0 then decide (-x < a.length) && !a.getD (-x).toNat false else decide (0 < x) && decide (x < a.length) && a.getD x.toNat false

set_option maxHeartbeats 1000000 in
theorem lit_any (w : World) (x : Int) (A : Option Addr) (n c : Nat) (a : List Bool) (h : Bools w A n c a) (h0 : -70000 ≤ x) (h1 : x ≤ 70000) : Calls Try.prog 19 #[.int .i64 x, .slice A n c] w (RetBoolSame w (lawLit x a)) := by
  have hl := h.len
  have hc := h.cap
  have hm := h.max
  unfold maxLen at hm
  have HB := Lib.hid h
  clear h
  by_cases c0 : x < 0
  · obtain ⟨v, hv⟩ := Int.eq_ofNat_of_zero_le (show 0 ≤ -x by omega)
    obtain rfl : x = -(v : Int) := by omega
    have e : lawLit (-(v : Int)) a = (decide (v < n) && !a.getD v false) := by
      unfold lawLit
      rw [if_pos c0, Int.neg_neg, Int.toNat_natCast, hl]
      simp
    rw [e]
    clear e hv hl
    by_cases c1 : v < n
    · obtain ⟨ad, rfl, hadS, hcell⟩ := HB.out.at_ c1
      have d1 : decide (v < n) = true := by simpa using c1
      rw [d1]
      clear hadS
      generalize a.getD v false = b at *
      go_enter Try.func19, Try.ntmps19
      go_wp2
      all_goals go_ret
      all_goals exact ⟨ret_bool (by cases b <;> rfl), rfl⟩
    · have d1 : decide (v < n) = false := by simpa using c1
      rw [d1]
      generalize a.getD v false = b at *
      go_enter Try.func19, Try.ntmps19
      go_wp2
      all_goals go_ret
      all_goals exact ⟨ret_bool (by cases b <;> rfl), rfl⟩
  · obtain ⟨v, rfl⟩ := Int.eq_ofNat_of_zero_le (show 0 ≤ x by omega)
    have e : lawLit (v : Int) a = (decide (0 < v) && decide (v < n) && a.getD v false) := by
      unfold lawLit
      rw [if_neg c0, Int.toNat_natCast, hl]
      simp
    rw [e]
    clear e hl
    by_cases c2 : 0 < v
    · have d2 : decide (0 < v) = true := by simpa using c2
      by_cases c1 : v < n
      · obtain ⟨ad, rfl, hadS, hcell⟩ := HB.out.at_ c1
        have d1 : decide (v < n) = true := by simpa using c1
        rw [d1, d2]
        clear hadS
        generalize a.getD v false = b at *
        go_enter Try.func19, Try.ntmps19
        go_wp2
        all_goals go_ret
        all_goals exact ⟨ret_bool (by cases b <;> rfl), rfl⟩
      · have d1 : decide (v < n) = false := by simpa using c1
        rw [d1, d2]
        generalize a.getD v false = b at *
        go_enter Try.func19, Try.ntmps19
        go_wp2
        all_goals go_ret
        all_goals exact ⟨ret_bool (by cases b <;> rfl), rfl⟩
    · have d2 : decide (0 < v) = false := by simpa using c2
      rw [d2]
      generalize decide (v < n) = d at *
      generalize a.getD v false = b at *
      go_enter Try.func19, Try.ntmps19
      go_wp2
      all_goals go_ret
      all_goals exact ⟨ret_bool (by cases b <;> cases d <;> rfl), rfl⟩

/-- How many literals are true. -/
def manyT (l : List Int) (a : List Bool) : Nat := l.countP (lawLit · a)
theorem manyT_snoc {l : List Int} {a : List Bool} {k : Nat} (hk : k < l.length) : manyT (l.take (k + 1)) a = manyT (l.take k) a + if lawLit (l.getD k 0) a = true then 1 else 0 := by
  unfold manyT
  rw [List.take_succ_eq_append_getElem hk, List.countP_append, List.getD_eq_getElem?_getD, List.getElem?_eq_getElem hk]
  simp [List.countP_cons]
theorem manyT_le (l : List Int) (a : List Bool) : manyT l a ≤ l.length := List.countP_le_length

set_option maxHeartbeats 1000000 in
theorem many_any (w : World) (A : Option Addr) (n c : Nat) (l : List Int) (A' : Option Addr) (n' c' : Nat) (a : List Bool) (hI : Ints w (Lt w) A n c l) (hB : Bools w A' n' c' a) (hs : Small l) (hn : n ≤ 64) :
    Calls Try.prog 18 #[.slice A n c, .slice A' n' c'] w (RetNatSame w (manyT l a)) := by
  have hc := hI.cap
  have hm := hI.max
  unfold maxLen at hm
  have HI := Lib.hid hI
  have HB := Lib.hid hB
  have HS := Lib.hid hs
  clear hI hB hs
  go_enter Try.func18, Try.ntmps18
  go_wp2
  go_loop [5, 6] (fun t i => ∃ k : Nat, k ≤ n ∧ i = .int .i64 k ∧ t = .int .i64 (manyT (l.take k) a)) (fun _ i => n - (intOf i).toNat)
  case atStart => exact ⟨0, Nat.zero_le _, rfl, rfl⟩
  case round =>
    obtain ⟨k, hk, rfl, rfl⟩ := hrel
    have hle := manyT_le (l.take k) a
    rw [List.length_take] at hle
    have hle2 : manyT (l.take k) a ≤ 64 := by omega
    clear hle
    by_cases hlt : k < n
    · obtain ⟨ad, rfl, hadS, hcell⟩ := HI.out.at_ hlt
      have hl := HI.out.len
      have hsn := manyT_snoc (a := a) (show k < l.length by omega)
      have hsx := HS.out (l.getD k 0) (by rw [List.getD_eq_getElem?_getD, List.getElem?_eq_getElem (by omega)]; simp)
      have CALL := Lib.hid (lit_any w (l.getD k 0) A' n' c' a HB.out hsx.1 hsx.2)
      have HSN := Lib.hid hsn
      clear hl hsn hsx hadS
      generalize l.getD k 0 = x at *
      cases hb : lawLit x a
      · rw [hb] at CALL HSN
        clear hb
        go_wp2_with (fail)
        (with_reducible refine CALL.out.mono ?_)
        rintro e w1 ⟨rfl, rfl⟩
        generalize hq : manyT (l.take k) a = q at *
        go_wp2
        go_round
        case rel => exact ⟨k + 1, by omega, by go_num, by rw [HSN.out]; simp [hq]⟩
        case measure => simp [intOf]; omega
      · rw [hb] at CALL HSN
        clear hb
        go_wp2_with (fail)
        (with_reducible refine CALL.out.mono ?_)
        rintro e w1 ⟨rfl, rfl⟩
        generalize hq : manyT (l.take k) a = q at *
        have HQ := Lib.hid hq
        clear hq
        go_wp2
        go_round
        case rel => exact ⟨k + 1, by omega, by go_num, by rw [HSN.out]; simp⟩
        case measure => simp [intOf]; omega
    · have ht : l.take k = l := List.take_of_length_le (by have := HI.out.len; omega)
      rw [ht] at hle2 ⊢
      clear ht
      generalize manyT l a = q at *
      go_wp2
      go_ret
      exact ⟨rfl, rfl⟩

/-- All clauses hold. -/
def allT (cs : List (List Int)) (a : List Bool) : Bool := cs.all (holdsT · a)
theorem all_snoc {p : List Int → Bool} {xs : List (List Int)} {k : Nat} (hk : k < xs.length) (h0 : (xs.take k).all p = true) (h1 : p (xs.getD k []) = true) : (xs.take (k + 1)).all p = true := by
  rw [List.getD_eq_getElem?_getD, List.getElem?_eq_getElem hk] at h1
  simp only [Option.getD_some] at h1
  rw [List.take_succ_eq_append_getElem hk, List.all_append, h0]
  simp [h1]
theorem all_miss {p : List Int → Bool} {xs : List (List Int)} {k : Nat} (hk : k < xs.length) (h1 : p (xs.getD k []) = false) : xs.all p = false := by
  rw [List.getD_eq_getElem?_getD, List.getElem?_eq_getElem hk] at h1
  simp only [Option.getD_some] at h1
  exact List.all_eq_false.2 ⟨_, List.getElem_mem hk, by simp [h1]⟩

set_option maxHeartbeats 1000000 in
theorem lawHolds_any (w : World) (A : Option Addr) (n c : Nat) (cs : List (List Int)) (A' : Option Addr) (n' c' : Nat) (a : List Bool) (hR : Rows2 w A n c cs) (hB : Bools w A' n' c' a) :
    Calls Try.prog 17 #[.slice A n c, .slice A' n' c'] w (RetBoolBelow w (allT cs a)) := by
  have hc := hR.cap
  have hm := hR.max
  unfold maxLen at hm
  have HR := Lib.hid hR
  have HB := Lib.hid hB
  clear hR hB
  go_enter Try.func17, Try.ntmps17
  go_wp2
  go_loopw [5] (fun i wr => ∃ k : Nat, k ≤ n ∧ i = .int .i64 k ∧ (cs.take k).all (holdsT · a) = true ∧ Below w.heap.size w wr) (fun i _ => n - (intOf i).toNat)
  case atStart => exact ⟨0, Nat.zero_le _, rfl, by simp, Below.refl _ _⟩
  case round =>
    obtain ⟨k, hk, rfl, hall, hbl⟩ := hrel
    have HA := Lib.hid hall
    clear hall
    by_cases hlt : k < n
    · obtain ⟨ad, B1, m1, k1, rfl, hadS, hcell, hr1⟩ := HR.out.at_ hlt
      have hl := HR.out.len
      have e1 := (hbl.cell (p := ad.add k) (by rw [block_of_add]; exact hadS)).trans hcell
      have CALL := Lib.hid (holds_any wr B1 m1 k1 _ A' n' c' a (hr1.belowLt hbl) (HB.out.belowLt hbl))
      have HL := Lib.hid hl
      clear hcell hadS hr1 hl
      cases hp : holdsT (cs.getD k []) a
      · rw [hp] at CALL
        have HN : Hid (allT cs a = false) := all_miss (by have := HL.out; omega) hp
        clear hp
        go_wp2_with (fail)
        (with_reducible refine CALL.out.mono ?_)
        rintro e w1 ⟨rfl, hb1⟩
        go_wp2_with (fail)
        go_ret
        exact ⟨by rw [HN.out]; rfl, hbl.trans (hb1.mono hbl.size)⟩
      · rw [hp] at CALL
        have HN := Lib.hid (all_snoc (by have := HL.out; omega) HA.out hp)
        clear hp
        go_wp2_with (fail)
        (with_reducible refine CALL.out.mono ?_)
        rintro e w1 ⟨rfl, hb1⟩
        go_wp2_with (fail)
        go_roundw
        case rel => exact ⟨k + 1, by omega, by go_num, HN.out, hbl.trans (hb1.mono hbl.size)⟩
        case measure => simp [intOf]; omega
    · have HN : Hid (allT cs a = true) := by have := HA.out; rwa [List.take_of_length_le (by have := HR.out.len; omega)] at this
      go_wp2_with (fail)
      go_ret
      exact ⟨by rw [HN.out]; rfl, hbl⟩

/-! ### padded -/
/-- An assignment of the variables 1 to n; what is beyond a is false. -/
def padT (a : List Bool) (n : Nat) : List Bool := (List.range (n + 1)).map fun i => decide (1 ≤ i) && a.getD i false
theorem padT_len (a : List Bool) (n : Nat) : (padT a n).length = n + 1 := by simp [padT]
/-- The first k places are done. -/
def padK (a : List Bool) (n k : Nat) : List Bool := (List.range (n + 1)).map fun i => decide (1 ≤ i) && decide (i < k) && a.getD i false
theorem padK_len (a : List Bool) (n k : Nat) : (padK a n k).length = n + 1 := by simp [padK]
theorem padK_one (a : List Bool) (n : Nat) : padK a n 1 = List.replicate (n + 1) false := by
  apply List.ext_getElem
  · simp [padK]
  · intro i h1 h2
    simp [padK]
    omega
theorem padK_all (a : List Bool) (n k : Nat) (h : n < k ∨ a.length ≤ k) : padK a n k = padT a n := by
  apply List.ext_getElem
  · simp [padK, padT]
  · intro i h1 h2
    simp only [padK, padT, List.getElem_map, List.getElem_range]
    have hi : i < n + 1 := by simpa [padK] using h1
    by_cases hik : i < k
    · simp [hik]
    · have : a.getD i false = false := by
        rw [List.getD_eq_getElem?_getD, List.getElem?_eq_none (by omega)]; rfl
      rw [this]
      simp
theorem padK_snoc (a : List Bool) (n k : Nat) (h1 : 1 ≤ k) (hk : k ≤ n) :
    ((padK a n k).map Value.bool).toArray.setIfInBounds k (.bool (a.getD k false)) = ((padK a n (k + 1)).map Value.bool).toArray := by
  apply Array.ext'
  simp only [List.setIfInBounds_toArray]
  rw [← List.map_set]
  congr 1
  apply List.ext_getElem
  · simp [padK]
  · intro i h2 h3
    have hi : i < n + 1 := by simpa [padK] using h3
    rw [List.getElem_set]
    simp only [padK, List.getElem_map, List.getElem_range]
    by_cases hik : k = i
    · subst hik
      rw [if_pos rfl]
      simp [h1]
    · rw [if_neg hik]
      have : decide (i < k + 1) = decide (i < k) := by simp; omega
      rw [this]

/-- What 'padded' hands back: a new row of its own. -/
def RetRow (w : World) (bs : List Bool) (e : Ending) (w' : World) : Prop :=
  ∃ g, e = .returned (.slice (some ⟨g, 0, none⟩) bs.length bs.length) ∧ Blk w' g 4 (bs.map Value.bool).toArray ∧ w.heap.size ≤ g ∧ Below w.heap.size w w'
theorem Bools.of_blk {w : World} {g : Nat} {bs : List Bool} (h : Blk w g 4 (bs.map Value.bool).toArray) (hm : bs.length ≤ maxLen) : Bools w (some ⟨g, 0, none⟩) bs.length bs.length bs := by
  refine ⟨rfl, Nat.le_refl _, hm, by simp, fun _ => ⟨_, rfl, lt_of_block h, fun j u hu => ?_⟩⟩
  have e : (⟨g, 0, none⟩ : Addr).add j = ⟨g, j, none⟩ := by unfold Addr.add; split <;> simp_all
  rw [e, h.cell j]
  simpa using hu
theorem bool_info : (Try.prog.info? 4).map (fun i => (i.zero, i.size, i.bytes)) = some (some (.bool false), 1, 1) := by kernel_rfl

set_option maxHeartbeats 1000000 in
theorem padded_any (w : World) (A : Option Addr) (n c : Nat) (a : List Bool) (m : Nat) (hB : Bools w A n c a) (hm : m ≤ 70000) :
    Calls Try.prog 16 #[.slice A n c, .int .i64 m] w (RetRow w (padT a m)) := by
  have hc := hB.cap
  have hmx := hB.max
  unfold maxLen at hmx
  have HB := Lib.hid hB
  clear hB
  obtain ⟨i0, hi, hz0, hz1, hz2⟩ := info_parts bool_info
  go_enter Try.func16, Try.ntmps16
  go_wp2_with (first
    | (at_make
       refine wpList_make_full _ rfl _ _ _ rfl w.heap.size 4 i0 _ 1 Try.underlying33 hi hz0 hz1 .i64 .i64 _ _ (m + 1) (by rfl) (by rfl) (by go_num) (by go_num) (by rw [hz2]; omega) (by simp only [maxLen]; omega) (Nat.le_refl _) ?_
       intro w1 hown1 hg1))
  have hblk := Blk.of_own hown1
  have hb1 : Below w.heap.size w w1 := (Below.refl _ _).grown hg1 (Nat.le_refl _) (by simp)
  have hb0 : Blk w1 w.heap.size 4 ((padK a m 1).map Value.bool).toArray := by
    have e : (madeCells (Value.cells (.bool false)) ((m + 1) * 1)).toList = (padK a m 1).map Value.bool := by
      show (madeCells #[.bool false] ((m + 1) * 1)).toList = _
      rw [toList_madeCells_one, padK_one]; simp
    rw [e] at hblk
    exact hblk
  clear hown1 hg1 hblk hi hz0 hz1 hz2
  go_loopw [6] (fun v wr => ∃ k : Nat, 1 ≤ k ∧ k ≤ m + 1 ∧ v = .int .i64 k ∧ Blk wr w.heap.size 4 ((padK a m k).map Value.bool).toArray ∧ Below w.heap.size w wr) (fun v _ => m + 1 - (intOf v).toNat)
  case atStart => exact ⟨1, by omega, by omega, rfl, hb0, hb1⟩
  case round =>
    obtain ⟨k, hk1, hk, rfl, hblk, hbl⟩ := hrel
    have HBK := Lib.hid hblk
    by_cases hlt : k ≤ m
    · by_cases hln : k < n
      · obtain ⟨ad, rfl, hadS, hcell⟩ := HB.out.at_ hln
        have e1 := (hbl.cell (p := ad.add k) (by rw [block_of_add]; exact hadS)).trans hcell
        have hfz := hblk.frozen k
        obtain ⟨u, hu⟩ : ∃ u, wr.cell? ⟨w.heap.size, k, none⟩ = some u := by
          rw [hblk.cell k]
          exact ⟨_, Array.getElem?_eq_getElem (by simp [padK_len]; omega)⟩
        have hset := hblk.set_ k (.bool (a.getD k false))
        rw [padK_snoc a m k hk1 hlt] at hset
        have HSET := Lib.hid hset
        clear hcell hadS hset hblk
        generalize a.getD k false = b at *
        go_wp2
        go_roundw
        case rel => exact ⟨k + 1, by omega, by omega, by go_num, HSET.out, hbl.setCell (by simp) _⟩
        case measure => simp [intOf]; omega
      · have hp := padK_all a m k (.inr (by have := HB.out.len; omega))
        rw [hp] at HBK
        clear hblk hp
        go_wp2
        go_ret
        exact ⟨w.heap.size, by rw [padT_len]; rfl, HBK.out, Nat.le_refl _, hbl⟩
    · have hp := padK_all a m k (.inl (by omega))
      rw [hp] at HBK
      clear hblk hp
      go_wp2
      go_ret
      exact ⟨w.heap.size, by rw [padT_len]; rfl, HBK.out, Nat.le_refl _, hbl⟩
end Go.Proofs.Ytohffgggogdgmaa
