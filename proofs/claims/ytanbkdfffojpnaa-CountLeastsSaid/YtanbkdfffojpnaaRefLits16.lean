/-
  chalklineref16.lits.
-/
import Derived.Test.YtanbkdfffojpnaaRight
import Derived.Test.YtanbkdfffojpnaaLaw16
import Derived.Test.YtanbkdfffojpnaaBlk
namespace Go.Proofs.Ytanbkdfffojpnaa
open Go.RowKit

/-- Which variables were met. -/
def metL (m : Nat) (seen : List Int) : List Bool := (List.range m).map fun (i : Nat) => decide ((i : Int) ∈ seen)
theorem metL_len (m : Nat) (seen : List Int) : (metL m seen).length = m := by simp [metL]
theorem metL_nil (m : Nat) : metL m [] = List.replicate m false := by
  apply List.ext_getElem
  · simp [metL]
  · intro i h1 h2; simp [metL]
theorem metL_get {m v : Nat} (seen : List Int) (h : v < m) : (metL m seen).getD v false = decide ((v : Int) ∈ seen) := by
  rw [List.getD_eq_getElem?_getD, List.getElem?_eq_getElem (by rw [metL_len]; exact h)]
  simp [metL]
theorem metL_cons (m v : Nat) (seen : List Int) :
    ((metL m seen).map Value.bool).toArray.setIfInBounds v (.bool true) = ((metL m ((v : Int) :: seen)).map Value.bool).toArray := by
  apply Array.ext'
  simp only [List.setIfInBounds_toArray]
  rw [← List.map_set]
  congr 1
  apply List.ext_getElem
  · simp [metL]
  · intro i h2 h3
    rw [List.getElem_set]
    simp only [metL, List.getElem_map, List.getElem_range]
    by_cases hik : v = i
    · subst hik
      rw [if_pos rfl]
      simp
    · rw [if_neg hik]
      have : ((i : Int) ∈ (v : Int) :: seen) ↔ (i : Int) ∈ seen := by
        simp only [List.mem_cons]
        constructor
        · rintro (h | h)
          · omega
          · exact h
        · exact .inr
      simp only [this]


set_option maxHeartbeats 1000000 in
set_option maxRecDepth 100000 in
theorem lits16_loop (w : World) (n c : Nat) (A : Option Addr) (xs : List Int) (m : Nat) (h : Ints w (Lt w) A n c xs) (hf : Fits xs) (hn1 : 1 ≤ m) (hn2 : m ≤ 65537) (hn : n ≤ 4096) :
    Calls Try.prog 30 #[.slice A n c, .int .i64 m] w (RetIntBelow w (apE (apartB m xs))) := by
  have hcap := h.cap
  have hmax := h.max
  unfold maxLen at hmax
  have HI := Lib.hid h
  have HF := Lib.hid hf
  clear h hf
  obtain ⟨i0, hi, hz0, hz1, hz2⟩ := info_parts bool_info
  have hmx : max (0 : Int) (m : Int) = (m : Int) := by omega
  have e1 : decide ((m : Int) < 1) = false := by simp; omega
  have e2 : decide ((65537 : Int) < (m : Int)) = false := by simp; omega
  have e3 : decide ((4096 : Int) < (n : Int)) = false := by simp; omega
  go_enter Try.func30, Try.ntmps30
  go_wp2_with (first
    | (at_make
       refine wpList_make_full _ rfl _ _ _ rfl w.heap.size 4 i0 _ 1 Try.underlying30 hi hz0 hz1 .i64 .i64 _ _ m (by rfl) (by rfl) (by go_num) (by go_num) (by rw [hz2]; omega) (by simp only [maxLen]; omega) (Nat.le_refl _) ?_
       intro w1 hown1 hg1))
  have hblk := Blk.of_own hown1
  have hb1 : Below w.heap.size w w1 := (Below.refl _ _).grown hg1 (Nat.le_refl _) (by simp)
  have hb0 : Blk w1 w.heap.size 4 ((metL m []).map Value.bool).toArray := by
    have e : (madeCells (Value.cells (.bool false)) (m * 1)).toList = (metL m []).map Value.bool := by
      show (madeCells #[.bool false] (m * 1)).toList = _
      rw [toList_madeCells_one, metL_nil]; simp
    rw [e] at hblk
    exact hblk
  clear e1 e2 e3 hown1 hg1 hblk hi hz0 hz1 hz2 hmx
  go_loopw [24] (fun i wr => ∃ (k : Nat) (seen : List Int), k ≤ n ∧ i = .int .i64 k ∧ Blk wr w.heap.size 4 ((metL m seen).map Value.bool).toArray ∧ apartB m xs = apartG m seen (xs.drop k) ∧ Below w.heap.size w wr) (fun i _ => n - (intOf i).toNat)
  case atStart => exact ⟨0, [], Nat.zero_le _, rfl, hb0, rfl, hb1⟩
  case round =>
    obtain ⟨k, seen, hk, rfl, hv, he, hb⟩ := hrel
    have HE := Lib.hid he
    have hl := HI.out.len
    clear he hb0 hb1
    by_cases hlt : k < n
    · obtain ⟨ad, rfl, hadS, hcell⟩ := HI.out.at_ hlt
      have hcell' := (hb.cell (p := ad.add k) (by rw [block_of_add]; exact hadS)).trans hcell
      have hd : xs.drop k = xs.getD k 0 :: xs.drop (k + 1) := by
        rw [List.drop_eq_getElem_cons (by omega), List.getD_eq_getElem?_getD, List.getElem?_eq_getElem (by omega)]; rfl
      have hfx := HF.out (xs.getD k 0) (by rw [List.getD_eq_getElem?_getD, List.getElem?_eq_getElem (by omega)]; simp)
      have HD := Lib.hid hd
      clear hcell hd hl
      generalize xs.getD k 0 = x at *
      have hbd : -9223372036854775808 ≤ x ∧ x ≤ 9223372036854775807 := by simpa [Lit.wf, IntKind.min, IntKind.max, IntKind.signed, IntKind.bits] using hfx
      clear hfx
      have HBL := Lib.hid hv
      clear hv
      go_upto_region 7 with (fail)
      go_cut [24, 8] from 24 to 48 (fun t6 t7 wx => ∃ v : Int, t7 = .int .i64 v ∧ t6 = .int .i64 k ∧ (v = x.natAbs ∨ (v < 0 ∧ (m : Int) ≤ x.natAbs)) ∧ v < 9223372036854775808 ∧ wr = wx)
      case first =>
        by_cases h0 : 0 ≤ x
        · go_wp2
          all_goals go_meet
          all_goals exact ⟨_, rfl, rfl, .inl (by omega), by omega, rfl⟩
        · by_cases h1 : x = -9223372036854775808
          · have HX : Hid ((m : Int) ≤ (x.natAbs : Int)) := by show (m : Int) ≤ (x.natAbs : Int); omega
            have hw : wrap64 (-x) = x := by subst h1; kernel_rfl
            clear h1
            go_wp2
            all_goals go_meet
            all_goals exact ⟨_, rfl, rfl, .inr ⟨by omega, HX.out⟩, by omega, rfl⟩
          · have h2 : -9223372036854775807 ≤ x := by omega
            clear h1
            go_wp2
            all_goals go_meet
            all_goals exact ⟨_, rfl, rfl, .inl (by omega), by omega, rfl⟩
      case rest =>
        obtain ⟨v, rfl, rfl, hvx, hvb, rfl⟩ := hcut
        by_cases hv0 : v < 0
        · have HFIN : Hid (apE (apartB m xs) = 140) := by
            show apE (apartB m xs) = 140
            unfold apE; rw [if_neg]; rw [HE.out, HD.out, apartG_no (.inr (.inl (by omega)))]; simp
          clear hvx
          go_wp2
          go_ret
          exact ⟨by rw [HFIN.out]; rfl, hb⟩
        obtain rfl : v = x.natAbs := by omega
        generalize hvv : x.natAbs = v at *
        clear hv0 hvb
        by_cases hvn : m ≤ v
        · have HFIN : Hid (apE (apartB m xs) = 140) := by
            show apE (apartB m xs) = 140
            unfold apE; rw [if_neg]; rw [HE.out, HD.out, apartG_no (.inr (.inl (by omega)))]; simp
          clear hvx hbd hvv
          go_wp2
          go_ret
          exact ⟨by rw [HFIN.out]; rfl, hb⟩
        by_cases hvz : v = 0
        · have HFIN : Hid (apE (apartB m xs) = 140) := by
            show apE (apartB m xs) = 140
            unfold apE; rw [if_neg]; rw [HE.out, HD.out, apartG_no (.inl (by omega))]; simp
          clear hvx hbd hvv
          subst hvz
          go_wp2
          go_ret
          exact ⟨by rw [HFIN.out]; rfl, hb⟩
        have hcv : wr.cell? ⟨w.heap.size, v, none⟩ = some (.bool (decide ((v : Int) ∈ seen))) := by
          rw [HBL.out.cell v]
          have := metL_get seen (show v < m by omega)
          rw [← this, List.getD_eq_getElem?_getD, List.getElem?_eq_getElem (by rw [metL_len]; omega)]
          simp
        have hfz := HBL.out.frozen v
        by_cases hin : (v : Int) ∈ seen
        · have HFIN : Hid (apE (apartB m xs) = 140) := by
            show apE (apartB m xs) = 140
            unfold apE; rw [if_neg]; rw [HE.out, HD.out, apartG_no (.inr (.inr (by rw [hvv]; exact hin)))]; simp
          have hd : decide ((v : Int) ∈ seen) = true := by simpa using hin
          rw [hd] at hcv
          clear hvx hbd hvv hd hin
          go_wp2
          go_ret
          exact ⟨by rw [HFIN.out]; rfl, hb⟩
        · have hd : decide ((v : Int) ∈ seen) = false := by simpa using hin
          rw [hd] at hcv
          have hset := HBL.out.set_ v (.bool true)
          rw [metL_cons] at hset
          have HSET := Lib.hid hset
          have HE2 : Hid (apartB m xs = apartG m ((v : Int) :: seen) (xs.drop (k + 1))) := by
            show apartB m xs = _
            rw [HE.out, HD.out, apartG_yes (by omega) (by omega) (by rw [hvv]; exact hin), hvv]
          clear hvx hbd hvv hd hin hset HE HD
          go_wp2
          go_roundw
          case rel => exact ⟨k + 1, (v : Int) :: seen, by omega, by go_num, HSET.out, HE2.out, hb.setCell (by simp) _⟩
          case measure => simp [intOf]; omega
    · have hkn : k = n := by omega
      have HFIN : Hid (apE (apartB m xs) = 0) := by
        show apE (apartB m xs) = 0
        unfold apE; rw [if_pos]; rw [HE.out, List.drop_of_length_le (by omega)]; rfl
      clear hl hkn
      go_wp2
      go_ret
      exact ⟨by rw [HFIN.out]; rfl, hb⟩

set_option maxHeartbeats 1000000 in
theorem lits16_any (w : World) (n c : Nat) (A : Option Addr) (xs : List Int) (next : Int) (h : Ints w (Lt w) A n c xs) (hf : Fits xs) :
    Calls Try.prog 30 #[.slice A n c, .int .i64 next] w (RetIntBelow w (rightR xs next)) := by
  have hlen := h.len
  have hcap := h.cap
  have hmax := h.max
  unfold maxLen at hmax
  by_cases hbad : next < 1 ∨ 65537 < next ∨ 4096 < xs.length
  · have e : rightR xs next = 1 := by unfold rightR; rw [if_pos hbad]
    rw [e]
    clear e h hf
    rw [← hlen] at hbad
    clear hlen
    by_cases h1 : next < 1
    · clear hbad
      go_enter Try.func30, Try.ntmps30
      go_wp2
      go_ret
      exact ⟨rfl, Below.refl _ _⟩
    by_cases h2 : 65537 < next
    · clear hbad
      go_enter Try.func30, Try.ntmps30
      go_wp2
      go_ret
      exact ⟨rfl, Below.refl _ _⟩
    have h3 : 4096 < n := by omega
    have e1 : decide (next < 1) = false := by simp; omega
    have e2 : decide ((65537 : Int) < next) = false := by simp; omega
    clear hbad
    go_enter Try.func30, Try.ntmps30
    go_wp2
    go_ret
    exact ⟨rfl, Below.refl _ _⟩
  · have e : rightR xs next = apE (apartB next xs) := by unfold rightR apE; rw [if_neg hbad]
    rw [e]
    obtain ⟨m, rfl⟩ : ∃ m : Nat, next = m := ⟨next.toNat, by omega⟩
    exact lits16_loop w n c A xs m h hf (by omega) (by omega) (by omega)
end Go.Proofs.Ytanbkdfffojpnaa
