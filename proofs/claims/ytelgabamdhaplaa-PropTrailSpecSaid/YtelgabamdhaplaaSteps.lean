/-
  Slices of steps (api.Step: two ints a step); prop.Levels.
-/
import Derived.Test.YtelgabamdhaplaaCheck
import Derived.Test.YtelgabamdhaplaaOne
import Derived.Deep.DeepMust
import Derived.Deep.CutRange
import Derived.Deep.DeepCutAuto
namespace Go.Proofs.Ytelgabamdhaplaa
open Go.RowKit

/-- A step: its literal and its reason. -/
abbrev TStep := Int × Int
def flat : List TStep → List Value
  | [] => []
  | p :: r => .int .i64 p.1 :: .int .i64 p.2 :: flat r
theorem flat_len : ∀ ts : List TStep, (flat ts).length = ts.length * 2
  | [] => rfl
  | p :: r => by simp only [flat, List.length_cons, flat_len r]; omega
theorem flat_append : ∀ a b : List TStep, flat (a ++ b) = flat a ++ flat b
  | [], _ => rfl
  | p :: r, b => by simp only [List.cons_append, flat, flat_append r b]
theorem flat_get : ∀ {ts : List TStep} {k : Nat}, k < ts.length → (flat ts)[k * 2]? = some (.int .i64 (ts.getD k (0, 0)).1) ∧ (flat ts)[k * 2 + 1]? = some (.int .i64 (ts.getD k (0, 0)).2)
  | p :: r, 0, _ => ⟨rfl, rfl⟩
  | p :: r, k + 1, h => by
    have := flat_get (ts := r) (k := k) (by simpa using h)
    simp only [flat, Nat.succ_mul, List.getD_cons_succ]
    exact this
theorem flat_oneCell : ∀ ts : List TStep, ∀ u ∈ flat ts, u.oneCell' = true
  | p :: r, u, h => by
    simp only [flat, List.mem_cons] at h
    rcases h with rfl | rfl | h
    · rfl
    · rfl
    · exact flat_oneCell r u h
/-- A slice of steps. -/
structure Steps (w : World) (A : Option Addr) (n c : Nat) (ts : List TStep) : Prop where
  len : n = ts.length
  cap : n ≤ c
  max : c ≤ maxLen
  reads : Reads w (Lt w) 2 A n (flat ts)
theorem Steps.belowLt {w w' : World} {A : Option Addr} {n c : Nat} {ts : List TStep} (h : Steps w A n c ts) (hb : Below w.heap.size w w') : Steps w' A n c ts :=
  ⟨h.len, h.cap, h.max, h.reads.keep' (fun p hp => hb.cell hp) (fun _ hk => Nat.lt_of_lt_of_le hk hb.size)⟩
theorem Steps.at_ {w : World} {A : Option Addr} {n c : Nat} {ts : List TStep} {k : Nat} (h : Steps w A n c ts) (hk : k < n) :
    ∃ ad, A = some ad ∧ ad.block < w.heap.size ∧ w.cell? (ad.add (k * 2)) = some (.int .i64 (ts.getD k (0, 0)).1) ∧ w.cell? ⟨(ad.add (k * 2)).block, (ad.add (k * 2)).off + 1, none⟩ = some (.int .i64 (ts.getD k (0, 0)).2) := by
  obtain ⟨ad, e, hb, hc⟩ := h.reads.2 (by omega)
  obtain ⟨h1, h2⟩ := flat_get (ts := ts) (k := k) (by have := h.len; omega)
  exact ⟨ad, e, hb, hc _ _ h1, by
    have e1 : (⟨(ad.add (k * 2)).block, (ad.add (k * 2)).off + 1, none⟩ : Addr) = (ad.add (k * 2)).add 1 := rfl
    rw [e1, add_of_add]; exact hc _ _ h2⟩
/-- Every number of the steps fits. -/
def SFits (ts : List TStep) : Prop := ∀ p ∈ ts, (Lit.int .i64 p.1).wf = true ∧ (Lit.int .i64 p.2).wf = true

/-- The levels: how many decisions so far. -/
def levG (n : Int) : List TStep → List Int
  | [] => []
  | p :: r => let m := if p.2 = -1 then n + 1 else n; m :: levG m r
def levR (ts : List TStep) : List Int := levG 0 ts
def decs (ts : List TStep) : Nat := ts.countP (fun p => p.2 == -1)

theorem levG_get : ∀ {n : Int} {ts : List TStep} {k : Nat}, k < ts.length → (levG n ts).getD k 0 = n + decs (ts.take (k + 1))
  | n, p :: r, 0, _ => by
    simp only [levG, List.getD_cons_zero, List.take_succ_cons, List.take_zero, decs, List.countP_cons, List.countP_nil]
    by_cases h : p.2 = -1 <;> simp [h]
  | n, p :: r, k + 1, h => by
    simp only [levG, List.getD_cons_succ]
    rw [levG_get (by simpa using h)]
    simp only [List.take_succ_cons, decs, List.countP_cons]
    by_cases h : p.2 = -1 <;> simp [h] <;> omega
theorem levG_len : ∀ (n : Int) (ts : List TStep), (levG n ts).length = ts.length
  | _, [] => rfl
  | n, p :: r => by simp [levG, levG_len _ r]
theorem decs_le (ts : List TStep) : decs ts ≤ ts.length := List.countP_le_length
theorem decs_snoc {ts : List TStep} {k : Nat} (h : k < ts.length) : decs (ts.take (k + 1)) = decs (ts.take k) + if (ts.getD k (0, 0)).2 = -1 then 1 else 0 := by
  unfold decs
  rw [List.take_succ_eq_append_getElem h, List.countP_append, List.getD_eq_getElem?_getD, List.getElem?_eq_getElem h]
  simp [List.countP_cons]
theorem levR_take {ts : List TStep} {k : Nat} (h : k < ts.length) : (levR ts).take (k + 1) = (levR ts).take k ++ [(decs (ts.take (k + 1)) : Int)] := by
  have hl : k < (levR ts).length := by unfold levR; rw [levG_len]; exact h
  rw [List.take_succ_eq_append_getElem hl]
  congr 2
  have := levG_get (n := 0) h
  rw [Int.zero_add] at this
  rw [← this]
  show (levR ts)[k] = (levR ts).getD k 0
  rw [List.getD_eq_getElem?_getD, List.getElem?_eq_getElem hl]; rfl

set_option maxHeartbeats 2000000 in
set_option maxRecDepth 100000 in
theorem levels_any (w : World) (A : Option Addr) (n c : Nat) (ts : List TStep) (h : Steps w A n c ts) (hn : n ≤ 100000) : Calls Try.prog 14 #[.slice A n c] w (RetIntsNew w (levR ts)) := by
  have hcap := h.cap
  have hmax := h.max
  unfold maxLen at hmax
  have HS := Lib.hid h
  have HL := Lib.hid h.len
  obtain ⟨i0, hi0, hz0, hz1, hz2⟩ := info_parts int_info
  clear h
  go_enter Try.func14, Try.ntmps14
  go_wp2
  go_loopw [3, 4, 9] (fun v3 v4 v9 wr => ∃ (k : Nat) (A2 : Option Addr) (c2 : Nat), k ≤ n ∧ v9 = .int .i64 k ∧ v4 = .int .i64 (decs (ts.take k)) ∧ v3 = .slice A2 k c2 ∧ wr.ownsRow w.heap.size 3 1 (.slice A2 k c2) k (((levR ts).take k).map (Value.int .i64)) ∧ Below w.heap.size w wr) (fun _ _ v9 _ => n - (intOf v9).toNat)
  case atStart => exact ⟨0, none, 0, Nat.zero_le _, rfl, rfl, rfl, World.ownsRow_nil _ _ _ _, Below.refl _ _⟩
  case round =>
    obtain ⟨k, A2, c2, hk, rfl, rfl, rfl, hown, hb⟩ := hrel
    have hdl := decs_le (ts.take k)
    rw [List.length_take] at hdl
    by_cases hlt : k < n
    · obtain ⟨ad, rfl, hadS, hc1, hc2⟩ := HS.out.at_ hlt
      have e1 := (hb.cell (p := ad.add (k * 2)) (by rw [block_of_add]; exact hadS)).trans hc1
      have e2 := (hb.cell (p := ⟨(ad.add (k * 2)).block, (ad.add (k * 2)).off + 1, none⟩) (by show (ad.add (k * 2)).block < _; rw [block_of_add]; exact hadS)).trans hc2
      have hsn := decs_snoc (show k < ts.length by have := HL.out; omega)
      have HLT := Lib.hid (levR_take (show k < ts.length by have := HL.out; omega))
      obtain ⟨q, hq⟩ : ∃ q, q = decs (ts.take (k + 1)) := ⟨_, rfl⟩
      rw [← hq] at hsn HLT
      have HQ := Lib.hid hq
      clear hadS hc1 hc2 hq
      generalize ts.getD k (0, 0) = p at *
      obtain ⟨li, wy⟩ := p
      generalize hP : decs (ts.take k) = P at *
      have hP9 : P ≤ 100000 := by omega
      have hq9 : q ≤ 100001 := by rw [hsn]; split <;> omega
      have HSN := Lib.hid hsn
      clear hP hdl hsn
      go_upto_if 15 with (fail)
      obtain ⟨wa, hwa⟩ : ∃ wa, wa = wr.alloc (.cells #[.int .i64 li, .int .i64 wy] 39) := ⟨_, rfl⟩
      rw [← hwa]
      have hba : Below w.heap.size w wa := by rw [hwa]; exact hb.alloc hb.size _
      have howna : wa.ownsRow w.heap.size 3 1 (.slice A2 k c2) k (((levR ts).take k).map (Value.int .i64)) := by rw [hwa]; exact hown.alloc _
      have hbw := hba.size
      clear hwa hb hown e1 e2
      go_cut [4] (fun v wx => v = .int .i64 q ∧ wa = wx)
      case first =>
        have hsn := HSN.out
        by_cases hw : wy = -1
        · rw [if_pos hw] at hsn
          subst hw hsn
          go_wp2
          go_meet
          case rel => exact ⟨by go_num, rfl⟩
        · rw [if_neg hw] at hsn
          obtain rfl : q = P := by omega
          clear hsn
          have hwb : (wy == -1) = false := by simpa using hw
          go_wp2
          go_meet
          case rel => exact ⟨rfl, rfl⟩
      obtain ⟨rfl, rfl⟩ := hcut
      go_wp2_with (first
        | (at_builtin
           go_must (refine wpList_append_one _ rfl (.tmp 18) (.tmp 20) _ rfl w.heap.size 3 i0 _ 8 Try.underlying29 hi0 hz0 hz1 hz2 rfl (.slice A2 k c2) k (((levR ts).take k).map (Value.int .i64)) (by rfl) howna 3 (.int .i64 q) 1 rfl (by rfl) (by simp only [maxLen]; omega) (by omega) hbw ?_)
           intro A9 c9 w9 ho9 hg9 hb9))
      have HB9 := Lib.hid (hba.grown hg9 hbw (fun g hg => (howna.lt g hg).1))
      have HO9 : Hid (w9.ownsRow w.heap.size 3 1 (.slice A9 (k + 1) c9) (k + 1) (((levR ts).take (k + 1)).map (Value.int .i64))) := by
        show w9.ownsRow w.heap.size 3 1 (.slice A9 (k + 1) c9) (k + 1) (((levR ts).take (k + 1)).map (Value.int .i64))
        rw [HLT.out, List.map_append]; exact ho9
      clear ho9 hg9 hb9 howna hba
      go_roundw
      case rel => exact ⟨k + 1, A9, c9, by omega, by go_num, by rw [HQ.out], rfl, HO9.out, HB9.out⟩
      case measure => simp [intOf]; omega
    · obtain rfl : n = k := by omega
      have hfull : (levR ts).take n = levR ts := List.take_of_length_le (by unfold levR; rw [levG_len]; have := HL.out; omega)
      rw [hfull] at hown
      have HO := Lib.hid hown
      have HB := Lib.hid hb
      generalize decs (ts.take n) = P at *
      clear hown hb hfull
      go_wp2
      go_ret
      exact ⟨A2, n, c2, rfl, HO.out, HB.out⟩
end Go.Proofs.Ytelgabamdhaplaa
