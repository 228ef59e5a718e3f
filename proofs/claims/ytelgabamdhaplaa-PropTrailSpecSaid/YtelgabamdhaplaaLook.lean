/-
  engine.look: up to two literals that are not false.
-/
import Derived.Test.YtelgabamdhaplaaTrailCheck
namespace Go.Proofs.Ytelgabamdhaplaa
open Go.RowKit

def mayOpen (known op : List Int) (x : Int) : Bool := !decide (-x ∈ known) && decide (op.length < 2) && !decide (x ∈ op)
def lookG (known : List Int) : List Int → List Int → List Int × Bool
  | op, [] => (op, false)
  | op, x :: r => if x ∈ known then ([x], true) else if mayOpen known op x = true then lookG known (op ++ [x]) r else lookG known op r
def lookR (known l : List Int) : List Int × Bool := lookG known [] l

def RetLook (w : World) (r : List Int × Bool) (e : Ending) (w' : World) : Prop :=
  ∃ A n c, e = .returned (.tuple #[.slice A n c, .bool r.2]) ∧ w'.ownsRow w.heap.size 3 1 (.slice A n c) n (r.1.map (Value.int .i64)) ∧ Below w.heap.size w w'

set_option maxHeartbeats 4000000 in
set_option maxRecDepth 100000 in
theorem look_any (w : World) (g bm nk : Nat) (A : Option Addr) (n c : Nat) (cs : List (List Int)) (known : List Int) (i : Nat) (hi : i < n)
    (c0 : w.cell? ⟨g, 0, none⟩ = some (.map (some bm))) (c1 : w.cell? ⟨g, 1, none⟩ = some (.slice A n c)) (hgl : g < w.heap.size)
    (hv : VMap w bm nk (litF known)) (hR : Rows2 w A n c cs) (hlit : ∀ l ∈ cs, ∀ x ∈ l, -65536 ≤ x ∧ x ≤ 65536) :
    Calls Try.prog 51 #[.pointer (some ⟨g, 0, none⟩), .int .i64 i] w (RetLook w (lookR known (cs.getD i []))) := by
  obtain ⟨ad, A', n', c', rfl, hadS, hcl, hI⟩ := hR.at_ hi
  have hx : ∀ x ∈ cs.getD i [], -65536 ≤ x ∧ x ≤ 65536 := by
    refine hlit _ ?_
    rw [List.getD_eq_getElem?_getD, List.getElem?_eq_getElem (by have := hR.len; omega)]; simp
  have hcap := hR.cap
  have hmax := hR.max
  have hc := hI.cap
  have hm := hI.max
  unfold maxLen at hm hmax
  generalize cs.getD i [] = l at *
  have HI := Lib.hid hI
  have HX := Lib.hid hx
  have HL := Lib.hid hI.len
  have HV := Lib.hid hv
  have C0 := Lib.hid c0
  obtain ⟨i0, hi0, hz0, hz1, hz2⟩ := info_parts int_info
  clear hI hx hR hlit hv
  go_enter Try.func51, Try.ntmps51
  go_wp2
  clear c0 c1 hcl
  go_loopw [4, 7, 16] (fun v4 v7 v16 wr => ∃ (k q : Nat) (op : List Int) (A2 : Option Addr) (c2 : Nat), k ≤ n' ∧ q ≤ 2 ∧ v16 = .int .i64 k ∧ v4 = .slice A2 q c2 ∧ q = op.length ∧ wr.ownsRow w.heap.size 3 1 (.slice A2 q c2) q (op.map (Value.int .i64)) ∧ Below w.heap.size w wr ∧ lookR known l = lookG known op (l.drop k)) (fun _ _ v _ => n' - (intOf v).toNat)
  case atStart => exact ⟨0, 0, [], none, 0, Nat.zero_le _, by omega, rfl, rfl, rfl, World.ownsRow_nil _ _ _ _, Below.refl _ _, rfl⟩
  case round =>
    obtain ⟨k, q, op, A2, c2, hk, hq2, rfl, rfl, hq, hown, hb, hT⟩ := hrel
    have HQ := Lib.hid hq
    have HT := Lib.hid hT
    clear hq hT
    by_cases hlt : k < n'
    case neg =>
      have HE : Hid (lookR known l = (op, false)) := by
        show lookR known l = (op, false)
        rw [HT.out, List.drop_of_length_le (by have := HL.out; omega)]; rfl
      have HO := Lib.hid hown
      have HB := Lib.hid hb
      clear hown hb
      go_wp2
      refine bodyPost_ret (v := .tuple #[.slice A2 q c2, .bool false]) (by simp [results, Try.results51, go_sem]) rfl ?_
      rw [HE.out]
      exact ⟨A2, q, c2, rfl, HO.out, HB.out⟩
    obtain ⟨ad', rfl, hadS', hcell⟩ := HI.out.at_ hlt
    have e1 := (hb.cell (p := ad'.add k) (by rw [block_of_add]; exact hadS')).trans hcell
    have e0 := (hb.cell (p := ⟨g, 0, none⟩) hgl).trans C0.out
    have hdr : l.drop k = l.getD k 0 :: l.drop (k + 1) := by
      rw [List.drop_eq_getElem_cons (by have := HL.out; omega), List.getD_eq_getElem?_getD, List.getElem?_eq_getElem (by have := HL.out; omega)]; rfl
    have hmem : l.getD k 0 ∈ l := by rw [List.getD_eq_getElem?_getD, List.getElem?_eq_getElem (by have := HL.out; omega)]; simp
    obtain ⟨hx0, hx1⟩ := HX.out _ hmem
    have hv2 := HV.out.keep (hb.block _ HV.out.lt)
    generalize l.getD k 0 = x at *
    have hw1 : (Lit.int .i64 x).wf = true := wf_small (by omega) (by omega)
    have hw2 : (Lit.int .i64 (-x)).wf = true := wf_small (by omega) (by omega)
    have l1 := hv2.lookup (t := 53) Try.underlying53 (bool_zero _) hw1
    have l2 := hv2.lookup (t := 53) (k := -x) Try.underlying53 (bool_zero _) hw2
    rw [litF_get] at l1 l2
    have HTT : Hid (lookR known l = if x ∈ known then ([x], true) else if mayOpen known op x = true then lookG known (op ++ [x]) (l.drop (k + 1)) else lookG known op (l.drop (k + 1))) := by
      show lookR known l = _
      rw [HT.out, hdr]; rfl
    clear HT hdr hmem hcell hadS' hv2
    have HB := Lib.hid hb
    have HO := Lib.hid hown
    have hbw := hb.size
    by_cases hk1 : x ∈ known
    · have HE := HTT.out
      rw [if_pos hk1] at HE
      have HE' := Lib.hid HE
      rw [decide_eq_true hk1] at l1
      clear hk1 HE HTT hown hb
      go_wp2
      refine bodyPost_ret (v := .tuple #[.slice (some ⟨wr.heap.size, 0, none⟩) 1 1, .bool true]) (by simp [results, Try.results51, go_sem]) rfl ?_
      rw [HE'.out]
      exact ⟨_, 1, 1, rfl, World.ownsRow_lit wr #[.int .i64 x] 1 hbw (by simp [maxLen]) rfl, below_then HB.out (alloc_lt _)⟩
    rw [decide_eq_false hk1] at l1
    have HT2 := HTT.out
    rw [if_neg hk1] at HT2
    clear hk1 HTT
    by_cases hk2 : -x ∈ known
    · have hno : mayOpen known op x = false := by unfold mayOpen; simp [hk2]
      rw [hno, if_neg (by simp)] at HT2
      have HE := Lib.hid HT2
      rw [decide_eq_true hk2] at l2
      clear hk2 hno HT2 hown hb
      go_wp2
      go_roundw
      case rel => exact ⟨k + 1, q, op, A2, c2, by omega, hq2, by go_num, rfl, HQ.out, HO.out, HB.out, HE.out⟩
      case measure => simp [intOf]; omega
    rw [decide_eq_false hk2] at l2
    by_cases hk3 : q < 2
    case neg =>
      have hno : mayOpen known op x = false := by unfold mayOpen; have := HQ.out; simp; omega
      rw [hno, if_neg (by simp)] at HT2
      have HE := Lib.hid HT2
      obtain rfl : q = 2 := by omega
      clear hk2 hno HT2 hown hb hk3
      go_wp2
      go_roundw
      case rel => exact ⟨k + 1, 2, op, A2, c2, by omega, hq2, by go_num, rfl, HQ.out, HO.out, HB.out, HE.out⟩
      case measure => simp [intOf]; omega
    have hlt2 : decide ((q : Int) < 2) = true := by simp; omega
    have call := containsI wr A2 q c2 op x (Ints.of_ownLt hown)
    by_cases hk4 : x ∈ op
    · have hno : mayOpen known op x = false := by unfold mayOpen; simp [hk4]
      rw [hno, if_neg (by simp)] at HT2
      have HE := Lib.hid HT2
      rw [decide_eq_true hk4] at call
      have CALL := Lib.hid call
      clear hk2 hno HT2 hown hb hk3 hk4 call
      go_wp2_with (fail)
      (with_reducible refine CALL.out.mono ?_)
      rintro e w1 ⟨rfl, hb1⟩
      have HB1 := Lib.hid (below_then HB.out hb1)
      have HO1 := Lib.hid (own_below HO.out hb1 (Nat.le_refl _))
      clear hb1
      go_wp2
      go_roundw
      case rel => exact ⟨k + 1, q, op, A2, c2, by omega, hq2, by go_num, rfl, HQ.out, HO1.out, HB1.out, HE.out⟩
      case measure => simp [intOf]; omega
    · have hyes : mayOpen known op x = true := by unfold mayOpen; have := HQ.out; simp [hk2, hk4]; omega
      rw [hyes, if_pos rfl] at HT2
      have HE := Lib.hid HT2
      rw [decide_eq_false hk4] at call
      have CALL := Lib.hid call
      clear hk2 hyes HT2 hown hb hk4 call
      go_wp2_with (fail)
      (with_reducible refine CALL.out.mono ?_)
      rintro e w1 ⟨rfl, hb1⟩
      have HB1 := Lib.hid (below_then HB.out hb1)
      have HO1 := own_below HO.out hb1 (Nat.le_refl _)
      have hbw1 := HB1.out.size
      clear hb1
      go_wp2_with (first
        | (at_builtin
           go_must (refine wpList_append_one _ rfl (.tmp 49) (.tmp 51) _ rfl w.heap.size 3 i0 _ 8 Try.underlying29 hi0 hz0 hz1 hz2 rfl (.slice A2 q c2) q (op.map (Value.int .i64)) (by rfl) HO1 3 (.int .i64 x) 1 rfl (by rfl) (by simp only [maxLen]; omega) (by omega) hbw1 ?_)
           intro A9 c9 w9 ho9 hg9 hb9))
      have HB9 := Lib.hid (HB1.out.grown hg9 hbw1 (fun g hg => (HO1.lt g hg).1))
      have HO9 := Lib.hid ho9
      clear ho9 hg9 hb9 HO1
      go_roundw
      case rel => exact ⟨k + 1, q + 1, op ++ [x], A9, c9, by omega, by omega, by go_num, rfl, by simp; exact HQ.out, by rw [List.map_append]; exact HO9.out, HB9.out, HE.out⟩
      case measure => simp [intOf]; omega
end Go.Proofs.Ytelgabamdhaplaa
