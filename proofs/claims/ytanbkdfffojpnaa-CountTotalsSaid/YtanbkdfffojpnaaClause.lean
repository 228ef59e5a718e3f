/-
  total.Total$1 ('clause'): it appends the joined parts to the captured list of clauses.
-/
import Derived.Test.YtanbkdfffojpnaaBase
import Derived.OneCell
import Derived.Deep.DeepMust
namespace Go.Proofs.Ytanbkdfffojpnaa
open Go.RowKit

/-- The parts of a clause: each a slice of ints. -/
def Parts (w : World) (S : Nat → Prop) (ps : List Value) (pss : List (List Int)) : Prop :=
  ps.length = pss.length ∧ ∀ (i : Nat) (p : Value), ps[i]? = some p → ∃ A n c xs, p = .slice A n c ∧ pss[i]? = some xs ∧ Ints w S A n c xs

theorem flatten_snoc (pss : List (List Int)) (k : Nat) (xs : List Int) (h : pss[k]? = some xs) : (pss.take (k + 1)).flatten = (pss.take k).flatten ++ xs := by
  obtain ⟨hk, rfl⟩ := List.getElem?_eq_some_iff.1 h
  rw [List.take_succ_eq_append_getElem hk, List.flatten_append]; simp
theorem flatten_short (pss : List (List Int)) (h : ∀ xs ∈ pss, xs.length ≤ 1) (k : Nat) : (pss.take k).flatten.length ≤ k := by
  induction k generalizing pss with
  | zero => simp
  | succ k ih =>
    cases pss with
    | nil => simp
    | cons x r =>
      have h1 := h x (by simp)
      have h2 := ih r (fun y hy => h y (by simp [hy]))
      simp only [List.take_succ_cons, List.flatten_cons, List.length_append]; omega
/-- What 'clause' leaves. -/
def Claused (w : World) (base bc : Nat) (vc : Value) (css : List (List Int)) (e : Ending) (w' : World) : Prop :=
  e = .returned (.tuple #[]) ∧ (∃ vc', w'.heap[bc]? = some (.cells #[vc'] 24 (0, 0)) ∧ OwnRows w' base vc' css) ∧
  w'.os = w.os ∧ w'.tape = w.tape ∧ w'.output = w.output ∧ w.heap.size ≤ w'.heap.size ∧
  ∀ k, k < w.heap.size → k ≠ bc → some k ≠ vc.ownBlock → w'.heap[k]? = w.heap[k]?

set_option maxHeartbeats 1000000 in
theorem clause_any (w : World) (S : Nat → Prop) (base bc n c : Nat) (A : Option Addr) (ps : List Value) (pss : List (List Int)) (vc : Value) (css : List (List Int))
    (hS : ∀ k, S k → k < w.heap.size) (hR : Reads w (fun k => k < w.heap.size) 1 A n ps) (hn : n ≤ 3) (hP : Parts w S ps pss) (h1 : ∀ xs ∈ pss, xs.length ≤ 1)
    (hc : w.heap[bc]? = some (.cells #[vc] 24 (0, 0))) (hO : OwnRows w base vc css) (hl : css.length ≤ 16777216) (hb : base ≤ w.heap.size) (hbc : bc < base) :
    Calls Try.prog 43 #[.slice A n c, .pointer (some ⟨bc, 0, none⟩)] w (Claused w base bc vc (css ++ [pss.flatten])) := by
  obtain ⟨i0, hi, hz0, hz1, hz2⟩ := info_parts int_info
  go_enter Try.func43, Try.ntmps43
  go_wp2
  go_loopw [3, 8] (fun v i wr => ∃ k : Nat, k ≤ n ∧ i = .int .i64 k ∧ wr.ownsRow w.heap.size 3 1 v (pss.take k).flatten.length ((pss.take k).flatten.map (Value.int .i64)) ∧ Below w.heap.size w wr)
    (fun _ i _ => n - (intOf i).toNat)
  case atStart => exact ⟨0, Nat.zero_le _, rfl, World.ownsRow_nil _ _ _ _, Below.refl _ _⟩
  case round =>
    obtain ⟨k, hk, rfl, hown, hbl⟩ := hrel
    have hpl : ps.length = n := by have := hR.1; omega
    have hpp : pss.length = n := by have := hP.1; omega
    have hfl := flatten_short pss h1 k
    by_cases hlt : k < n
    · obtain ⟨ad, u, rfl, hbb, hpk, hcell⟩ := hR.at_ hlt
      obtain ⟨A', m, c', xs, rfl, hxs, hI⟩ := hP.2 k u hpk
      have hcell' := (hbl.cell (p := ad.add k) (by rw [block_of_add]; exact hbb)).trans hcell
      have hI' := hI.below hbl hS
      have hm := hI.len
      have hx1 := h1 xs (List.mem_of_getElem? hxs)
      have HX : Hid ((pss.take (k + 1)).flatten = (pss.take k).flatten ++ xs) := flatten_snoc pss k xs hxs
      have HM := Lib.hid hm
      have HP := Lib.hid hpl
      have HPP := Lib.hid hpp
      have HC := Lib.hid hcell
      have hm1 : m ≤ 1 := by omega
      have hsz := hbl.size
      clear hm hpl hpp hcell hpk hxs hc
      generalize hL : (pss.take k).flatten = L at *
      clear hL
      go_wp2_with (first
        | (at_builtin
           refine wpList_append_any _ rfl (.tmp 12) (.tmp 13) _ rfl w.heap.size 3 i0 _ 1 8 Try.underlying22 hi hz0 hz1 hz2 rfl (by omega) u3 L.length (L.map (Value.int .i64)) (by rfl)
             hown S A' m c' (xs.map (Value.int .i64)) (by rfl) hI'.reads (ints_oneCell xs) (by simp only [maxLen]; omega) (by omega) hsz ?_
           intro v1 w1 hown1 hg1 hat1))
      have hb1 : Below w.heap.size w w1 := hbl.grown hg1 hsz (fun g hg => (hown.lt g hg).1)
      have hown2 : w1.ownsRow w.heap.size 3 1 v1 (pss.take (k + 1)).flatten.length ((pss.take (k + 1)).flatten.map (Value.int .i64)) := by
        rw [HX.out, List.map_append, List.length_append, ← HM.out]; exact hown1
      clear hown1 hown hg1 hat1
      go_roundw
      case rel => exact ⟨k + 1, by omega, by go_num, hown2, hb1⟩
      case measure => simp [intOf]; omega
    · obtain ⟨rows, ho1, ho2⟩ := hO
      have hbw := lt_of_block hc
      have hcr := (hbl.block bc hbw).trans hc
      have hcc := cell_of_one hcr
      have hcf := free_of_one hcr
      have hkn : k = n := by omega
      have hfull : pss.take k = pss := by rw [hkn, ← hpp]; exact List.take_length
      rw [hfull] at hown
      have hsz := hbl.size
      have ho1' := own_below ho1 hbl (Nat.le_refl _)
      have HO : Hid (∀ (i : Nat) (r : Value), rows[i]? = some r → ∃ cs, css[i]? = some cs ∧ wr.ownsRow base 3 1 r cs.length (cs.map (Value.int .i64))) := fun i r hr => by
        obtain ⟨cs, e, h⟩ := ho2 i r hr
        exact ⟨cs, e, own_below h hbl (Nat.le_refl _)⟩
      have hne : ∀ g, vc.ownBlock = some g → base ≤ g := fun g hg => (ho1.lt g hg).1
      obtain ⟨Al, cl, rfl⟩ := own_form hown
      obtain ⟨Ac, cc, rfl⟩ := own_form ho1
      have hin : Reads (wr.alloc (.cells #[.slice Al pss.flatten.length cl] 22)) (fun k => k < wr.heap.size + 1) 1 (some ⟨wr.heap.size, 0, none⟩) 1 [.slice Al pss.flatten.length cl] :=
        ⟨by simp, fun _ => ⟨_, rfl, by simp, fun j u hu => by
          match j, hu with
          | 0, hu => simp at hu; subst hu; simp [Addr.add]⟩⟩
      have h1c : ∀ u ∈ [Value.slice Al pss.flatten.length cl], u.oneCell' = true := by
        intro u hu
        simp at hu
        subst hu
        rfl
      obtain ⟨i1, hi1, hy0, hy1, hy2⟩ := info_parts ints_info
      have HR := Lib.hid hcr
      have HN := Lib.hid hne
      have hcs : css.length + 1 ≤ 16777217 := by omega
      clear hkn hfull hpl hpp hfl hR hP hc hcr hne ho2 h1 hi hz0 hz1 hz2
      generalize pss.flatten = P0 at *
      go_wp2_with (first
        | (at_builtin
           go_must (refine wpList_append_any _ rfl (.tmp 16) (.tmp 18) _ rfl base 22 i1 _ 1 24 Try.underlying24 hi1 hy0 hy1 hy2 rfl (by omega) (.slice Ac css.length cc) css.length rows (by rfl) (ho1'.alloc _) _ _ 1 1 [.slice Al P0.length cl] (by rfl) hin h1c (by simp only [maxLen]; omega) (by omega) (by simp; omega) ?_)
           intro v1 w1 hown1 hg1 hat1
           obtain ⟨A1, c1, rfl⟩ := own_form hown1
           have hk1 : w1.heap[bc]? = some (.cells #[.slice Ac css.length cc] 24 (0, 0)) := (hg1.block bc (by simp; omega) (fun e => by have := HN.out bc e.symm; omega)).trans ((Below.heap_alloc _ _ _ (by omega)).trans HR.out)
           have hk2 := cell_of_one hk1
           have hk3 := free_of_one hk1
           have HK := Lib.hid hk1
           clear hk1))
      go_end0
      have HW := HK.out
      have hne : ∀ g, (Value.slice Ac css.length cc).ownBlock = some g → base ≤ g := HN.out
      refine ⟨rfl, ⟨_, one_setCell HW, ?_⟩, hg1.os.trans hbl.os, hg1.tape.trans hbl.tape, hg1.output.trans hbl.output, ?_, fun k hk hkb hkc => ?_⟩
      · have hrow : (wr.alloc (.cells #[.slice Al P0.length cl] 22)).ownsRow base 3 1 (.slice Al P0.length cl) P0.length (P0.map (Value.int .i64)) := (own_base hown hb).alloc _
        have hs := OwnRows.snoc (ho1'.alloc _) (fun i r hr => by
          obtain ⟨cs, e, h⟩ := HO.out i r hr
          exact ⟨cs, e, h.alloc _⟩) hrow hown1 rfl hg1
        refine hs.keep fun k cs t hk hh ht => Below.heap_setCell _ _ _ _ (by simp; omega)
      · have := hg1.size; simp [World.setCell] at this ⊢; omega
      · rw [Below.heap_setCell _ _ _ _ hkb, hg1.block k (by simp; omega) hkc, Below.heap_alloc _ _ _ (by omega)]
        exact hbl.block k hk
end Go.Proofs.Ytanbkdfffojpnaa
