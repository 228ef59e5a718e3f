/-
  prop.Prop: the walk.
-/
import Derived.Test.YtelgabamdhaplaaVisit2
import Derived.Test.YtelgabamdhaplaaPropLaw
import Derived.BigQuiet
import Derived.Deep.QuietTactic
import Derived.Deep.RegionHeld3
import Derived.WalkMore
namespace Go.Proofs.Ytelgabamdhaplaa
open Go.RowKit

/-- The two maps and the copy of the trail are made. -/
structure Made (w1 wz : World) (a b : Nat) (A9 : Option Addr) (m c9 : Nat) (ts : List TStep) : Prop where
  va : VMap wz a 0 (fun _ => none)
  vb : VMap wz b 0 (fun _ => none)
  ne : a ≠ b
  la : w1.heap.size ≤ a
  lb : w1.heap.size ≤ b
  own : wz.ownsRow w1.heap.size 39 2 (.slice A9 m c9) m (flat ts)
  bel : Below w1.heap.size w1 wz
theorem Made.swap {w1 wz : World} {a b : Nat} {A9 : Option Addr} {m c9 : Nat} {ts : List TStep} (h : Made w1 wz a b A9 m c9 ts) : Made w1 wz b a A9 m c9 ts := ⟨h.vb, h.va, fun e => h.ne e.symm, h.lb, h.la, h.own, h.bel⟩
theorem Made.eng {w1 wz : World} {a b : Nat} {A9 : Option Addr} {m c9 : Nat} {ts : List TStep} (h : Made w1 wz a b A9 m c9 ts) (A : Option Addr) (n c : Nat) (g : Nat) (hg : g = wz.heap.size) :
    Eng w1.heap.size g a b A n c [] 1 (fun _ => none) 0 A9 m c9 ⟨[], fun _ => [], ts, m⟩ (wz.alloc (.cells #[.map (some a), .slice A n c, .map (some b), .slice A9 m c9, .int .i64 m] 63)) ∧ Below w1.heap.size w1 (wz.alloc (.cells #[.map (some a), .slice A n c, .map (some b), .slice A9 m c9, .int .i64 m] 63)) := by
  subst hg
  have hs := h.bel.size
  refine ⟨⟨heap_alloc_new wz _, hs, h.la, h.lb, h.ne, (h.va.ext (fun k => by simp [litF])).keep (Below.heap_alloc _ _ _ h.va.lt), h.vb.keep (Below.heap_alloc _ _ _ h.vb.lt), by omega, fun k => by simp, fun k => World.ownsRow_nil _ _ _ _, fun j k b _ hb => by simp [rowV, Value.ownBlock] at hb, fun b hb => by simp at hb, h.own.alloc _⟩, h.bel.alloc hs _⟩
theorem made0 {w1 w3 : World} {A9 : Option Addr} {m c9 : Nat} {ts : List TStep} (ho : w3.ownsRow w1.heap.size 39 2 (.slice A9 m c9) m (flat ts)) (hb : Below w1.heap.size w1 w3) :
    Made w1 ((w3.alloc (.map #[] 0)).alloc (.map #[] 0)) w3.heap.size (w3.heap.size + 1) A9 m c9 ts :=
  ⟨(VMap.made w3).keep (Below.heap_alloc _ _ _ (by simp)), by have := VMap.made (w3.alloc (.map #[] 0)); simpa using this, by omega, hb.size, by have := hb.size; omega, (ho.alloc _).alloc _, (hb.alloc hb.size _).alloc (by have := hb.size; simp; omega) _⟩
theorem made1 {w1 w3 : World} {A9 : Option Addr} {m c9 : Nat} {ts : List TStep} (ho : w3.ownsRow (w1.alloc (.map #[] 0)).drew.heap.size 39 2 (.slice A9 m c9) m (flat ts)) (hb : Below (w1.alloc (.map #[] 0)).drew.heap.size (w1.alloc (.map #[] 0)).drew w3) :
    Made w1 (w3.alloc (.map #[] 0)) w1.heap.size w3.heap.size A9 m c9 ts := by
  have hB : Below w1.heap.size w1 w3 := below_then (w := w1) (alloc_lt _).drew hb
  have hv := (VMap.made w1).keep (hb.block w1.heap.size (by show w1.heap.size < (w1.alloc (.map #[] 0)).heap.size; simp))
  have := hv.lt
  exact ⟨hv.keep (Below.heap_alloc _ _ _ hv.lt), VMap.made w3, by omega, Nat.le_refl _, hB.size, (own_base ho (by show w1.heap.size ≤ (w1.alloc (.map #[] 0)).heap.size; simp)).alloc _, hB.alloc hB.size _⟩
theorem made2 {w1 w3 : World} {A9 : Option Addr} {m c9 : Nat} {ts : List TStep} (ho : w3.ownsRow ((w1.alloc (.map #[] 0)).alloc (.map #[] 0)).drew.heap.size 39 2 (.slice A9 m c9) m (flat ts)) (hb : Below ((w1.alloc (.map #[] 0)).alloc (.map #[] 0)).drew.heap.size ((w1.alloc (.map #[] 0)).alloc (.map #[] 0)).drew w3) :
    Made w1 w3 w1.heap.size (w1.heap.size + 1) A9 m c9 ts := by
  have hB : Below w1.heap.size w1 w3 := below_then (w := w1) (below_then (alloc_lt _) (alloc_lt _)).drew hb
  have hs : ((w1.alloc (.map #[] 0)).alloc (.map #[] 0)).drew.heap.size = w1.heap.size + 2 := by show ((w1.alloc (.map #[] 0)).alloc (.map #[] 0)).heap.size = _; simp
  have hv := ((VMap.made w1).keep (w' := (w1.alloc (.map #[] 0)).alloc (.map #[] 0)) (Below.heap_alloc _ _ _ (by simp))).keep (hb.block w1.heap.size (by omega))
  have hv2 : VMap ((w1.alloc (.map #[] 0)).alloc (.map #[] 0)) (w1.heap.size + 1) 0 (fun _ => none) := by have := VMap.made (w1.alloc (.map #[] 0)); simpa using this
  have hv2' := hv2.keep (hb.block (w1.heap.size + 1) (by omega))
  exact ⟨hv, hv2', by omega, Nat.le_refl _, by omega, own_base ho (by omega), hB⟩

theorem Eng.clear {B g bm bw : Nat} {A : Option Addr} {n c T nf : Nat} {V : Int → Option Value} {Ao : Option Addr} {m co : Nat} {s : PS} {w w' : World} {lit : Int} {ad : Addr} {q c8 : Nat} (h : Eng B g bm bw A n c [] T V nf Ao m co s w) (hrow : rowV V lit = .slice (some ad) q c8)
    (hv : VMap w' bw (nf + 1) (upd V lit (.slice none 0 0))) (hg : w.grownBy w' (some bw)) :
    Eng B g bm bw A n c [ad.block] (T + 1) (upd V lit (.slice none 0 0)) (nf + 1) Ao m co { s with f := clr s.f lit } w' ∧ w'.heap[ad.block]? = w.heap[ad.block]? := by
  have hk : ∀ {b : Nat} {cs : Array Value} {t : TypeId} {fr : Nat × Nat}, w.heap[b]? = some (.cells cs t fr) → w'.heap[b]? = w.heap[b]? := fun hb => hg.block _ (lt_block hb) (fun e => h.wm.not_cells hb (by injection e))
  have ho : ∀ {base size n : Nat} {e : TypeId} {v : Value} {xs : List Value}, w.ownsRow base e size v n xs → w'.ownsRow base e size v n xs := fun ho => own_keep ho fun b hb => by
    obtain ⟨cur, hc⟩ := own_cells ho hb
    exact hk hc
  have hr : ∀ k, rowV (upd V lit (.slice none 0 0)) k = if k = lit then .slice none 0 0 else rowV V k := fun k => by
    unfold rowV upd
    split <;> rfl
  obtain ⟨cur, hc⟩ := own_cells (h.rows lit) (b := ad.block) (by rw [hrow]; rfl)
  refine ⟨{ blk := (hk h.blk).trans h.blk, lg := h.lg, lm := h.lm, lw := h.lw, ne := h.ne, tr := h.tr.keep (hg.block _ h.tr.lt (fun e => h.ne (by injection e))), wm := hv, few := by have := h.few; omega, short := fun k => ?_, rows := fun k => ?_, apart := fun a k b hak => ?_, held := fun b hb => ?_, own := ho h.own }, hk hc⟩
  · show (clr s.f lit k).length ≤ _
    unfold clr
    have := h.short k
    split
    · simp
    · omega
  · rw [hr]
    show w'.ownsRow B 3 1 _ (clr s.f lit k).length ((clr s.f lit k).map _)
    unfold clr
    split
    · exact World.ownsRow_nil _ _ _ _
    · exact ho (h.rows k)
  · rw [hr, hr]
    split
    · intro hb; simp [Value.ownBlock] at hb
    · split
      · intro _ hb; simp [Value.ownBlock] at hb
      · exact h.apart a k b hak
  · simp at hb
    subst hb
    refine ⟨⟨cur, (hk hc).trans hc⟩, fun k => ?_⟩
    rw [hr]
    split
    · simp [Value.ownBlock]
    · next hne =>
      exact h.apart lit k _ (fun e => hne e.symm) (by rw [hrow]; rfl)
theorem rev_snoc {ts : List TStep} {k : Nat} (h : k < ts.length) : (lits (ts.take (k + 1))).reverse = (ts.getD k (0, 0)).1 :: (lits (ts.take k)).reverse := by
  unfold lits
  rw [List.take_succ_eq_append_getElem h, List.getD_eq_getElem?_getD, List.getElem?_eq_getElem h, List.map_append, List.reverse_append]
  rfl

theorem checkS_zero {N : Int} {cs : List (List Int)} {ts : List TStep} (h : checkS N cs ts = 0) : checkR N cs = 0 ∧ trailG N cs [] ts = true := by
  unfold checkS at h
  by_cases h1 : checkR N cs = 0
  · rw [if_neg (by simpa using h1)] at h
    by_cases h2 : trailG N cs [] ts = true
    · exact ⟨h1, h2⟩
    · rw [if_neg h2] at h; cases h
  · rw [if_pos h1] at h; exact absurd h h1
/-- Where the main loop stands. -/
def Main (w1 : World) (N : Int) (cs : List (List Int)) (ts : List TStep) (B g bm bw : Nat) (A : Option Addr) (n c m : Nat) (wr : World) : Prop :=
  ∃ (V : Int → Option Value) (nf : Nat) (Ao : Option Addr) (mo co : Nat) (s : PS) (T : Nat), Eng B g bm bw A n c [] T V nf Ao mo co s wr ∧ Below B w1 wr ∧ Base N cs ts s ∧ m ≤ s.head ∧ s.head ≤ s.out.length ∧
    (∀ j, j < cs.length → Wat cs (lits (s.out.take s.head)) s j) ∧ T ≤ (2 * n + 1) * 4 ^ (s.head - m)
def hdOf (g : Nat) (w : World) : Nat := match w.cell? ⟨g, 4, none⟩ with
  | some (.int _ v) => v.toNat
  | _ => 0
theorem hd_eng {B g bm bw : Nat} {A : Option Addr} {n c T nf : Nat} {H : List Nat} {V : Int → Option Value} {Ao : Option Addr} {m co : Nat} {s : PS} {w : World} (h : Eng B g bm bw A n c H T V nf Ao m co s w) : hdOf g w = s.head := by
  unfold hdOf
  rw [h.cell 4]
  rfl
theorem clr_nil {f : Int → List Int} {j : Int} (h : f j = []) : clr f j = f := by
  funext k
  unfold clr
  by_cases e : k = j
  · rw [if_pos e, e, h]
  · rw [if_neg e]
theorem tb {T n h m : Nat} {N : Int} (hT : T ≤ (2 * n + 1) * 4 ^ (h - m)) (hb : (2 * n + 1) * 4 ^ (N.toNat - m) ≤ 1099511627776) (hh : h ≤ N.toNat) : T ≤ 1099511627776 :=
  Nat.le_trans hT (Nat.le_trans (Nat.mul_le_mul_left _ (Nat.pow_le_pow_right (by decide) (by omega))) hb)
theorem tx {T n h m : Nat} (hT : T ≤ (2 * n + 1) * 4 ^ (h - m)) (hh : m ≤ h) : 3 * T + 1 ≤ (2 * n + 1) * 4 ^ (h + 1 - m) := by
  have e : h + 1 - m = (h - m) + 1 := by omega
  rw [e, Nat.pow_succ, ← Nat.mul_assoc]
  have : 1 ≤ (2 * n + 1) * 4 ^ (h - m) := Nat.mul_pos (by omega) (Nat.pow_pos (by decide))
  generalize (2 * n + 1) * 4 ^ (h - m) = X at *
  omega
/-- Where the inner loop stands. -/
structure Inner (N : Int) (cs : List (List Int)) (ts : List TStep) (P wl : List Int) (hd k : Nat) (s : PS) : Prop where
  base : Base N cs ts s
  head : s.head = hd
  le : hd ≤ s.out.length
  pre : lits (s.out.take hd) = P
  wat : ∀ j, j < cs.length → (j : Int) ∈ wl.drop k ∨ Wat cs P s j
theorem Inner.yes {N : Int} {cs : List (List Int)} {ts : List TStep} {P wl : List Int} {hd k : Nat} {s s' : PS} (h : Inner N cs ts P wl hd k s) {i : Nat} (hi : i < cs.length) (hcs : ∀ l ∈ cs, ∀ x ∈ l, x ≠ 0 ∧ -N ≤ x ∧ x ≤ N) (hdr : wl.drop k = (i : Int) :: wl.drop (k + 1)) (hv : visitR cs s i = (s', true)) : Inner N cs ts P wl hd (k + 1) s' := by
  obtain ⟨a1, a2, _, a4, a5, e, a6⟩ := visit_yes (P := P) h.base hi hcs (fun x hx => by
    rw [h.base.known, List.mem_reverse]
    rw [← h.pre] at hx
    obtain ⟨p, hp, rfl⟩ := List.mem_map.1 hx
    exact List.mem_map.2 ⟨p, List.mem_of_mem_take hp, rfl⟩) hv
  refine ⟨a1, a2.trans h.head, by rw [a6]; have := h.le; simp; omega, by rw [a6, List.take_append_of_le_length h.le]; exact h.pre, fun j hj => ?_⟩
  rcases h.wat j hj with q | q
  · rw [hdr] at q
    rcases List.mem_cons.1 q with q | q
    · have : j = i := by omega
      rw [this]; exact .inr a5
    · exact .inl q
  · exact .inr (a4 j q)
def RetProp (w : World) (N : Int) (cs : List (List Int)) (ts : List TStep) (e : Ending) (w' : World) : Prop :=
  ∃ A n c x conflict, e = .returned (.tuple #[.slice A n c, .int .i64 conflict, .int .i64 0]) ∧ w'.ownsRow w.heap.size 39 2 (.slice A n c) n (flat x) ∧ PropOut N cs ts x conflict ∧ Below w.heap.size w w'

set_option maxHeartbeats 8000000 in
set_option maxRecDepth 100000 in
theorem prop_ok (w : World) (N : Int) (A : Option Addr) (n c : Nat) (cs : List (List Int)) (A' : Option Addr) (m c' : Nat) (ts : List TStep) (hR : Rows2 w A n c cs) (hS : Steps w A' m c' ts) (hm : m ≤ 100000) (h0 : checkS N cs ts = 0) (hbud : (2 * n + 1) * 4 ^ (N.toNat - m) ≤ 1099511627776) :
    Calls Try.prog 21 #[.agg #[.int .i64 N, .slice A n c], .slice A' m c'] w (RetProp w N cs ts) := by
  obtain ⟨hck, htr⟩ := checkS_zero h0
  obtain ⟨hN0, hN1, hlits, hlen⟩ := checkR_zero hck
  have HBUD := Lib.hid hbud
  have HLIT := Lib.hid hlits
  have HTR := Lib.hid htr
  have HN0 := Lib.hid hN0
  have HN1 := Lib.hid hN1
  have HLEN := Lib.hid hlen
  have HML := Lib.hid (trail_len htr)
  clear hbud hlits htr hN0 hN1 hlen hck
  have hcap := hR.cap
  have hmax := hR.max
  unfold maxLen at hmax
  obtain ⟨W, hW⟩ : ∃ W, W = w.alloc (.cells #[.int .i64 N, .slice A n c] 24) := ⟨_, rfl⟩
  have hb : Below w.heap.size w W := by rw [hW]; exact alloc_lt _
  have b1 : W.heap[w.heap.size]? = some (.cells #[.int .i64 N, .slice A n c] 24 (0, 0)) := by rw [hW]; exact heap_alloc_new w _
  have call := trailCheck_any W N A n c cs A' m c' ts (hR.belowLt hb) (hS.belowLt hb) (by omega)
  rw [h0] at call
  have c0 : W.cell? ⟨w.heap.size, 0, none⟩ = some (.int .i64 N) := by rw [cell_of_row _ _ _ _ _ _ b1]; rfl
  have c1 : W.cell? ⟨w.heap.size, 1, none⟩ = some (.slice A n c) := by rw [cell_of_row _ _ _ _ _ _ b1]; rfl
  have HR := Lib.hid (hR.belowLt hb)
  have HS := Lib.hid (hS.belowLt hb)
  have HB := Lib.hid hb
  have B1 := Lib.hid b1
  have HLR := Lib.hid hR.len
  have HLS := Lib.hid hS.len
  have hcS := hS.cap
  have hmS := hS.max
  unfold maxLen at hmS
  have CALL := Lib.hid call
  have hmm := @run_makeMap Try.prog
  clear hR hS hb b1 call
  go_enter Try.func21, Try.ntmps21
  go_wp2_with (fail)
  go_step3
  rw [← hW]
  clear hW
  go_wp2_with (fail)
  (with_reducible refine CALL.out.mono ?_)
  rintro e w1 ⟨rfl, hb1⟩
  have hx1 := (hb1.block _ (lt_block B1.out)).trans B1.out
  have d1 : w1.cell? ⟨w.heap.size, 1, none⟩ = some (.slice A n c) := by rw [cell_of_row _ _ _ _ _ _ hx1]; rfl
  have hlt1 := lt_block hx1
  have CA : Hid (∀ wx, Below w1.heap.size w1 wx → Calls Try.prog 41 #[.slice A' m c'] wx (RetSteps wx ts)) := fun wx hb => cloneS_any wx m c' A' ts ((HS.out.belowLt hb1).belowLt hb) (by omega)
  have HB1 := Lib.hid hb1
  have X1 := Lib.hid hx1
  clear hb1 hx1 CALL c0 c1
  go_upto_region 4 with (fail)
  go_cut [8] (fun v wx => ∃ (g bm bw : Nat) (Ao : Option Addr) (co : Nat), v = .pointer (some ⟨g, 0, none⟩) ∧ Eng w1.heap.size g bm bw A n c [] 1 (fun _ => none) 0 Ao m co ⟨[], fun _ => [], ts, m⟩ wx ∧ Below w1.heap.size w1 wx)
  case first =>
    have d1' : ∀ wx, Below w1.heap.size w1 wx → wx.cell? ⟨w.heap.size, 1, none⟩ = some (.slice A n c) := fun wx hb => (hb.cell (p := ⟨w.heap.size, 1, none⟩) hlt1).trans d1
    go_region_held3 (fun w' => w'.cell? ⟨w.heap.size, 1, none⟩ = some (.slice A n c)) (first | (exact d1) | go_keep | (exact d1' _ HB3.out))
      (first
        | (go_at_call 41
           first
             | (with_reducible refine (CA.out _ (Below.refl _ _).drew).mono ?_
                rintro e w3 ⟨A9, n9, c9, rfl, ho9, hb9⟩
                obtain rfl : m = n9 := by have := ho9.1; rw [flat_len] at this; have := HLS.out; omega
                have HB3 : Hid (Below w1.heap.size w1 w3) := below_then (w := w1) (Below.refl _ _).drew hb9
                have HM := Lib.hid (made0 (w1 := w1) ho9 HB3.out))
             | (with_reducible refine (CA.out _ (alloc_lt _).drew).mono ?_
                rintro e w3 ⟨A9, n9, c9, rfl, ho9, hb9⟩
                obtain rfl : m = n9 := by have := ho9.1; rw [flat_len] at this; have := HLS.out; omega
                have HB3 : Hid (Below w1.heap.size w1 w3) := below_then (w := w1) (alloc_lt _).drew hb9
                have HM := Lib.hid (made1 ho9 hb9))
             | (with_reducible refine (CA.out _ (below_then (alloc_lt _) (alloc_lt _)).drew).mono ?_
                rintro e w3 ⟨A9, n9, c9, rfl, ho9, hb9⟩
                obtain rfl : m = n9 := by have := ho9.1; rw [flat_len] at this; have := HLS.out; omega
                have HB3 : Hid (Below w1.heap.size w1 w3) := below_then (w := w1) (below_then (alloc_lt _) (alloc_lt _)).drew hb9
                have HM := Lib.hid (made2 ho9 hb9))))
    all_goals go_wp2_with (fail)
    all_goals go_meet
    all_goals first
      | exact ⟨_, _, _, _, _, rfl, HM.out.eng A n c _ (by simp)⟩
      | exact ⟨_, _, _, _, _, rfl, HM.out.swap.eng A n c _ (by simp)⟩
  obtain ⟨g, bm, bw, Ao, co, rfl, hE, hBE⟩ := hcut
  have HS1 := Lib.hid (HS.out.belowLt HB1.out)
  have HR1 := Lib.hid (HR.out.belowLt HB1.out)
  have HW1 := Lib.hid (below_then HB.out HB1.out)
  have HE0 := Lib.hid hE
  have HBE := Lib.hid hBE
  clear hE hBE HS HR HB d1 hlt1 X1 B1 CA hmm HB1
  generalize hB : w1.heap.size = B at *
  go_wp2
  go_loopw [10, 34] (fun v10 v34 wr => ∃ (k : Nat), k ≤ m ∧ v34 = .int .i64 k ∧ Eng B g bm bw A n c [] 1 (fun _ => none) 0 Ao m co ⟨(lits (ts.take k)).reverse, fun _ => [], ts, m⟩ wr ∧ Below B w1 wr) (fun _ v _ => m - (intOf v).toNat)
  case atStart => exact ⟨0, Nat.zero_le _, rfl, HE0.out, HBE.out⟩
  case round =>
    obtain ⟨k, hk, rfl, hE, hb⟩ := hrel
    by_cases hlt : k < m
    · obtain ⟨ad, rfl, hadS, hc1, hc2⟩ := HS1.out.at_ hlt
      have e1 := (hb.cell (p := ad.add (k * 2)) (by rw [block_of_add, ← hB]; exact hadS)).trans hc1
      have e2 := (hb.cell (p := ⟨(ad.add (k * 2)).block, (ad.add (k * 2)).off + 1, none⟩) (by show (ad.add (k * 2)).block < _; rw [block_of_add, ← hB]; exact hadS)).trans hc2
      have HRV := Lib.hid (rev_snoc (ts := ts) (k := k) (by have := HLS.out; omega))
      have hmem : (ts.getD k (0, 0)).1 ∈ lits ts := List.mem_map.2 ⟨_, by rw [List.getD_eq_getElem?_getD, List.getElem?_eq_getElem (by have := HLS.out; omega)]; simp, rfl⟩
      obtain ⟨_, hx0, hx1⟩ := trailG_lit HTR.out _ hmem
      have hN1 := HN1.out
      clear hadS hc1 hc2 hmem
      generalize ts.getD k (0, 0) = p at *
      obtain ⟨li, wy⟩ := p
      have hx0' : -65536 ≤ li := by simp only at hx0; omega
      have hx1' : li ≤ 65536 := by simp only at hx1; omega
      clear hx0 hx1 hN1
      obtain ⟨wa, hwa⟩ : ∃ wa, wa = wr.alloc (.cells #[.int .i64 li, .int .i64 wy] 39) := ⟨_, rfl⟩
      have hEa : Eng B g bm bw A n c [] 1 (fun _ => none) 0 Ao m co ⟨(lits (ts.take k)).reverse, fun _ => [], ts, m⟩ wa := by rw [hwa]; exact hE.keep (fun k hk => Below.heap_alloc _ _ _ hk)
      have hBa : Below B w1 wa := by rw [hwa]; exact hb.alloc hE.size _
      have s1 : wa.heap[wr.heap.size]? = some (.cells #[.int .i64 li, .int .i64 wy] 39 (0, 0)) := by rw [hwa]; exact heap_alloc_new wr _
      have p1 : wa.cell? ⟨wr.heap.size, 0, none⟩ = some (.int .i64 li) := by rw [cell_of_row _ _ _ _ _ _ s1]; rfl
      have k0 : wa.cell? ⟨g, 0, none⟩ = some (.map (some bm)) := hEa.cell 0
      have hkl : (lits (ts.take k)).reverse.length ≤ 100000 := by simp; omega
      have call := step_any wa.drew bm _ (lits (ts.take k)).reverse li (hEa.tr.keep rfl) (by omega) (by omega) (Nat.le_trans hkl (by omega))
      have CALL := Lib.hid call
      have HEa := Lib.hid hEa
      have HBa := Lib.hid hBa
      clear hE hb hEa hBa s1 call hkl
      go_upto_region 8 with (fail)
      rw [← hwa]
      clear hwa e1 e2
      go_region_law (first
        | (go_simp
           go_wp2_with (
             go_at_call 37
             (with_reducible refine CALL.out.mono ?_)
             rintro e w2 ⟨rfl, hv2, hg2⟩
             have HV2 := Lib.hid hv2
             have HG2 : Hid (wa.grownBy w2 (some bm)) := ⟨hg2.os, hg2.tape, hg2.output, hg2.size, hg2.block⟩
             clear hv2 hg2)))
      all_goals go_wp2
      all_goals go_roundw
      all_goals first
        | exact ⟨k + 1, by omega, by go_num, by rw [HRV.out]; exact HEa.out.step HV2.out HG2.out, HBa.out.grown HG2.out HEa.out.size (fun k hk => by injection hk with hk; rw [← hk]; exact HEa.out.lm)⟩
        | (simp [intOf]; omega)
    obtain rfl : m = k := by omega
    have htk : ts.take m = ts := List.take_of_length_le (by have := HLS.out; omega)
    rw [htk] at hE
    have hBS : Base N cs ts ⟨(lits ts).reverse, fun _ => [], ts, m⟩ := ⟨rfl, HTR.out, ⟨[], by simp, by simp⟩, fun k i hi => by simp at hi⟩
    have k1 : wr.cell? ⟨g, 1, none⟩ = some (.slice A n c) := hE.cell 1
    have HE1 := Lib.hid hE
    have HB1 := Lib.hid hb
    have HBS := Lib.hid hBS
    clear hE hb hBS htk HE0 HBE
    go_wp2
    clear k1
    go_loopw [11, 51] (fun v11 v51 wr => ∃ (k : Nat) (V : Int → Option Value) (nf : Nat) (Ao : Option Addr) (mo co : Nat) (s : PS), k ≤ n ∧ v51 = .int .i64 k ∧ Eng B g bm bw A n c [] (1 + 2 * k) V nf Ao mo co s wr ∧ Below B w1 wr ∧ Base N cs ts s ∧ s.head = m ∧ ∀ j, j < k → Wat cs (lits ts) s j) (fun _ v _ => n - (intOf v).toNat)
    case atStart => exact ⟨0, _, _, _, _, _, _, Nat.zero_le _, rfl, HE1.out, HB1.out, HBS.out, rfl, fun j hj => by omega⟩
    case round =>
      obtain ⟨k, V, nf, Ao, mo, co, s, hk, rfl, hE, hb, hBs, hhd, hW⟩ := hrel
      clear HE1 HB1 HBS
      obtain ⟨hol, hkl⟩ := base_len hBs
      have hmo := hE.outBound
      have hN1 := HN1.out
      by_cases hlt : k < n
      · have call := visit_any (w := wr) cs k hlt (HR1.out.belowLt (by rw [hB]; exact hb)) (fun l hl x hx => by have := HLIT.out l hl x hx; omega) hE (by have := HLR.out; have := HLEN.out; omega) (by omega) (by omega)
        have HVY : Hid (∀ s', visitR cs s k = (s', true) → Base N cs ts s' ∧ s'.head = s.head ∧ (∀ x ∈ s.known, x ∈ s'.known) ∧ (∀ j, Wat cs (lits ts) s j → Wat cs (lits ts) s' j) ∧ Wat cs (lits ts) s' k ∧ ∃ e, s'.out = s.out ++ e) := fun s' h => visit_yes hBs (by have := HLR.out; omega) HLIT.out (fun x hx => by
          obtain ⟨e, he, _⟩ := hBs.ext
          rw [hBs.known, he]; simp only [List.mem_reverse, List.map_append, List.mem_append]; exact .inl hx) h
        have HVN : Hid (∀ s', visitR cs s k = (s', false) → s' = s ∧ PropOut N cs ts s.out k) := fun s' h => ⟨(visit_no h).1, out_no hBs (by have := HLR.out; omega) h⟩
        have HBs := Lib.hid hBs
        have HHD := Lib.hid hhd
        have HW := Lib.hid hW
        have HB := Lib.hid hb
        have HE := Lib.hid hE
        have HMO := Lib.hid hmo
        clear hBs hhd hW hb hE hmo hol hkl hN1
        generalize visitR cs s k = r at *
        obtain ⟨s', ok⟩ := r
        have CALL := Lib.hid call
        clear call
        cases ok
        · obtain ⟨rfl, hout⟩ := HVN.out s' rfl
          have HOUT := Lib.hid hout
          clear hout
          go_wp2_with (fail)
          (with_reducible refine CALL.out.mono ?_)
          rintro e w2 ⟨rfl, ⟨V2, nf2, Ao2, m2, co2, hE2⟩, hb2, _⟩
          have k3 : w2.cell? ⟨g, 3, none⟩ = some (.slice Ao2 m2 co2) := hE2.cell 3
          have HE2 := Lib.hid hE2
          have HB2 := Lib.hid hb2
          clear hE2 hb2 CALL
          go_wp2
          try rw [Exit.noGoto_ret]
          refine bodyPost_ret (v := .tuple #[.slice Ao2 m2 co2, .int .i64 k, .int .i64 0]) (by simp [results, Try.results21, go_sem]) rfl ?_
          exact ⟨Ao2, m2, co2, s'.out, k, rfl, own_base (HE2.out.own) (by rw [← hB]; exact HW1.out.size), HOUT.out, below_then HW1.out (by rw [hB]; exact HB.out.trans HB2.out)⟩
        · obtain ⟨a1, a2, _, a4, a5, _⟩ := HVY.out s' rfl
          have A1 := Lib.hid a1
          have A2 := Lib.hid (a2.trans HHD.out)
          have A4 := Lib.hid a4
          have A5 := Lib.hid a5
          clear a1 a2 a4 a5
          go_wp2_with (fail)
          (with_reducible refine CALL.out.mono ?_)
          rintro e w2 ⟨rfl, ⟨V2, nf2, Ao2, m2, co2, hE2⟩, hb2, _⟩
          have HE2 := Lib.hid hE2
          have HB2 := Lib.hid hb2
          clear hE2 hb2 CALL
          go_wp2
          go_roundw
          case rel =>
            refine ⟨k + 1, V2, nf2, Ao2, m2, co2, s', by omega, by go_num, ?_, HB.out.trans HB2.out, A1.out, A2.out, fun j hj => ?_⟩
            · have := HE2.out
              rw [show 1 + 2 * k + 2 = 1 + 2 * (k + 1) by omega] at this
              exact this
            · by_cases hjk : j = k
              · rw [hjk]; exact A5.out
              · exact A4.out j (HW.out j (by omega))
          case measure => simp [intOf]; omega
      obtain rfl : n = k := by omega
      have hM0 : Main w1 N cs ts B g bm bw A n c m wr := by
        refine ⟨V, nf, Ao, mo, co, s, 1 + 2 * n, hE, hb, hBs, by omega, ?_, fun j hj => ?_, ?_⟩
        · obtain ⟨e, he, _⟩ := hBs.ext
          rw [hhd, he]; have := HLS.out; simp; omega
        · obtain ⟨e, he, _⟩ := hBs.ext
          rw [hhd, he, List.take_append_of_le_length (by have := HLS.out; omega), List.take_of_length_le (by have := HLS.out; omega)]
          exact hW j (by have := HLR.out; omega)
        · rw [hhd, Nat.sub_self]; omega
      have HM0 := Lib.hid hM0
      clear hE hb hBs hhd hW hol hkl hmo hN1 hM0
      go_wp2
      go_step3
      go_wp2
      go_loopw [12, 13, 15] (fun v12 v13 v15 wr => Main w1 N cs ts B g bm bw A n c m wr) (fun _ _ _ wr => N.toNat - hdOf g wr)
      case atStart => exact HM0.out
      case round =>
        clear HM0
        obtain ⟨V, nf, Ao, mo, co, s, T, hE, hb, hBs, hh0, hh1, hW, hT⟩ := hrel
        obtain ⟨hol, hkl⟩ := base_len hBs
        have HMO := Lib.hid hE.outBound
        have HMS : Hid (hdOf g wr = s.head) := hd_eng hE
        obtain ⟨h, hh⟩ : ∃ h, h = s.head := ⟨_, rfl⟩
        have k3 : wr.cell? ⟨g, 3, none⟩ = some (.slice Ao mo co) := hE.cell 3
        have k4 : wr.cell? ⟨g, 4, none⟩ = some (.int .i64 h) := by rw [hh]; exact hE.cell 4
        have hN1 := HN1.out
        have HT := Lib.hid hT
        have HBs := Lib.hid hBs
        have HW := Lib.hid hW
        have HB := Lib.hid hb
        have HE := Lib.hid hE
        have HH := Lib.hid hh
        have hoc : mo ≤ co := (Steps.of_own hE.own).cap
        have hom : co ≤ maxLen := (Steps.of_own hE.own).max
        unfold maxLen at hom
        rw [← hh] at hh0 hh1
        clear hT hBs hW hb hE hh
        by_cases hlt : h < mo
        case neg =>
          have hout : PropOut N cs ts s.out (-1) := out_yes HBs.out (fun j hj => by
            have := HW.out j hj
            rwa [← HH.out, List.take_of_length_le (by have := HMO.out; omega)] at this)
          have HOUT := Lib.hid hout
          have hq : decide ((h : Int) < (mo : Int)) = false := by simp; omega
          clear hout
          go_wp2
          go_quiet (fail)
          go_wp2
          try rw [Exit.noGoto_ret]
          refine bodyPost_ret (v := .tuple #[.slice Ao mo co, .int .i64 (-1), .int .i64 0]) (by simp [results, Try.results21, go_sem]) rfl ?_
          exact ⟨Ao, mo, co, s.out, -1, rfl, own_base ((HE.out.keep (w' := wr.drewN nq) (fun _ _ => rfl)).own) (by rw [← hB]; exact HW1.out.size), HOUT.out, below_then HW1.out (by rw [hB]; exact ⟨HB.out.os, HB.out.tape, HB.out.output, HB.out.size, HB.out.block⟩)⟩
        have hq : decide ((h : Int) < (mo : Int)) = true := by simp; omega
        obtain ⟨ad, rfl, hadS, hc1, _⟩ := (Steps.of_own HE.out.own).at_ hlt
        have hlit : (s.out.getD h (0, 0)).1 ∈ lits s.out := List.mem_map.2 ⟨_, by rw [List.getD_eq_getElem?_getD, List.getElem?_eq_getElem (by have := HMO.out; omega)]; simp, rfl⟩
        obtain ⟨_, hx0, hx1⟩ := trailG_lit HBs.out.trail _ hlit
        have HTK : Hid (lits (s.out.take (h + 1)) = lits (s.out.take h) ++ [(s.out.getD h (0, 0)).1]) := by
          show lits (s.out.take (h + 1)) = _
          unfold lits
          rw [List.take_succ_eq_append_getElem (by have := HMO.out; omega), List.getD_eq_getElem?_getD, List.getElem?_eq_getElem (by have := HMO.out; omega), List.map_append]; rfl
        have HLM := Lib.hid hlit
        clear hlit hadS
        generalize (s.out.getD h (0, 0)).1 = lit at *
        have hx0' : -65536 ≤ lit := by omega
        have hx1' : lit ≤ 65536 := by omega
        clear hx0 hx1
        have z1 : (0 : Int) ≤ (h : Int) := by omega
        have z2 : (h : Int) < (mo : Int) := by omega
        go_wp2
        go_quiet (fail)
        have HE1 : Hid (Eng B g bm bw A n c [] T V nf (some ad) mo co s (wr.drewN nq)) := HE.out.keep fun _ _ => rfl
        have HB1 : Hid (Below B w1 (wr.drewN nq)) := ⟨HB.out.os, HB.out.tape, HB.out.output, HB.out.size, HB.out.block⟩
        have k3a : (wr.drewN nq).cell? ⟨g, 3, none⟩ = some (.slice (some ad) mo co) := k3
        have k4a : (wr.drewN nq).cell? ⟨g, 4, none⟩ = some (.int .i64 h) := k4
        have hc1a : (wr.drewN nq).cell? (ad.add (h * 2)) = some (.int .i64 lit) := hc1
        clear HE HB k3 k4 hc1
        generalize wr.drewN nq = wq at *
        go_wp2
        go_quiet (fail)
        have HE2 : Hid (Eng B g bm bw A n c [] T V nf (some ad) mo co s (wq.drewN nq)) := HE1.out.keep fun _ _ => rfl
        have HB2 : Hid (Below B w1 (wq.drewN nq)) := ⟨HB1.out.os, HB1.out.tape, HB1.out.output, HB1.out.size, HB1.out.block⟩
        have k4b : (wq.drewN nq).cell? ⟨g, 4, none⟩ = some (.int .i64 h) := k4a
        clear HE1 HB1 k3a k4a hc1a
        generalize wq.drewN nq = wp at *
        have f4 : wp.frozen? ⟨g, 4, none⟩ = false := free_of_row HE2.out.blk
        obtain ⟨ws, hws⟩ : ∃ ws, ws = wp.setCell ⟨g, 4, none⟩ (.int .i64 ((h : Int) + 1)) := ⟨_, rfl⟩
        have hEs : Eng B g bm bw A n c [] T V nf (some ad) mo co { s with head := h + 1 } ws := by
          rw [hws]
          have := HE2.out.setHead (h + 1)
          rwa [show ((h + 1 : Nat) : Int) = (h : Int) + 1 by omega] at this
        have hBs : Below B w1 ws := by rw [hws]; exact HB2.out.setCell HE2.out.lg _
        have hwf : (Lit.int .i64 lit).wf = true := wf_small (by omega) (by omega)
        have hrow := hEs.rows lit
        have hsh := hEs.short lit
        obtain ⟨q, hq8⟩ : ∃ q, q = (s.f lit).length := ⟨_, rfl⟩
        have hq8' : (PS.f { s with head := h + 1 } lit).length = q := hq8.symm
        rw [hq8'] at hrow hsh
        obtain ⟨A8, c8, hA8⟩ := own_form hrow
        have l1 : (Instr.lookup 60 (.map (some bw)) (.int .i64 lit) false).run Try.prog ws = .ok (.slice A8 q c8) ws := by
          rw [← hA8]
          exact VMap.lookup hEs.wm Try.underlying60 (ints_zero _) hwf
        have k2 : ws.cell? ⟨g, 2, none⟩ = some (.map (some bw)) := hEs.cell 2
        rw [hA8] at hrow
        have HES := Lib.hid hEs
        have HBS := Lib.hid hBs
        have HR8 := Lib.hid hrow
        have HA8 := Lib.hid hA8
        have HQ8 := Lib.hid hq8
        have hTb : T ≤ 1099511627776 := tb HT.out HBUD.out (by rw [← HH.out]; have := HMO.out; omega)
        have HTX := Lib.hid (tx HT.out (by rw [← HH.out]; exact hh0))
        rw [← HH.out] at HTX
        have hq9 : q ≤ 1099511627776 := Nat.le_trans hsh hTb
        go_upto_region 19 with (fail)
        rw [← hws]
        clear hws hEs hBs hrow hA8 hq8 hq8' HE2 HB2 k4b f4
        by_cases hq0 : q = 0
        · have hM : Main w1 N cs ts B g bm bw A n c m ws := by
            refine ⟨V, nf, some ad, mo, co, { s with head := h + 1 }, T, HES.out, HBS.out, ⟨HBs.out.known, HBs.out.trail, HBs.out.ext, HBs.out.range⟩, by show m ≤ h + 1; omega, by show h + 1 ≤ s.out.length; have := HMO.out; omega, fun j hj => ?_, ?_⟩
            · show Wat cs (lits (s.out.take (h + 1))) _ j
              have he : s.f lit = [] := List.eq_nil_of_length_eq_zero (by rw [← HQ8.out]; exact hq0)
              have hclr : clr s.f lit = s.f := clr_nil he
              have hw := pop_wat lit (h + 1) (HW.out j hj)
              rw [he, hclr, ← HH.out] at hw
              rw [HTK.out]
              rcases hw with hw | hw
              · cases hw
              · exact hw
            · show T ≤ (2 * n + 1) * 4 ^ (h + 1 - m)
              have := HTX.out; omega
          have HM := Lib.hid hM
          have HME : Hid (hdOf g ws = h + 1) := hd_eng HES.out
          subst hq0
          clear hM
          go_wp2
          go_roundw
          case rel => exact HM.out
          case measure => rw [HME.out, HMS.out, ← HH.out]; have := HMO.out; omega
        obtain ⟨ad8, rfl⟩ : ∃ ad8, A8 = some ad8 := by
          obtain ⟨a, e, _⟩ := (Ints.of_ownLt HR8.out).at_ (k := 0) (by omega)
          exact ⟨a, e⟩
        obtain ⟨w5, hup, hv5, hg5⟩ := HES.out.wm.update (t := 60) Try.underlying60 (by have := HES.out.few; simp only [maxLen]; omega) hwf (.slice none 0 0)
        have hcl := HES.out.clear HA8.out hv5 hg5
        have HE5 := Lib.hid hcl.1
        have HH5 := Lib.hid hcl.2
        have HB5 : Hid (Below B w1 w5) := HBS.out.grown hg5 HES.out.size (fun k hk => by injection hk with hk; rw [← hk]; exact HES.out.lw)
        have hqf : ((q : Int) == 0) = false := by simp; omega
        have hc8 : q ≤ c8 := (Ints.of_ownLt HR8.out).cap
        have hm8 : c8 ≤ maxLen := (Ints.of_ownLt HR8.out).max
        unfold maxLen at hm8
        clear hcl hv5 hg5
        go_wp2
        clear l1 k2 hup
        obtain ⟨P, hP⟩ : ∃ P, P = lits (s.out.take h) ++ [lit] := ⟨_, rfl⟩
        have HI0 : Hid (Inner N cs ts P (s.f lit) (h + 1) 0 { s with f := clr s.f lit, head := h + 1 }) := by
          refine ⟨pop_base lit (h + 1) HBs.out, rfl, by show h + 1 ≤ s.out.length; have := HMO.out; omega, by show lits (s.out.take (h + 1)) = P; rw [HTK.out, hP], fun j hj => ?_⟩
          have := pop_wat lit (h + 1) (HW.out j hj)
          rw [← HH.out, ← hP] at this
          exact this
        clear hP
        go_loopw [15, 108] (fun v15 v108 wr => ∃ (k : Nat) (V' : Int → Option Value) (nf' : Nat) (Ao' : Option Addr) (mo' co' : Nat) (s' : PS), k ≤ q ∧ v108 = .int .i64 k ∧ Eng B g bm bw A n c [ad8.block] (T + 1 + 2 * k) V' nf' Ao' mo' co' s' wr ∧ Below B w1 wr ∧ wr.heap[ad8.block]? = ws.heap[ad8.block]? ∧ Inner N cs ts P (s.f lit) (h + 1) k s') (fun _ v _ => q - (intOf v).toNat)
        case atStart => exact ⟨0, _, _, _, _, _, _, Nat.zero_le _, rfl, HE5.out, HB5.out, HH5.out, HI0.out⟩
        case round =>
          clear HE5 HB5 HH5 HI0
          obtain ⟨k, V', nf', Ao', mo', co', s', hk, rfl, hE, hb, hH8, hIn⟩ := hrel
          by_cases hlt8 : k < q
          · obtain ⟨a', he, _, hcell⟩ := (Ints.of_ownLt HR8.out).at_ hlt8
            injection he with he
            subst he
            have e1 : wr.cell? (ad8.add k) = some (.int .i64 ((s.f lit).getD k 0)) := by
              rw [← hcell]
              exact World.cell?_of_block (by rw [block_of_add]; exact hH8)
            have hmem : (s.f lit).getD k 0 ∈ s.f lit := by rw [List.getD_eq_getElem?_getD, List.getElem?_eq_getElem (by have := HQ8.out; omega)]; simp
            obtain ⟨hi0, hi1⟩ := HBs.out.range lit _ hmem
            have hdr : (s.f lit).drop k = (s.f lit).getD k 0 :: (s.f lit).drop (k + 1) := by
              rw [List.drop_eq_getElem_cons (by have := HQ8.out; omega), List.getD_eq_getElem?_getD, List.getElem?_eq_getElem (by have := HQ8.out; omega)]; rfl
            obtain ⟨iN, hiN⟩ : ∃ iN : Nat, (s.f lit).getD k 0 = (iN : Int) := ⟨_, (Int.toNat_of_nonneg hi0).symm⟩
            rw [hiN] at e1 hi1 hdr
            have hilt : iN < cs.length := by omega
            obtain ⟨hol', hkl'⟩ := base_len hIn.base
            have hmo' := hE.outBound
            have call := visit_any (w := wr) cs iN (by have := HLR.out; omega) (HR1.out.belowLt (by rw [hB]; exact hb)) (fun l hl x hx => by have := HLIT.out l hl x hx; omega) hE (by omega) (by omega) (by omega)
            have HVY : Hid (∀ s'', visitR cs s' iN = (s'', true) → Inner N cs ts P (s.f lit) (h + 1) (k + 1) s'') := fun s'' h => hIn.yes hilt HLIT.out hdr h
            have HVN : Hid (∀ s'', visitR cs s' iN = (s'', false) → s'' = s' ∧ PropOut N cs ts s'.out iN) := fun s'' h => ⟨(visit_no h).1, out_no hIn.base hilt h⟩
            have HBq := Lib.hid hb
            have HEq := Lib.hid hE
            have HHq := Lib.hid hH8
            clear hIn hb hE hH8 hmem hi0 hi1 hdr hiN hol' hkl' hmo' hcell hilt
            generalize visitR cs s' iN = r at *
            obtain ⟨s'', ok⟩ := r
            have CALL := Lib.hid call
            clear call
            cases ok
            · obtain ⟨rfl, hout⟩ := HVN.out s'' rfl
              have HOUT := Lib.hid hout
              clear hout
              go_wp2_with (fail)
              (with_reducible refine CALL.out.mono ?_)
              rintro e w7 ⟨rfl, ⟨V2, nf2, Ao2, m2, co2, hE2⟩, hb2, _⟩
              have k3 : w7.cell? ⟨g, 3, none⟩ = some (.slice Ao2 m2 co2) := hE2.cell 3
              have HE2 := Lib.hid hE2
              have HB2 := Lib.hid hb2
              clear hE2 hb2 CALL
              go_wp2
              try rw [Exit.noGoto_ret]
              refine bodyPost_ret (v := .tuple #[.slice Ao2 m2 co2, .int .i64 iN, .int .i64 0]) (by simp [results, Try.results21, go_sem]) rfl ?_
              exact ⟨Ao2, m2, co2, s''.out, iN, rfl, own_base (HE2.out.own) (by rw [← hB]; exact HW1.out.size), HOUT.out, below_then HW1.out (by rw [hB]; exact HBq.out.trans HB2.out)⟩
            · have HIN := Lib.hid (HVY.out s'' rfl)
              go_wp2_with (fail)
              (with_reducible refine CALL.out.mono ?_)
              rintro e w7 ⟨rfl, ⟨V2, nf2, Ao2, m2, co2, hE2⟩, hb2, hH2⟩
              have HE2 := Lib.hid hE2
              have HB2 := Lib.hid hb2
              have HH2 := Lib.hid (hH2 ad8.block (by simp))
              clear hE2 hb2 hH2 CALL
              go_wp2
              go_roundw
              case rel =>
                refine ⟨k + 1, V2, nf2, Ao2, m2, co2, s'', by omega, by go_num, ?_, HBq.out.trans HB2.out, HH2.out.trans HHq.out, HIN.out⟩
                have := HE2.out
                rw [show T + 1 + 2 * k + 2 = T + 1 + 2 * (k + 1) by omega] at this
                exact this
              case measure => simp [intOf]; omega
          obtain rfl : q = k := by omega
          have hM : Main w1 N cs ts B g bm bw A n c m wr := by
            refine ⟨V', nf', Ao', mo', co', s', _, hE.hold (fun b hb => by cases hb), hb, hIn.base, by rw [hIn.head]; omega, by rw [hIn.head]; exact hIn.le, fun j hj => ?_, ?_⟩
            · rw [hIn.head, hIn.pre]
              rcases hIn.wat j hj with hw | hw
              · rw [List.drop_of_length_le (by have := HQ8.out; omega)] at hw; cases hw
              · exact hw
            · rw [hIn.head]
              have := HTX.out; omega
          have HM := Lib.hid hM
          have HME : Hid (hdOf g wr = h + 1) := (hd_eng hE).trans hIn.head
          clear hM hE hb hH8 hIn
          go_wp2
          go_roundw
          case rel => exact HM.out
          case measure => rw [HME.out, HMS.out, ← HH.out]; have := HMO.out; omega
end Go.Proofs.Ytelgabamdhaplaa
