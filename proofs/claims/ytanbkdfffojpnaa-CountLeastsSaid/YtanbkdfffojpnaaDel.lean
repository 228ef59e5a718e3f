/-
  slices.DeleteFunc as count.put uses it; count.put.
-/
import Derived.Test.YtanbkdfffojpnaaRow
import Derived.Test.YtanbkdfffojpnaaOne
import Derived.Lib.SliceRun
import Derived.Deep.RegionHeld3
import Derived.Deep.RegionWith
import Derived.Deep.RegionLaw
namespace Go.Proofs.Ytanbkdfffojpnaa
open Go.RowKit

set_option maxHeartbeats 1000000 in
theorem index0 (w : World) (A : Option Addr) (n c : Nat) (xs : List Int) (g : FuncId) (p : Int → Bool) (hI : Ints w (Lt w) A n c xs) (ht : Tests w g #[] xs p) (hg : Enters g) :
    Calls Try.prog 50 #[.slice A n c, .func (.func g) #[] #[]] w (RetIntBelow w (findI p xs)) := by
  have hc := hI.cap
  have hm := hI.max
  unfold maxLen at hm
  have HI := Lib.hid hI
  have HT := Lib.hid ht
  unfold Enters at hg
  clear hI ht
  go_enter Try.func50, Try.ntmps50
  go_wp2_with (fail)
  go_loopw [8] (fun i wr => ∃ k : Nat, k ≤ n ∧ i = .int .i64 k ∧ (xs.take k).any p = false ∧ Below w.heap.size w wr) (fun i _ => n - (intOf i).toNat)
  case atStart => exact ⟨0, Nat.zero_le _, rfl, by simp, Below.refl _ _⟩
  case round =>
    obtain ⟨k, hk, rfl, hany, hbl⟩ := hrel
    have HA := Lib.hid hany
    clear hany
    by_cases hlt : k < n
    · obtain ⟨ad, rfl, hadS, hcell⟩ := HI.out.at_ hlt
      have hl := HI.out.len
      have e1 := (hbl.cell (p := ad.add k) (by rw [block_of_add]; exact hadS)).trans hcell
      have hmem : xs.getD k 0 ∈ xs := by rw [List.getD_eq_getElem?_getD, List.getElem?_eq_getElem (by omega)]; simp
      have call := HT.out (xs.getD k 0) hmem wr hbl
      have call' : Calls Try.prog g #[.int .i64 (xs.getD k 0)] wr (RetBoolBelow wr (p (xs.getD k 0))) := call
      have HL := Lib.hid hl
      clear hcell hadS hmem call hl
      cases hp : p (xs.getD k 0)
      · rw [hp] at call'
        have CALL := Lib.hid call'
        have HN := Lib.hid (any_snoc (by have := HL.out; omega) HA.out hp)
        clear call' hp
        generalize xs.getD k 0 = x at *
        go_wp2_with (fail)
        (with_reducible refine CALL.out.mono ?_)
        rintro e w1 ⟨rfl, hb1⟩
        go_wp2_with (fail)
        go_roundw
        case rel => exact ⟨k + 1, by omega, by go_num, HN.out, hbl.trans (hb1.mono hbl.size)⟩
        case measure => simp [intOf]; omega
      · rw [hp] at call'
        have CALL := Lib.hid call'
        have HN := Lib.hid (findI_hit (by have := HL.out; omega) HA.out hp)
        clear call' hp
        generalize xs.getD k 0 = x at *
        go_wp2_with (fail)
        (with_reducible refine CALL.out.mono ?_)
        rintro e w1 ⟨rfl, hb1⟩
        go_wp2_with (fail)
        go_ret
        exact ⟨by rw [HN.out]; rfl, hbl.trans (hb1.mono hbl.size)⟩
    · have HN := Lib.hid (findI_miss (p := p) (xs := xs) (by have := HA.out; rwa [List.take_of_length_le (by have := HI.out.len; omega)] at this))
      go_wp2_with (fail)
      go_ret
      exact ⟨by rw [HN.out]; rfl, hbl⟩


set_option maxHeartbeats 400000 in
theorem isZero_any (w : World) (x : Int) : Calls Try.prog 48 #[.int .i64 x] w (RetBoolBelow w (x == 0)) := by
  go_enter Try.func48, Try.ntmps48
  go_wp2
  go_ret
  exact ⟨rfl, Below.refl _ _⟩
theorem zero_tests (w : World) (xs : List Int) : Tests w 48 #[] xs (fun x => x == 0) := fun x _ w' _ => isZero_any w' x

set_option maxHeartbeats 400000 in
theorem del_none (w : World) (A : Option Addr) (n c : Nat) (xs : List Int) (hI : Ints w (Lt w) A n c xs) (hx : xs.any (fun x => x == 0) = false) :
    Calls Try.prog 47 #[.slice A n c, .func (.func 48) #[] #[]] w (fun e w' => e = .returned (.slice A n c) ∧ Below w.heap.size w w') := by
  have call := index0 w A n c xs 48 (fun x => x == 0) hI (zero_tests w xs) (fun _ _ => by kernel_rfl)
  rw [findI_miss hx] at call
  have CALL := Lib.hid call
  clear hI call hx
  go_enter Try.func47, Try.ntmps47
  go_wp2_with (fail)
  (with_reducible refine CALL.out.mono ?_)
  rintro e w1 ⟨rfl, hb1⟩
  go_wp2_with (fail)
  go_ret
  exact ⟨rfl, hb1⟩

theorem row_setCell16 {w : World} {b j : Nat} {cs : Array Value} {u : Value} {t : TypeId} (h : w.heap[b]? = some (.cells cs t (0, 0))) : (w.setCell ⟨b, j, none⟩ u).heap[b]? = some (.cells (cs.setIfInBounds j u) t (0, 0)) := by
  have hlt := lt_of_block h
  have h' : w.heap[b] = .cells cs t (0, 0) := by simpa [Array.getElem?_eq_getElem hlt] using h
  show (w.heap.modify b _)[b]? = _
  rw [Array.getElem?_eq_getElem (by simpa using hlt), Array.getElem_modify_self, h']
  rfl
theorem int_zero (w : World) : (zeroValue 3).run Try.prog w = .ok (.int .i64 0) w := by kernel_rfl
set_option maxHeartbeats 1000000 in
set_option maxRecDepth 100000 in
theorem del_mid (w : World) (g : Nat) (a c : Int) (hg : w.heap[g]? = some (.cells #[.int .i64 a, .int .i64 0, .int .i64 c] 3 (0, 0))) (ha : a ≠ 0) (hc : c ≠ 0) :
    Calls Try.prog 47 #[.slice (some ⟨g, 0, none⟩) 3 3, .func (.func 48) #[] #[]] w
      (fun e w' => e = .returned (.slice (some ⟨g, 0, none⟩) 2 3) ∧ w'.heap[g]? = some (.cells #[.int .i64 a, .int .i64 c, .int .i64 0] 3 (0, 0)) ∧ w.grownBy w' (some g)) := by
  have hI : Ints w (Lt w) (some ⟨g, 0, none⟩) 3 3 [a, 0, c] := by
    refine ⟨rfl, Nat.le_refl _, by simp [maxLen], rfl, fun _ => ⟨_, rfl, lt_of_block hg, fun j u hu => ?_⟩⟩
    have e : (⟨g, 0, none⟩ : Addr).add j = ⟨g, j, none⟩ := by unfold Addr.add; split <;> simp_all
    rw [e, cell_of_row _ _ _ _ _ _ hg]
    simpa using hu
  have call := index0 w (some ⟨g, 0, none⟩) 3 3 [a, 0, c] 48 (fun x => x == 0) hI (zero_tests w _) (fun _ _ => by kernel_rfl)
  rw [findI_hit (k := 1) (by simp) (by simpa using ha) (by simp)] at call
  have CALL := Lib.hid call
  have HG := Lib.hid hg
  have he : Enters 48 := fun _ _ => by kernel_rfl
  unfold Enters at he
  clear hI call hg
  go_enter Try.func47, Try.ntmps47
  go_wp2_with (fail)
  (with_reducible refine CALL.out.mono ?_)
  rintro e w1 ⟨rfl, hb1⟩
  have hg1 := (hb1.block _ (lt_of_block HG.out)).trans HG.out
  have hgr1 : w.grownBy w1 (some g) := ⟨hb1.os, hb1.tape, hb1.output, hb1.size, fun k hk _ => hb1.block k hk⟩
  go_wp2_with (fail)
  go_loopw [5, 6, 7] (fun v5 v6 v7 wr => w.grownBy wr (some g) ∧ ((v5 = .int .i64 1 ∧ v6 = .int .i64 2 ∧ wr.heap[g]? = some (.cells #[.int .i64 a, .int .i64 0, .int .i64 c] 3 (0, 0))) ∨ (v5 = .int .i64 2 ∧ v6 = .int .i64 3 ∧ wr.heap[g]? = some (.cells #[.int .i64 a, .int .i64 c, .int .i64 c] 3 (0, 0)))))
    (fun _ v6 _ _ => 3 - (intOf v6).toNat)
  case atStart => exact ⟨hgr1, .inl ⟨by simp, by simp, hg1⟩⟩
  case round =>
    clear hg1 hgr1 hb1
    obtain ⟨hgr, ⟨rfl, rfl, hgw⟩ | ⟨rfl, rfl, hgw⟩⟩ := hrel
    · have c2 : wr.cell? ⟨g, 2, none⟩ = some (.int .i64 c) := by rw [cell_of_row _ _ _ _ _ _ hgw]; rfl
      have call := isZero_any wr c
      rw [show (c == 0) = false by simpa using hc] at call
      have CALL := Lib.hid call
      have HGR := Lib.hid hgr
      have HGW := Lib.hid hgw
      clear call hgr hgw
      go_wp2_with (fail)
      (with_reducible refine CALL.out.mono ?_)
      rintro e w2 ⟨rfl, hb2⟩
      have hg2 := (hb2.block _ (lt_of_block HGW.out)).trans HGW.out
      have c3 : w2.cell? ⟨g, 1, none⟩ = some (.int .i64 0) := by rw [cell_of_row _ _ _ _ _ _ hg2]; rfl
      have f3 : w2.frozen? ⟨g, 1, none⟩ = false := by simp [World.frozen?, hg2]
      have HG2 := Lib.hid hg2
      have HB2 := Lib.hid hb2
      clear hg2 hb2
      go_wp2_with (fail)
      go_roundw
      case rel =>
        refine ⟨?_, .inr ⟨by simp, by simp, ?_⟩⟩
        · refine ⟨HB2.out.os.trans HGR.out.os, HB2.out.tape.trans HGR.out.tape, HB2.out.output.trans HGR.out.output, by have := HB2.out.size; have := HGR.out.size; simp [World.setCell]; omega, fun k hk hne => ?_⟩
          rw [Below.heap_setCell _ _ _ _ (fun e => hne (by rw [e]))]
          exact (HB2.out.block k (Nat.lt_of_lt_of_le hk HGR.out.size)).trans (HGR.out.block k hk hne)
        · rw [row_setCell16 HG2.out]; rfl
      case measure => simp [intOf]
    · have c2 : ∀ j, j < 1 → (wr.cell? ⟨g, 2 + j, none⟩).isSome = true := fun j hj => by
        obtain rfl : j = 0 := by omega
        rw [cell_of_row _ _ _ _ _ _ hgw]; rfl
      have f2 : ∀ j, j < 1 → wr.frozen? ⟨g, 2 + j, none⟩ = false := fun j hj => by simp [World.frozen?, hgw]
      have hcl : ∀ ty, (Builtin.clear_ #[22] ty #[.slice (some ⟨g, 2, none⟩) 1 1]).run Try.prog wr = .ok (.tuple #[]) (wr.setCells g 2 (List.replicate 1 (.int .i64 0))) :=
        fun ty => Lib.run_clear_slice wr 22 3 ty (.int .i64 0) Try.underlying22 int_zero rfl rfl g 2 1 1 (by omega) c2 f2
      have HGR := Lib.hid hgr
      have HGW := Lib.hid hgw
      clear hgr hgw c2 f2
      go_wp2_with (simp only [hcl])
      go_ret
      refine ⟨rfl, ?_, ?_⟩
      · show (wr.setCell ⟨g, 2, none⟩ (.int .i64 0)).heap[g]? = _
        rw [row_setCell16 HGW.out]; rfl
      · show w.grownBy (wr.setCell ⟨g, 2, none⟩ (.int .i64 0)) (some g)
        exact ⟨HGR.out.os, HGR.out.tape, HGR.out.output, by have := HGR.out.size; simp [World.setCell]; omega, fun k hk hne => (Below.heap_setCell _ _ _ _ (fun e => hne (by rw [e]))).trans (HGR.out.block k hk hne)⟩

theorem lit_own (w0 : World) (ls : List Int) (hl : ls.length ≤ maxLen) : (w0.alloc (.cells (ls.map (Value.int .i64)).toArray 3)).ownsRow w0.heap.size 3 1 (.slice (some ⟨w0.heap.size, 0, none⟩) ls.length ls.length) ls.length (ls.map (Value.int .i64)) := by
  have := World.ownsRow_lit (base := w0.heap.size) (e := 3) (size := 1) w0 (ls.map (Value.int .i64)).toArray ls.length (Nat.le_refl _) hl (by simp)
  simpa using this

/-- Clauses as 'put' takes them: three literals or one; only the middle one may be missing. -/
def Putable (ls : List Int) : Prop := ls.length ≤ 3 ∧ (ls.any (fun x => x == 0) = false ∨ ∃ a c, ls = [a, 0, c] ∧ a ≠ 0 ∧ c ≠ 0)
theorem nz_all {ls : List Int} (h : ls.any (fun x => x == 0) = false) : nz ls = ls := by
  unfold nz
  rw [List.filter_eq_self]
  intro x hx
  simpa using List.any_eq_false.1 h x hx
theorem nz_mid {a c : Int} (ha : a ≠ 0) (hc : c ≠ 0) : nz [a, 0, c] = [a, c] := by simp [nz, ha, hc]

theorem del_any (w0 : World) (ls : List Int) (hp : Putable ls) :
    Calls Try.prog 47 #[.slice (some ⟨w0.heap.size, 0, none⟩) ls.length ls.length, .func (.func 48) #[] #[]] (w0.alloc (.cells (ls.map (Value.int .i64)).toArray 3)).drew
      (fun e w' => ∃ n' c', e = .returned (.slice (some ⟨w0.heap.size, 0, none⟩) n' c') ∧ w'.ownsRow w0.heap.size 3 1 (.slice (some ⟨w0.heap.size, 0, none⟩) n' c') n' ((nz ls).map (Value.int .i64)) ∧ n' ≤ 3 ∧ Below w0.heap.size w0 w') := by
  obtain ⟨hl, hp⟩ := hp
  have hm : ls.length ≤ maxLen := by simp only [maxLen]; omega
  have ho := lit_own w0 ls hm
  rcases hp with hp | ⟨a, c, rfl, ha, hc⟩
  · rw [nz_all hp]
    refine (del_none _ _ ls.length ls.length ls (Ints.of_ownLt ho.drew) hp).mono ?_
    rintro e w1 ⟨rfl, hb⟩
    exact ⟨ls.length, ls.length, rfl, own_below ho.drew hb (Nat.le_refl _), hl, (alloc_lt (w := w0) (.cells (ls.map (Value.int .i64)).toArray 3)).drew.trans (hb.mono (B' := w0.heap.size) (by simp))⟩
  · rw [nz_mid ha hc]
    have hnew : (w0.alloc (.cells #[.int .i64 a, .int .i64 0, .int .i64 c] 3)).heap[w0.heap.size]? = some (.cells #[.int .i64 a, .int .i64 0, .int .i64 c] 3 (0, 0)) := heap_alloc_new w0 _
    refine (del_mid (w0.alloc (.cells #[.int .i64 a, .int .i64 0, .int .i64 c] 3)).drew w0.heap.size a c hnew ha hc).mono ?_
    rintro e w1 ⟨rfl, hg, hgr⟩
    refine ⟨2, 3, rfl, ⟨rfl, .inr ⟨w0.heap.size, 3, _, rfl, Nat.le_refl _, hg, by omega, by simp [maxLen], rfl, rfl⟩⟩, by omega, ?_⟩
    have hal := alloc_lt (w := w0) (.cells #[.int .i64 a, .int .i64 0, .int .i64 c] 3)
    refine hal.grown (row := some w0.heap.size) ⟨hgr.os, hgr.tape, hgr.output, hgr.size, hgr.block⟩ (by simp) (by simp)

theorem own_boxL {w : World} {base size n b : Nat} {e t : TypeId} {v : Value} {xs : List Value} {cs : Array Value} (h : w.ownsRow base e size v n xs) (hb : w.heap[b]? = some (.cells cs t (0, 0))) (hne : e ≠ t) : v.ownBlock ≠ some b := by
  rcases h.2 with ⟨rfl, _⟩ | ⟨g, cap, cur, rfl, _, hh, _⟩
  · simp [Value.ownBlock]
  · intro e'
    simp [Value.ownBlock] at e'
    subst e'
    rw [hb] at hh
    injection hh with hh
    injection hh with _ ht
    exact hne ht.symm
/-- What 'put' leaves. -/
def Put (w : World) (base bl : Nat) (vc : Value) (css : List (List Int)) (e : Ending) (w' : World) : Prop :=
  e = .returned (.tuple #[]) ∧ (∃ A c, w'.heap[bl]? = some (.cells #[.slice A css.length c] 49 (0, 0)) ∧ OwnRows w' base (.slice A css.length c) css ∧ (∀ g, (Value.slice A css.length c).ownBlock = some g → vc.ownBlock = some g ∨ w.heap.size ≤ g)) ∧
  w'.os = w.os ∧ w'.tape = w.tape ∧ w'.output = w.output ∧ w.heap.size ≤ w'.heap.size ∧ ∀ k, k < w.heap.size → k ≠ bl → some k ≠ vc.ownBlock → w'.heap[k]? = w.heap[k]?

theorem put_end {w w1 w9 : World} {base bl n' : Nat} {A A9 Al : Option Addr} {c c9 cl : Nat} {css : List (List Int)} {P0 : List Int} {rows : List Value}
    (hbase : base ≤ w.heap.size) (hb : w.heap[bl]? = some (.cells #[.slice A css.length c] 49 (0, 0)))
    (r1 : w.ownsRow base 22 1 (.slice A css.length c) css.length rows) (r2 : ∀ (i : Nat) (r : Value), rows[i]? = some r → ∃ cs, css[i]? = some cs ∧ w.ownsRow base 3 1 r cs.length (cs.map (Value.int .i64)))
    (ho1 : w1.ownsRow w.heap.size 3 1 (.slice Al n' cl) n' (P0.map (Value.int .i64))) (hb1 : Below w.heap.size w w1)
    (hbx9 : w9.heap[bl]? = some (.cells #[.slice A css.length c] 49 (0, 0)))
    (ho9 : w9.ownsRow base 22 1 (.slice A9 (css.length + 1) c9) (css.length + 1) (rows ++ [.slice Al n' cl])) (hg9 : w1.grownBy w9 (Value.slice A css.length c).ownBlock)
    (hb9 : ∀ g, (Value.slice A9 (css.length + 1) c9).ownBlock = some g → (Value.slice A css.length c).ownBlock = some g ∨ w1.heap.size ≤ g) :
    Put w base bl (.slice A css.length c) (css ++ [P0]) (.returned (.tuple #[])) (w9.setCell ⟨bl, 0, none⟩ (.slice A9 (css.length + 1) c9)) := by
  have hlen : (css ++ [P0]).length = css.length + 1 := by simp
  have hn : n' = P0.length := by have := ho1.1; simpa using this.symm
  subst hn
  have hbw := lt_of_block hb
  refine ⟨rfl, ⟨A9, c9, ?_, ?_, ?_⟩, hg9.os.trans hb1.os, hg9.tape.trans hb1.tape, hg9.output.trans hb1.output, ?_, fun k hk hkb hkc => ?_⟩
  · rw [hlen]; exact one_setCell hbx9
  · rw [hlen]
    have hO : OwnRows w9 base (.slice A9 (css.length + 1) c9) (css ++ [P0]) := by
      refine OwnRows.snoc (own_below r1 hb1 (Nat.le_refl _)) (fun i r hr => ?_) (own_base ho1 hbase) ho9 rfl hg9
      obtain ⟨cs, e, h⟩ := r2 i r hr
      exact ⟨cs, e, own_below h hb1 (Nat.le_refl _)⟩
    exact hO.keep fun k cs t hk hh ht => Below.heap_setCell _ _ _ _ (fun e => by
      subst e
      rw [hbx9] at hh; injection hh with hh; injection hh with _ ht'; subst ht'; revert ht; decide)
  · rw [hlen]
    intro g hg
    rcases hb9 g hg with q | q
    · exact .inl q
    · exact .inr (by have := hb1.size; omega)
  · have := hb1.size; have := hg9.size; simp [World.setCell]; omega
  · rw [Below.heap_setCell _ _ _ _ hkb, hg9.block k (Nat.lt_of_lt_of_le hk hb1.size) hkc]
    exact hb1.block k hk

set_option maxHeartbeats 2000000 in
set_option maxRecDepth 100000 in
theorem put_any (w : World) (base bl : Nat) (A : Option Addr) (c : Nat) (css : List (List Int)) (ls : List Int) (hp : Putable ls) (hb : w.heap[bl]? = some (.cells #[.slice A css.length c] 49 (0, 0))) (hO : OwnRows w base (.slice A css.length c) css)
    (hbase : base ≤ w.heap.size) (hl : css.length ≤ 16777216) :
    Calls Try.prog 28 #[.pointer (some ⟨bl, 0, none⟩), .slice (some ⟨w.heap.size, 0, none⟩) ls.length ls.length] (w.alloc (.cells (ls.map (Value.int .i64)).toArray 3)) (Put w base bl (.slice A css.length c) (css ++ [nz ls])) := by
  obtain ⟨i1, hi1, hy0, hy1, hy2⟩ := info_parts ints_info
  obtain ⟨rows, r1, r2⟩ := hO
  have CALL := Lib.hid (del_any w ls hp)
  have hbw := lt_of_block hb
  have hal := alloc_lt (w := w) (.cells (ls.map (Value.int .i64)).toArray 3)
  have c0 : (w.alloc (.cells (ls.map (Value.int .i64)).toArray 3)).cell? ⟨bl, 0, none⟩ = some (.slice A css.length c) := cell_of_one ((hal.block _ hbw).trans hb)
  have HBL := Lib.hid hb
  have HR1 := Lib.hid r1
  have HR2 := Lib.hid r2
  clear hb r1 r2 hal hp
  generalize hW : w.alloc (.cells (ls.map (Value.int .i64)).toArray 3) = W at *
  generalize hL : ls.length = L at *
  clear hW
  go_enter Try.func28, Try.ntmps28
  go_region_law (first
    | (refine step_append_one _ (by rfl) (.tmp 8) (.tmp 11) _ (by rfl) base 22 i1 _ 24 Try.underlying24 hi1 hy0 hy1 hy2 rfl (.slice A css.length c) css.length rows (by rfl) (own_below HR1.out HB1.out (Nat.le_refl _)) 22 (.slice (some ⟨w.heap.size, 0, none⟩) n' c') 1 rfl (by rfl) (by simp only [maxLen]; omega) (by omega) (Nat.le_trans hbase HB1.out.size) ?_
       intro A9 c9 w9 ho9 hg9 hb9
       have hbx9 := (hg9.block bl (Nat.lt_of_lt_of_le hbw HB1.out.size) (fun e => own_boxL HR1.out HBL.out (by decide) e.symm)).trans HBX.out
       have c9' : w9.cell? ⟨bl, 0, none⟩ = some (.slice A css.length c) := cell_of_one hbx9
       have f9' : w9.frozen? ⟨bl, 0, none⟩ = false := free_of_one hbx9
       have HBX9 := Lib.hid hbx9
       clear hbx9)
    | (go_simp
       go_wp2_with (
         go_at_call 47
         (with_reducible refine CALL.out.mono ?_)
         rintro e w1 ⟨n', c', rfl, ho1, hn', hb1⟩
         have hbx := (hb1.block _ hbw).trans HBL.out
         have c1 : w1.cell? ⟨bl, 0, none⟩ = some (.slice A css.length c) := cell_of_one hbx
         have c1' : ∀ o : Obj, (w1.alloc o).cell? ⟨bl, 0, none⟩ = some (.slice A css.length c) := fun o => (World.cell?_alloc_lt _ _ _ (Nat.lt_of_lt_of_le hbw hb1.size)).trans c1
         have HB1 := Lib.hid hb1
         have HBX := Lib.hid hbx
         clear hb1 hbx)))
  all_goals go_end0
  all_goals exact put_end hbase HBL.out HR1.out HR2.out ho1 HB1.out HBX9.out ho9 hg9 hb9
end Go.Proofs.Ytanbkdfffojpnaa
