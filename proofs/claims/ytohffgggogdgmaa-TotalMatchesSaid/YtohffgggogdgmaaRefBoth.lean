/-
  chalklineref15.both: the clauses for one pair.
-/
import Derived.Test.YtohffgggogdgmaaRefVars
import Derived.Test.YtohffgggogdgmaaOne
import Derived.Deep.DeepMust
import Derived.Deep.CutRange
import Derived.Deep.DeepCutAuto
namespace Go.Proofs.Ytohffgggogdgmaa
open Go.RowKit

theorem free_of_row {w : World} {b j : Nat} {cs : Array Value} {t : TypeId} (h : w.heap[b]? = some (.cells cs t (0, 0))) : w.frozen? ⟨b, j, none⟩ = false := by simp [World.frozen?, h]
theorem row_setCell {w : World} {b j : Nat} {cs : Array Value} {u : Value} {t : TypeId} (h : w.heap[b]? = some (.cells cs t (0, 0))) : (w.setCell ⟨b, j, none⟩ u).heap[b]? = some (.cells (cs.setIfInBounds j u) t (0, 0)) := by
  have hlt := lt_of_block h
  have h' : w.heap[b] = .cells cs t (0, 0) := by simpa [Array.getElem?_eq_getElem hlt] using h
  show (w.heap.modify b _)[b]? = _
  rw [Array.getElem?_eq_getElem (by simpa using hlt), Array.getElem_modify_self, h']
  rfl

theorem at_succ {a : List Int} {j : Nat} (h : j < a.length) : notL (atL a (((j + 1 : Nat) : Int) - 1)) = [-(a.getD j 0)] := by
  unfold atL notL
  rw [if_pos (by omega)]
  simp
theorem at_zero (a : List Int) : notL (atL a (((0 : Nat) : Int) - 1)) = [] := by
  unfold atL notL
  rw [if_neg (by omega)]
  rfl
theorem at_here {a : List Int} {j : Nat} (h : j < a.length) : atL a (j : Int) = [a.getD j 0] := by
  unfold atL
  rw [if_pos (by omega)]
  simp
theorem at_past {a : List Int} {j : Nat} (h : a.length ≤ j) : atL a (j : Int) = [] := by
  unfold atL
  rw [if_neg (by omega)]

/-- Where 'both' stands: its copy of the state, its result's place, the clauses so far. -/
def BothSt (w : World) (base : Nat) (vc : Value) (next : Int) (css : List (List Int)) (wx : World) : Prop :=
  ∃ A c, wx.heap[w.heap.size]? = some (.cells #[.slice A css.length c, .int .i64 next] 52 (0, 0)) ∧ wx.heap[w.heap.size + 1]? = some (.cells #[.slice none 0 0, .int .i64 0] 52 (0, 0)) ∧
    OwnRows wx base (.slice A css.length c) css ∧ w.grownBy wx vc.ownBlock ∧ (∀ g, (Value.slice A css.length c).ownBlock = some g → vc.ownBlock = some g ∨ w.heap.size + 2 ≤ g)
theorem BothSt.below {w wx wy : World} {base : Nat} {vc : Value} {next : Int} {css : List (List Int)} (h : BothSt w base vc next css wx) (hb : Below wx.heap.size wx wy) : BothSt w base vc next css wy := by
  obtain ⟨A, c, h1, h2, h3, h4, h5⟩ := h
  refine ⟨A, c, (hb.block _ (lt_of_block h1)).trans h1, (hb.block _ (lt_of_block h2)).trans h2, h3.below hb (Nat.le_refl _), ?_, h5⟩
  exact h4.trans ⟨hb.os, hb.tape, hb.output, hb.size, fun k hk _ => hb.block k hk⟩
theorem BothSt.size {w wx : World} {base : Nat} {vc : Value} {next : Int} {css : List (List Int)} (h : BothSt w base vc next css wx) : w.heap.size + 2 ≤ wx.heap.size := by
  obtain ⟨A, c, h1, h2, _⟩ := h
  have := lt_of_block h2
  omega
theorem BothSt.row {w wx : World} {base n : Nat} {v vc : Value} {next : Int} {css css0 : List (List Int)} {xs : List Value} (h : BothSt w base vc next css wx) (h0 : OwnRows w base vc css0) (ho : w.ownsRow base 3 1 v n xs) : wx.ownsRow base 3 1 v n xs := by
  obtain ⟨A, c, h1, h2, h3, h4, h5⟩ := h
  obtain ⟨rows, h6, _⟩ := h0
  exact ho.kept h4 (own_ne ho h6 (by decide))
theorem own_lower {w : World} {base size n : Nat} {e : TypeId} {v : Value} {xs : List Value} (h : w.ownsRow base e size v n xs) : ∀ g, v.ownBlock = some g → base ≤ g := fun g hg => (h.lt g hg).1

/-- One more clause: 's.c = append(s.c, l)'. -/
theorem BothSt.push {w ws wx w2 : World} {base : Nat} {vc : Value} {next : Int} {css : List (List Int)} {A A' Al : Option Addr} {c c' cl : Nat} {P0 : List Int} {rows : List Value} {n : Nat} (hn : n = P0.length)
    (hb : base ≤ w.heap.size) (hv : ∀ g, vc.ownBlock = some g → base ≤ g)
    (h1 : ws.heap[w.heap.size]? = some (.cells #[.slice A css.length c, .int .i64 next] 52 (0, 0))) (h2 : ws.heap[w.heap.size + 1]? = some (.cells #[.slice none 0 0, .int .i64 0] 52 (0, 0)))
    (h3 : ws.ownsRow base 22 1 (.slice A css.length c) css.length rows)
    (h3' : ∀ (i : Nat) (r : Value), rows[i]? = some r → ∃ cs, css[i]? = some cs ∧ ws.ownsRow base 3 1 r cs.length (cs.map (Value.int .i64)))
    (h4 : w.grownBy ws vc.ownBlock) (h5 : ∀ g, (Value.slice A css.length c).ownBlock = some g → vc.ownBlock = some g ∨ w.heap.size + 2 ≤ g)
    (hbl : Below ws.heap.size ws wx) (hl : wx.ownsRow ws.heap.size 3 1 (.slice Al n cl) n (P0.map (Value.int .i64)))
    (hown : w2.ownsRow base 22 1 (.slice A' (css.length + 1) c') (css.length + 1) (rows ++ [.slice Al n cl])) (hg : wx.grownBy w2 (Value.slice A css.length c).ownBlock)
    (hgb : ∀ g, (Value.slice A' (css.length + 1) c').ownBlock = some g → (Value.slice A css.length c).ownBlock = some g ∨ wx.heap.size ≤ g) :
    BothSt w base vc next (css ++ [P0]) (w2.setCell ⟨w.heap.size, 0, none⟩ (.slice A' (css.length + 1) c')) := by
  subst hn
  have hs1 := lt_of_block h1
  have hs2 := lt_of_block h2
  have hsz := hbl.size
  have hne : ∀ b, b = w.heap.size ∨ b = w.heap.size + 1 → some b ≠ (Value.slice A css.length c).ownBlock := fun b hb' e => by
    have hq := h5 b e.symm
    rcases hq with hq | hq
    · rcases h3.2 with ⟨q, _⟩ | ⟨g, cap, cur, q, _, hh, _⟩
      · rw [q] at e; simp [Value.ownBlock] at e
      · rw [q] at e
        simp [Value.ownBlock] at e
        subst e
        rcases hb' with rfl | rfl
        · rw [h1] at hh; injection hh with hh; injection hh with _ ht; revert ht; decide
        · rw [h2] at hh; injection hh with hh; injection hh with _ ht; revert ht; decide
    · omega
  have k1 : w2.heap[w.heap.size]? = some (.cells #[.slice A css.length c, .int .i64 next] 52 (0, 0)) := (hg.block _ (by omega) (hne _ (.inl rfl))).trans ((hbl.block _ hs1).trans h1)
  have k2 : w2.heap[w.heap.size + 1]? = some (.cells #[.slice none 0 0, .int .i64 0] 52 (0, 0)) := (hg.block _ (by omega) (hne _ (.inr rfl))).trans ((hbl.block _ hs2).trans h2)
  have hO : OwnRows w2 base (.slice A' (css.length + 1) c') (css ++ [P0]) := by
    refine OwnRows.snoc (own_below h3 hbl (Nat.le_refl _)) (fun i r hr => ?_) (own_base hl (by have := h4.size; omega)) hown rfl hg
    obtain ⟨cs, e, h⟩ := h3' i r hr
    exact ⟨cs, e, own_below h hbl (Nat.le_refl _)⟩
  have hlen : (css ++ [P0]).length = css.length + 1 := by simp
  refine ⟨A', c', ?_, ?_, ?_, ?_, ?_⟩
  · rw [row_setCell k1, hlen]; rfl
  · rw [Below.heap_setCell _ _ _ _ (by simp)]; exact k2
  · rw [hlen]
    exact hO.keep fun k cs t hk hh ht => Below.heap_setCell _ _ _ _ (fun e => by
      subst e
      rw [k1] at hh
      injection hh with hh
      injection hh with _ ht'
      subst ht'
      revert ht; decide)
  · refine ⟨hg.os.trans (hbl.os.trans h4.os), hg.tape.trans (hbl.tape.trans h4.tape), hg.output.trans (hbl.output.trans h4.output), ?_, fun k hk hkv => ?_⟩
    · have := hg.size; have := h4.size; simp [World.setCell]; omega
    · have hks : k < ws.heap.size := by have := h4.size; omega
      rw [Below.heap_setCell _ _ _ _ (by simp; omega)]
      rw [hg.block k (by omega) (fun e => by
        rcases h5 k e.symm with q | q
        · exact hkv q.symm
        · omega)]
      rw [hbl.block k hks]
      exact h4.block k hk hkv
  · rw [hlen]
    intro g hgg
    rcases hgb g hgg with q | q
    · exact h5 g q
    · right; omega

theorem grown_setCell2 {w wx : World} {row : Option Nat} (h : w.grownBy wx row) {p : Addr} (hp : w.heap.size ≤ p.block) (u : Value) : w.grownBy (wx.setCell p u) row :=
  ⟨h.os, h.tape, h.output, by simp [World.setCell]; exact h.size, fun k hk hr => by rw [Below.heap_setCell _ _ _ _ (by omega)]; exact h.block k hk hr⟩
theorem push_box {w ws wx w2 : World} {base n : Nat} {vc : Value} {next : Int} {A : Option Addr} {c : Nat} {rows : List Value}
    (h5 : ∀ g, (Value.slice A n c).ownBlock = some g → vc.ownBlock = some g ∨ w.heap.size + 2 ≤ g) (h3 : ws.ownsRow base 22 1 (.slice A n c) n rows)
    (h1 : ws.heap[w.heap.size]? = some (.cells #[.slice A n c, .int .i64 next] 52 (0, 0)))
    (h1' : wx.heap[w.heap.size]? = some (.cells #[.slice A n c, .int .i64 next] 52 (0, 0))) (hg : wx.grownBy w2 (Value.slice A n c).ownBlock) :
    w2.heap[w.heap.size]? = some (.cells #[.slice A n c, .int .i64 next] 52 (0, 0)) := by
  refine (hg.block _ (lt_of_block h1') fun e => ?_).trans h1'
  rcases h3.2 with ⟨q, _⟩ | ⟨g, cap, cur, q, _, hh, _⟩
  · rw [q] at e; simp [Value.ownBlock] at e
  · rw [q] at e
    simp [Value.ownBlock] at e
    subst e
    rw [h1] at hh; injection hh with hh; injection hh with _ ht; revert ht; decide

/-- What 'both' leaves. -/
def RetBoth (w : World) (base : Nat) (vc : Value) (next : Int) (css : List (List Int)) (e : Ending) (w' : World) : Prop :=
  ∃ A c, e = .returned (.agg #[.slice A css.length c, .int .i64 next]) ∧ OwnRows w' base (.slice A css.length c) css ∧ w.grownBy w' vc.ownBlock ∧ (∀ g, (Value.slice A css.length c).ownBlock = some g → vc.ownBlock = some g ∨ w.heap.size ≤ g)

set_option maxHeartbeats 4000000 in
set_option maxRecDepth 100000 in
theorem both_any (w : World) (base : Nat) (vc : Value) (css : List (List Int)) (next : Int) (na ca nb cb no co : Nat) (Aa Ab Ao : Option Addr) (a b outs : List Int) (i k : Nat)
    (hO : OwnRows w base vc css) (hb : base ≤ w.heap.size)
    (ha : w.ownsRow base 3 1 (.slice Aa na ca) na (a.map (Value.int .i64))) (hbb : w.ownsRow base 3 1 (.slice Ab nb cb) nb (b.map (Value.int .i64))) (ho : w.ownsRow base 3 1 (.slice Ao no co) no (outs.map (Value.int .i64)))
    (hsa : Small a) (hsb : Small b) (hso : Small outs)
    (hi : i ≤ na) (hk : k ≤ nb) (hna : na ≤ 64) (hnb : nb ≤ 64) (hno : no ≤ 64) (hl : css.length ≤ 16777215) :
    Calls Try.prog 33 #[.agg #[vc, .int .i64 next], .slice Aa na ca, .slice Ab nb cb, .slice Ao no co, .int .i64 i, .int .i64 k] w (RetBoth w base vc next (css ++ pairC a b outs i k)) := by
  have la : na = a.length := by have := ha.1; simpa using this.symm
  have lb : nb = b.length := by have := hbb.1; simpa using this.symm
  have lo : no = outs.length := by have := ho.1; simpa using this.symm
  obtain ⟨Av, cv, rfl⟩ : ∃ A c, vc = .slice A css.length c := by obtain ⟨rows, h, _⟩ := hO; exact own_form h
  obtain ⟨i0, hi0, hz0, hz1, hz2⟩ := info_parts int_info
  obtain ⟨i1, hi1, hy0, hy1, hy2⟩ := info_parts ints_info
  have hvb : ∀ g, (Value.slice Av css.length cv).ownBlock = some g → base ≤ g := by obtain ⟨rows, h, _⟩ := hO; exact own_lower h
  obtain ⟨ws, hws⟩ : ∃ ws, ws = (w.alloc (.cells #[.slice Av css.length cv, .int .i64 next] 52)).alloc (.cells #[.slice none 0 0, .int .i64 0] 52) := ⟨_, rfl⟩
  have hst : BothSt w base (.slice Av css.length cv) next css ws := by
    subst hws
    refine ⟨Av, cv, ?_, ?_, ?_, ?_, fun g hg => .inl hg⟩
    · rw [Below.heap_alloc _ _ _ (by simp)]; exact heap_alloc_new w _
    · have := heap_alloc_new (w.alloc (.cells #[.slice Av css.length cv, .int .i64 next] 52)) (.cells #[.slice none 0 0, .int .i64 0] 52)
      simpa using this
    · exact (hO.below (alloc_lt _) (Nat.le_refl _)).below (alloc_lt _) (Nat.le_refl _)
    · exact (World.grownBy_alloc w _ _).trans (World.grownBy_alloc _ _ _)
  have hsz : ws.heap.size = w.heap.size + 1 + 1 := by subst hws; simp
  have e0 : (i : Int) + (k : Int) = ((i + k : Nat) : Int) := by omega
  generalize hN : i + k = N at e0
  have HST := Lib.hid hst
  have HO := Lib.hid hO
  have HA := Lib.hid ha
  have HB := Lib.hid hbb
  have HOU := Lib.hid ho
  have HSZ := Lib.hid hsz
  have LA := Lib.hid la
  have LB := Lib.hid lb
  have LO := Lib.hid lo
  have HN := Lib.hid hN
  have hNb : N ≤ 128 := by omega
  clear hst hO ha hbb ho hsz la lb lo hN
  go_enter Try.func33, Try.ntmps33
  go_upto_if 21 with (fail)
  rw [← hws, ← HSZ.out]
  clear hws e0
  obtain ⟨U1, hU1⟩ : ∃ U, U = notL (atL a ((i : Int) - 1)) := ⟨_, rfl⟩
  have HU1 := Lib.hid hU1
  have HU1x := Lib.hid hU1
  clear hU1
  have hal := alloc_lt (w := ws) (.cells #[] 3)
  have hown0 : (ws.alloc (.cells #[] 3)).ownsRow ws.heap.size 3 1 (.slice (some ⟨ws.heap.size, 0, none⟩) 0 0) 0 (([] : List Int).map (Value.int .i64)) := World.ownsRow_lit ws #[] 0 (Nat.le_refl _) (by simp [maxLen]) rfl
  have hIa := (Ints.of_ownLt (HST.out.row HO.out HA.out)).belowLt hal
  have hbase : ws.heap.size ≤ (ws.alloc (.cells #[] 3)).heap.size := by simp
  generalize hwx : ws.alloc (.cells #[] 3) = wx at *
  clear hwx
  go_cut [14] (fun t14 wy => ∃ A c, t14 = .slice A U1.length c ∧ wy.ownsRow ws.heap.size 3 1 (.slice A U1.length c) U1.length (U1.map (Value.int .i64)) ∧ Below ws.heap.size ws wy)
  case first =>
    by_cases h0 : 0 < i
    · obtain ⟨j, rfl⟩ : ∃ j, i = j + 1 := ⟨i - 1, by omega⟩
      obtain ⟨ad, rfl, hadb, hcell⟩ := hIa.at_ (k := j) (by omega)
      have hx : -70000 ≤ a.getD j 0 ∧ a.getD j 0 ≤ 70000 := by
        have hj : j < a.length := by have := LA.out; omega
        rw [List.getD_eq_getElem?_getD, List.getElem?_eq_getElem hj]
        exact hsa _ (List.getElem_mem hj)
      have HE : Hid (U1 = [-(a.getD j 0)]) := by rw [HU1.out]; exact at_succ (by have := LA.out; omega)
      generalize a.getD j 0 = x at *
      obtain ⟨hx1, hx2⟩ := hx
      go_wp2_with (first
        | (at_builtin
           go_must (refine wpList_append_one _ rfl (.tmp 22) (.tmp 29) _ rfl ws.heap.size 3 i0 _ 8 Try.underlying22 hi0 hz0 hz1 hz2 rfl (.slice (some ⟨ws.heap.size, 0, none⟩) 0 0) 0 [] (by rfl) hown0 3 (.int .i64 (-x)) 1 rfl (by rfl) (by simp [maxLen]) (by omega) hbase ?_)
           intro A1 c1 w1 ho1 hg1 hb1))
      go_meet
      case rel =>
        have hB1 : Below ws.heap.size ws w1 := hal.grown hg1 hbase (fun g hg => own_lower hown0 g hg)
        have e := HE.out
        subst e
        exact ⟨A1, c1, rfl, ho1, hB1⟩
    · obtain rfl : i = 0 := by omega
      have HE : Hid (U1 = []) := by rw [HU1.out]; exact at_zero a
      go_wp2
      go_meet
      case rel =>
        have e := HE.out
        subst e
        exact ⟨_, 0, rfl, hown0, hal⟩
  obtain ⟨A1, c1, rfl, ho1, hb1⟩ := hcut
  clear hIa hal hown0 hbase HU1
  have hU1l : U1.length ≤ 1 := by rw [HU1x.out]; exact notL_len _
  obtain ⟨U2, hU2⟩ : ∃ U, U = U1 ++ notL (atL b ((k : Int) - 1)) := ⟨_, rfl⟩
  have HU2 := Lib.hid hU2
  have HU2x := Lib.hid hU2
  clear hU2
  go_upto_if 32 with (fail)
  have hbs := hb1.size
  have hIx := (Ints.of_ownLt (HST.out.row HO.out HB.out)).belowLt hb1
  go_cut [14] (fun tt wy => ∃ A c, tt = .slice A U2.length c ∧ wy.ownsRow ws.heap.size 3 1 (.slice A U2.length c) U2.length (U2.map (Value.int .i64)) ∧ Below ws.heap.size ws wy)
  case first =>
    by_cases h0 : 0 < k
    · obtain ⟨j, rfl⟩ : ∃ j, k = j + 1 := ⟨k - 1, by omega⟩
      obtain ⟨ad, rfl, hadb, hcell⟩ := hIx.at_ (k := j) (by omega)
      have hx : -70000 ≤ b.getD j 0 ∧ b.getD j 0 ≤ 70000 := by
        have hj : j < b.length := by have := LB.out; omega
        rw [List.getD_eq_getElem?_getD, List.getElem?_eq_getElem hj]
        exact hsb _ (List.getElem_mem hj)
      have HE : Hid (U2 = U1 ++ [-(b.getD j 0)]) := by
        show U2 = U1 ++ [-(b.getD j 0)]
        rw [HU2.out, at_succ (by have := LB.out; omega)]
      generalize b.getD j 0 = x at *
      obtain ⟨hx1, hx2⟩ := hx
      go_wp2_with (first
        | (at_builtin
           go_must (refine wpList_append_one _ rfl (.tmp 33) (.tmp 40) _ rfl ws.heap.size 3 i0 _ 8 Try.underlying22 hi0 hz0 hz1 hz2 rfl (.slice A1 U1.length c1) U1.length (U1.map (Value.int .i64)) (by rfl) ho1 3 (.int .i64 (-x)) 1 rfl (by rfl) (by simp only [maxLen, List.length_nil]; omega) (by first | omega | simp) hbs ?_)
           intro A9 c9 w9 ho9 hg9 hb9))
      go_meet
      case rel =>
        have hB9 : Below ws.heap.size ws w9 := hb1.grown hg9 hbs (fun g hg => own_lower ho1 g hg)
        have e := HE.out
        subst e
        rw [List.length_append, List.map_append]
        exact ⟨A9, c9, rfl, ho9, hB9⟩
    · obtain rfl : k = 0 := by omega
      have HE : Hid (U2 = U1) := by
        show U2 = U1
        rw [HU2.out, at_zero, List.append_nil]
      go_wp2
      go_meet
      case rel =>
        have e := HE.out
        subst e
        exact ⟨_, _, rfl, ho1, hb1⟩
  obtain ⟨A2, c2, rfl, ho2, hb2⟩ := hcut
  have hU2l : U2.length ≤ 2 := by rw [HU2x.out, List.length_append]; have := notL_len (atL b ((k : Int) - 1)); omega
  obtain ⟨C1, hC1⟩ : ∃ U, U = if 0 < i + k ∧ i + k ≤ outs.length then [upC a b outs i k] else [] := ⟨_, rfl⟩
  have HC1 := Lib.hid hC1
  clear hC1
  obtain ⟨bt, hbt⟩ : ∃ b : Bool, b = decide (0 < N ∧ N ≤ no) := ⟨_, rfl⟩
  have HBT := Lib.hid hbt
  clear hbt
  go_upto_region 7 with (fail)
  go_cut [49] (fun tt wy => tt = .bool bt ∧ wc = wy)
  case first =>
    by_cases h0 : 0 < N
    · by_cases h1 : N ≤ no
      all_goals
        go_wp2
        go_meet
        case rel => exact ⟨by rw [HBT.out]; simp [h0, h1]; try omega, rfl⟩
    · go_wp2
      go_meet
      case rel => exact ⟨by rw [HBT.out]; simp [h0]; try omega, rfl⟩
  obtain ⟨rfl, rfl⟩ := hcut
  go_upto_if 49 with (fail)
  have hbs := hb2.size
  have hIx := (Ints.of_ownLt (HST.out.row HO.out HOU.out)).belowLt hb2
  have HIX := Lib.hid hIx
  clear hIx
  go_cut [14] (fun tt wy => BothSt w base (.slice Av css.length cv) next (css ++ C1) wy)
  case first =>
    by_cases h0 : 0 < N ∧ N ≤ no
    · obtain ⟨j, rfl⟩ : ∃ j, N = j + 1 := ⟨N - 1, by omega⟩
      obtain rfl : bt = true := by rw [HBT.out]; simpa using h0
      obtain ⟨hN1, hN2⟩ := h0
      obtain ⟨ad, rfl, hadb, hcell⟩ := HIX.out.at_ (k := j) (by omega)
      have hx : -70000 ≤ outs.getD j 0 ∧ outs.getD j 0 ≤ 70000 := by
        have hj : j < outs.length := by have := LO.out; omega
        rw [List.getD_eq_getElem?_getD, List.getElem?_eq_getElem hj]
        exact hso _ (List.getElem_mem hj)
      have HE : Hid (C1 = [U2 ++ [outs.getD j 0]]) := by
        show C1 = [U2 ++ [outs.getD j 0]]
        have hn := HN.out
        rw [HC1.out, if_pos (by have := LO.out; omega), HU2x.out, HU1x.out]
        unfold upC
        rw [show (i : Int) + k - 1 = (j : Int) by omega, at_here (a := outs) (by have := LO.out; omega)]
      generalize outs.getD j 0 = x at *
      obtain ⟨hx1, hx2⟩ := hx
      obtain ⟨Ac, cc, q1, q2, ⟨rows, r1, r2⟩, q4, q5⟩ := HST.out
      have Q1 := Lib.hid q1
      have R1 := Lib.hid r1
      have hbw : base ≤ ws.heap.size := Nat.le_trans hb q4.size
      have tok1 : True := trivial
      clear q1 r1 hadb
      go_wp2_with (first
        | (at_builtin
           have _t := tok1
           go_must (refine wpList_append_one _ rfl (.tmp 50) (.tmp 56) _ rfl ws.heap.size 3 i0 _ 8 Try.underlying22 hi0 hz0 hz1 hz2 rfl (.slice A2 U2.length c2) U2.length (U2.map (Value.int .i64)) (by rfl) ho2 3 (.int .i64 (x)) 1 rfl (by rfl) (by simp only [maxLen]; omega) (by omega) hbs ?_)
           intro A9 c9 w9 ho9 hg9 hb9
           clear tok1
           have hB9 : Below ws.heap.size ws w9 := hb2.grown hg9 hbs (fun g hg => own_lower ho2 g hg)
           have hbx := (hB9.block _ (lt_of_block Q1.out)).trans Q1.out
           have hc9 : w9.cell? ⟨w.heap.size, 0, none⟩ = some (.slice Ac (css).length cc) := by rw [cell_of_row _ _ _ _ _ _ hbx]; rfl
           have HBX := Lib.hid hbx
           have hs9 := hB9.size
           clear hbx)
        | (at_builtin
           go_must (refine wpList_append_one _ rfl (.tmp 59) (.tmp 61) _ rfl base 22 i1 _ 24 Try.underlying24 hi1 hy0 hy1 hy2 rfl (.slice Ac (css).length cc) (css).length rows (by rfl) (own_below R1.out hB9 (Nat.le_refl _)) 22 (.slice A9 (U2.length + 1) c9) 1 rfl (by rfl) (by simp only [maxLen]; omega) (by omega) (by omega) ?_)
           intro A10 c10 w10 ho10 hg10 hb10
           have hbx := push_box q5 R1.out Q1.out HBX.out hg10
           have hc10 : w10.cell? ⟨w.heap.size, 0, none⟩ = some (.slice Ac (css).length cc) := by rw [cell_of_row _ _ _ _ _ _ hbx]; rfl
           have hf10 : w10.frozen? ⟨w.heap.size, 0, none⟩ = false := free_of_row hbx
           clear hbx))
      go_meet
      case rel =>
        have e := HE.out
        subst e
        exact BothSt.push (n := U2.length + 1) (by simp) hb hvb Q1.out q2 R1.out r2 q4 q5 hB9 (by rw [List.map_append]; exact ho9) ho10 hg10 hb10
    · have HE : Hid (C1 = []) := by
        show C1 = []
        rw [HC1.out, if_neg (by have := LO.out; have := HN.out; omega)]
      obtain rfl : bt = false := by rw [HBT.out]; simpa using h0
      go_wp2
      all_goals go_meet
      all_goals
        have e := HE.out
        subst e
        rw [List.append_nil]
        exact HST.out.below hb2
  have hstC1 := hcut
  clear hcut
  obtain ⟨css1, hcss1⟩ : ∃ x, x = css ++ C1 := ⟨_, rfl⟩
  rw [← hcss1] at hstC1
  have HCSS := Lib.hid hcss1
  clear hcss1
  have HSTC := Lib.hid hstC1
  obtain ⟨ws2, rfl⟩ : ∃ x, x = wc := ⟨_, rfl⟩
  clear hstC1 ho2 hb2 ho1 hb1 hbs HIX hU1l hU2l
  have hC1l : C1.length ≤ 1 := by rw [HC1.out]; split <;> simp
  go_upto_if 68 with (fail)
  have hal := alloc_lt (w := ws2) (.cells #[] 3)
  have hown0 : (ws2.alloc (.cells #[] 3)).ownsRow ws2.heap.size 3 1 (.slice (some ⟨ws2.heap.size, 0, none⟩) 0 0) 0 (([] : List Int).map (Value.int .i64)) := World.ownsRow_lit ws2 #[] 0 (Nat.le_refl _) (by simp [maxLen]) rfl
  generalize hwx : ws2.alloc (.cells #[] 3) = wx at *
  clear hwx
  obtain ⟨D1, hD1⟩ : ∃ U, U = ([] : List Int) ++ atL a (i : Int) := ⟨_, rfl⟩
  have HD1 := Lib.hid hD1
  have HD1x := Lib.hid hD1
  clear hD1
  go_upto_if 68 with (fail)
  have hbs := hal.size
  have hIx := (Ints.of_ownLt (HSTC.out.row HO.out HA.out)).belowLt hal
  go_cut [15] (fun tt wy => ∃ A c, tt = .slice A D1.length c ∧ wy.ownsRow ws2.heap.size 3 1 (.slice A D1.length c) D1.length (D1.map (Value.int .i64)) ∧ Below ws2.heap.size ws2 wy)
  case first =>
    by_cases h0 : i < na
    · obtain ⟨j, hj⟩ : ∃ j, i = j := ⟨_, rfl⟩
      subst hj
      obtain ⟨ad, rfl, hadb, hcell⟩ := hIx.at_ (k := i) (by omega)
      have hx : -70000 ≤ a.getD i 0 ∧ a.getD i 0 ≤ 70000 := by
        have hj : i < a.length := by have := LA.out; omega
        rw [List.getD_eq_getElem?_getD, List.getElem?_eq_getElem hj]
        exact hsa _ (List.getElem_mem hj)
      have HE : Hid (D1 = ([] : List Int) ++ [a.getD i 0]) := by
        show D1 = ([] : List Int) ++ [a.getD i 0]
        rw [HD1.out, at_here (by have := LA.out; omega)]
      generalize a.getD i 0 = x at *
      obtain ⟨hx1, hx2⟩ := hx
      clear hIx
      go_wp2_with (first
        | (at_builtin
           go_must (refine wpList_append_one _ rfl (.tmp 69) (.tmp 74) _ rfl ws2.heap.size 3 i0 _ 8 Try.underlying22 hi0 hz0 hz1 hz2 rfl (.slice (some ⟨ws2.heap.size, 0, none⟩) ([] : List Int).length 0) ([] : List Int).length (([] : List Int).map (Value.int .i64)) (by rfl) hown0 3 (.int .i64 (x)) 1 rfl (by rfl) (by simp only [maxLen, List.length_nil]; omega) (by first | omega | simp) hbs ?_)
           intro A9 c9 w9 ho9 hg9 hb9))
      go_meet
      case rel =>
        have hB9 : Below ws2.heap.size ws2 w9 := hal.grown hg9 hbs (fun g hg => own_lower hown0 g hg)
        have e := HE.out
        subst e
        rw [List.length_append, List.map_append]
        exact ⟨A9, c9, rfl, ho9, hB9⟩
    · have HE : Hid (D1 = ([] : List Int)) := by
        show D1 = ([] : List Int)
        rw [HD1.out, at_past (by have := LA.out; omega), List.append_nil]
      go_wp2
      go_meet
      case rel =>
        have e := HE.out
        subst e
        exact ⟨_, _, rfl, hown0, hal⟩
  obtain ⟨A3, c3, rfl, ho3, hb3⟩ := hcut
  have hD1l : D1.length ≤ 1 := by rw [HD1x.out, List.nil_append]; exact atL_len _ _
  obtain ⟨D2, hD2⟩ : ∃ U, U = D1 ++ atL b (k : Int) := ⟨_, rfl⟩
  have HD2 := Lib.hid hD2
  have HD2x := Lib.hid hD2
  clear hD2
  go_upto_if 79 with (fail)
  have hbs := hb3.size
  have hIx := (Ints.of_ownLt (HSTC.out.row HO.out HB.out)).belowLt hb3
  go_cut [15] (fun tt wy => ∃ A c, tt = .slice A D2.length c ∧ wy.ownsRow ws2.heap.size 3 1 (.slice A D2.length c) D2.length (D2.map (Value.int .i64)) ∧ Below ws2.heap.size ws2 wy)
  case first =>
    by_cases h0 : k < nb
    · obtain ⟨j, hj⟩ : ∃ j, k = j := ⟨_, rfl⟩
      subst hj
      obtain ⟨ad, rfl, hadb, hcell⟩ := hIx.at_ (k := k) (by omega)
      have hx : -70000 ≤ b.getD k 0 ∧ b.getD k 0 ≤ 70000 := by
        have hj : k < b.length := by have := LB.out; omega
        rw [List.getD_eq_getElem?_getD, List.getElem?_eq_getElem hj]
        exact hsb _ (List.getElem_mem hj)
      have HE : Hid (D2 = D1 ++ [b.getD k 0]) := by
        show D2 = D1 ++ [b.getD k 0]
        rw [HD2.out, at_here (by have := LB.out; omega)]
      generalize b.getD k 0 = x at *
      obtain ⟨hx1, hx2⟩ := hx
      clear hIx
      go_wp2_with (first
        | (at_builtin
           go_must (refine wpList_append_one _ rfl (.tmp 80) (.tmp 85) _ rfl ws2.heap.size 3 i0 _ 8 Try.underlying22 hi0 hz0 hz1 hz2 rfl (.slice A3 D1.length c3) D1.length (D1.map (Value.int .i64)) (by rfl) ho3 3 (.int .i64 (x)) 1 rfl (by rfl) (by simp only [maxLen, List.length_nil]; omega) (by first | omega | simp) hbs ?_)
           intro A9 c9 w9 ho9 hg9 hb9))
      go_meet
      case rel =>
        have hB9 : Below ws2.heap.size ws2 w9 := hb3.grown hg9 hbs (fun g hg => own_lower ho3 g hg)
        have e := HE.out
        subst e
        rw [List.length_append, List.map_append]
        exact ⟨A9, c9, rfl, ho9, hB9⟩
    · have HE : Hid (D2 = D1) := by
        show D2 = D1
        rw [HD2.out, at_past (by have := LB.out; omega), List.append_nil]
      go_wp2
      go_meet
      case rel =>
        have e := HE.out
        subst e
        exact ⟨_, _, rfl, ho3, hb3⟩
  obtain ⟨A4, c4, rfl, ho4, hb4⟩ := hcut
  have hD2l : D2.length ≤ 2 := by rw [HD2x.out, List.length_append]; have := atL_len b (k : Int); omega
  have hcl : css1.length ≤ 16777216 := by rw [HCSS.out, List.length_append]; omega
  obtain ⟨C2, hC2⟩ : ∃ U, U = if i + k < outs.length then [downC a b outs i k] else [] := ⟨_, rfl⟩
  have HC2 := Lib.hid hC2
  clear hC2
  go_upto_if 90 with (fail)
  have hbs := hb4.size
  have hIx := (Ints.of_ownLt (HSTC.out.row HO.out HOU.out)).belowLt hb4
  have HIX := Lib.hid hIx
  clear hIx
  go_cut [15] (fun tt wy => BothSt w base (.slice Av css.length cv) next (css1 ++ C2) wy)
  case first =>
    by_cases h0 : N < no
    · have hm : N < no := h0
      obtain ⟨ad, rfl, hadb, hcell⟩ := HIX.out.at_ (k := N) (by omega)
      have hx : -70000 ≤ outs.getD N 0 ∧ outs.getD N 0 ≤ 70000 := by
        have hj : N < outs.length := by have := LO.out; omega
        rw [List.getD_eq_getElem?_getD, List.getElem?_eq_getElem hj]
        exact hso _ (List.getElem_mem hj)
      have HE : Hid (C2 = [D2 ++ [-(outs.getD N 0)]]) := by
        show C2 = [D2 ++ [-(outs.getD N 0)]]
        have hn := HN.out
        rw [HC2.out, if_pos (by have := LO.out; omega), HD2x.out, HD1x.out]
        unfold downC
        rw [show (i : Int) + k = (N : Int) by omega, at_here (a := outs) (by have := LO.out; omega)]
        rfl
      generalize outs.getD N 0 = x at *
      obtain ⟨hx1, hx2⟩ := hx
      obtain ⟨Ac, cc, q1, q2, ⟨rows, r1, r2⟩, q4, q5⟩ := HSTC.out
      have Q1 := Lib.hid q1
      have R1 := Lib.hid r1
      have hbw : base ≤ ws2.heap.size := Nat.le_trans hb q4.size
      have tok1 : True := trivial
      clear q1 r1 hadb
      go_wp2_with (first
        | (at_builtin
           have _t := tok1
           go_must (refine wpList_append_one _ rfl (.tmp 91) (.tmp 97) _ rfl ws2.heap.size 3 i0 _ 8 Try.underlying22 hi0 hz0 hz1 hz2 rfl (.slice A4 D2.length c4) D2.length (D2.map (Value.int .i64)) (by rfl) ho4 3 (.int .i64 (-x)) 1 rfl (by rfl) (by simp only [maxLen]; omega) (by omega) hbs ?_)
           intro A9 c9 w9 ho9 hg9 hb9
           clear tok1
           have hB9 : Below ws2.heap.size ws2 w9 := hb4.grown hg9 hbs (fun g hg => own_lower ho4 g hg)
           have hbx := (hB9.block _ (lt_of_block Q1.out)).trans Q1.out
           have hc9 : w9.cell? ⟨w.heap.size, 0, none⟩ = some (.slice Ac (css1).length cc) := by rw [cell_of_row _ _ _ _ _ _ hbx]; rfl
           have HBX := Lib.hid hbx
           have hs9 := hB9.size
           clear hbx)
        | (at_builtin
           go_must (refine wpList_append_one _ rfl (.tmp 100) (.tmp 102) _ rfl base 22 i1 _ 24 Try.underlying24 hi1 hy0 hy1 hy2 rfl (.slice Ac (css1).length cc) (css1).length rows (by rfl) (own_below R1.out hB9 (Nat.le_refl _)) 22 (.slice A9 (D2.length + 1) c9) 1 rfl (by rfl) (by simp only [maxLen]; omega) (by omega) (by omega) ?_)
           intro A10 c10 w10 ho10 hg10 hb10
           have hbx := push_box q5 R1.out Q1.out HBX.out hg10
           have hc10 : w10.cell? ⟨w.heap.size, 0, none⟩ = some (.slice Ac (css1).length cc) := by rw [cell_of_row _ _ _ _ _ _ hbx]; rfl
           have hf10 : w10.frozen? ⟨w.heap.size, 0, none⟩ = false := free_of_row hbx
           clear hbx))
      go_meet
      case rel =>
        have e := HE.out
        subst e
        exact BothSt.push (n := D2.length + 1) (by simp) hb hvb Q1.out q2 R1.out r2 q4 q5 hB9 (by rw [List.map_append]; exact ho9) ho10 hg10 hb10
    · have HE : Hid (C2 = []) := by
        show C2 = []
        rw [HC2.out, if_neg (by have := LO.out; have := HN.out; omega)]
      go_wp2
      all_goals go_meet
      all_goals
        have e := HE.out
        subst e
        rw [List.append_nil]
        exact HSTC.out.below hb4
  have hstC2 := hcut
  clear hcut
  have HFIN : Hid (css1 ++ C2 = css ++ pairC a b outs i k) := by
    show css1 ++ C2 = css ++ pairC a b outs i k
    rw [HCSS.out, HC1.out, HC2.out, List.append_assoc]; rfl
  obtain ⟨Ac, cc, q1, q2, q3, q4, q5⟩ := hstC2
  have p1 : wc.cell? ⟨w.heap.size, 0, none⟩ = some (.slice Ac (css1 ++ C2).length cc) := by rw [cell_of_row _ _ _ _ _ _ q1]; rfl
  have p2 : wc.cell? ⟨w.heap.size, 1, none⟩ = some (.int .i64 next) := by rw [cell_of_row _ _ _ _ _ _ q1]; rfl
  have p3 : wc.cell? ⟨w.heap.size + 1, 0, none⟩ = some (.slice none 0 0) := by rw [cell_of_row _ _ _ _ _ _ q2]; rfl
  have p4 : wc.cell? ⟨w.heap.size + 1, 1, none⟩ = some (.int .i64 0) := by rw [cell_of_row _ _ _ _ _ _ q2]; rfl
  have p5 : wc.frozen? ⟨w.heap.size + 1, 0, none⟩ = false := free_of_row q2
  have p6 : wc.frozen? ⟨w.heap.size + 1, 1, none⟩ = false := free_of_row q2
  generalize css1 ++ C2 = css2 at *
  go_wp2
  have k2 := row_setCell (j := 1) (u := .int .i64 next) (row_setCell (j := 0) (u := .slice Ac css2.length cc) q2)
  have g1 : ((wc.setCell ⟨w.heap.size + 1, 0, none⟩ (.slice Ac css2.length cc)).setCell ⟨w.heap.size + 1, 1, none⟩ (.int .i64 next)).cell? ⟨w.heap.size + 1, 0, none⟩ = some (.slice Ac css2.length cc) := by rw [cell_of_row _ _ _ _ _ _ k2]; rfl
  have g2 : ((wc.setCell ⟨w.heap.size + 1, 0, none⟩ (.slice Ac css2.length cc)).setCell ⟨w.heap.size + 1, 1, none⟩ (.int .i64 next)).cell? ⟨w.heap.size + 1, 1, none⟩ = some (.int .i64 next) := by rw [cell_of_row _ _ _ _ _ _ k2]; rfl
  refine bodyPost_ret (v := .agg #[.slice Ac css2.length cc, .int .i64 next]) (by simp [results, Try.results33, go_sem, g1, g2]) rfl ?_
  rw [← HFIN.out]
  refine ⟨Ac, cc, rfl, ?_, ?_, fun g hg => (q5 g hg).imp_right (by omega)⟩
  · refine q3.keep fun kk cs t hkk hh ht => ?_
    have hne : kk ≠ w.heap.size + 1 := fun e => by
      subst e
      rw [q2] at hh; injection hh with hh; injection hh with _ ht'; subst ht'; revert ht; decide
    rw [Below.heap_setCell _ _ _ _ hne, Below.heap_setCell _ _ _ _ hne]
  · exact grown_setCell2 (grown_setCell2 q4 (by simp) _) (by simp) _
end Go.Proofs.Ytohffgggogdgmaa
