/-
  chalklineref15.count: the totalizer by recursion.
-/
import Derived.Test.YtohffgggogdgmaaRefBoth
import Derived.Deep.RegionHeld3
import Derived.Deep.RegionWith
namespace Go.Proofs.Ytohffgggogdgmaa
open Go.RowKit

theorem own_box {w : World} {base size n b : Nat} {e t : TypeId} {v : Value} {xs : List Value} {cs : Array Value} (h : w.ownsRow base e size v n xs) (hb : w.heap[b]? = some (.cells cs t (0, 0))) (hne : e ≠ t) : v.ownBlock ≠ some b := by
  rcases h.2 with ⟨rfl, _⟩ | ⟨g, cap, cur, rfl, _, hh, _⟩
  · simp [Value.ownBlock]
  · intro e'
    simp [Value.ownBlock] at e'
    subst e'
    rw [hb] at hh
    injection hh with hh
    injection hh with _ ht
    exact hne ht.symm
theorem own_box2 {w : World} {base size n b i j : Nat} {e t : TypeId} {v x y : Value} {xs : List Value} {cs : Array Value} (h : w.ownsRow base e size v n xs) (hb : w.heap[b]? = some (.cells cs t (0, 0))) (hne : e ≠ t) :
    ((w.setCell ⟨b, i, none⟩ x).setCell ⟨b, j, none⟩ y).ownsRow base e size v n xs :=
  ownsRow_setCell_other (ownsRow_setCell_other h (own_box h hb hne) _) (own_box h hb hne) _

theorem grown_then {a b c : World} {row row' : Option Nat} (h : a.grownBy b row) (k : b.grownBy c row') (hr : ∀ j, row' = some j → a.heap.size ≤ j ∨ row = some j) : a.grownBy c row :=
  ⟨k.os.trans h.os, k.tape.trans h.tape, k.output.trans h.output, Nat.le_trans h.size k.size, fun i hi hne => by
    rw [k.block i (Nat.lt_of_lt_of_le hi h.size) (fun e => by
      rcases hr i e.symm with q | q
      · omega
      · exact hne q.symm)]
    exact h.block i hi hne⟩
theorem grown_drew {w w' : World} {row : Option Nat} (h : w.grownBy w' row) : w.grownBy w'.drew row := ⟨h.os, h.tape, h.output, h.size, h.block⟩
theorem grown_of_drew {w w' : World} {row : Option Nat} (h : w.drew.grownBy w' row) : w.grownBy w' row := ⟨h.os, h.tape, h.output, h.size, h.block⟩
theorem Ints.grown {w w' : World} {base n c : Nat} {A : Option Addr} {xs : List Int} {row : Option Nat} (h : Ints w (fun k => k < base) A n c xs) (hb : base ≤ w.heap.size) (hg : w.grownBy w' row) (hr : ∀ g, row = some g → base ≤ g) : Ints w' (fun k => k < base) A n c xs :=
  h.keep fun p hp => by
    have hp' : p.block < base := hp
    exact World.cell?_of_block (w := w) (hg.block p.block (by omega) (fun e => by have := hr _ e.symm; omega))
/-- 's, .. = call(s, ..)': the state is stored anew. -/
theorem BothSt.stored {w wx w1 : World} {base n1 c1 : Nat} {vc : Value} {next next1 : Int} {css css1 : List (List Int)} {A A1 : Option Addr} {c : Nat}
    (h1 : wx.heap[w.heap.size]? = some (.cells #[.slice A css.length c, .int .i64 next] 52 (0, 0))) (h2 : wx.heap[w.heap.size + 1]? = some (.cells #[.slice none 0 0, .int .i64 0] 52 (0, 0)))
    (h3 : OwnRows wx base (.slice A css.length c) css) (h4 : w.grownBy wx vc.ownBlock) (h5 : ∀ g, (Value.slice A css.length c).ownBlock = some g → vc.ownBlock = some g ∨ w.heap.size + 2 ≤ g)
    (hg : wx.grownBy w1 (Value.slice A css.length c).ownBlock) (hO : OwnRows w1 base (.slice A1 n1 c1) css1) (hn : n1 = css1.length)
    (hgb : ∀ g, (Value.slice A1 n1 c1).ownBlock = some g → (Value.slice A css.length c).ownBlock = some g ∨ wx.heap.size ≤ g) :
    w1.heap[w.heap.size]? = some (.cells #[.slice A css.length c, .int .i64 next] 52 (0, 0)) ∧
    BothSt w base vc next1 css1 ((w1.setCell ⟨w.heap.size, 0, none⟩ (.slice A1 n1 c1)).setCell ⟨w.heap.size, 1, none⟩ (.int .i64 next1)) := by
  subst hn
  have hs1 := lt_of_block h1
  have hs2 := lt_of_block h2
  obtain ⟨rows, r1, r2⟩ := h3
  have k1 : w1.heap[w.heap.size]? = some (.cells #[.slice A css.length c, .int .i64 next] 52 (0, 0)) := (hg.block _ hs1 (fun e => own_box r1 h1 (by decide) e.symm)).trans h1
  have k2 : w1.heap[w.heap.size + 1]? = some (.cells #[.slice none 0 0, .int .i64 0] 52 (0, 0)) := (hg.block _ hs2 (fun e => own_box r1 h2 (by decide) e.symm)).trans h2
  refine ⟨k1, A1, c1, ?_, ?_, ?_, ?_, fun g hgg => ?_⟩
  · rw [row_setCell (row_setCell k1)]; rfl
  · rw [Below.heap_setCell _ _ _ _ (by simp), Below.heap_setCell _ _ _ _ (by simp)]; exact k2
  · refine hO.keep fun k cs t hk hh ht => ?_
    have hne : k ≠ w.heap.size := fun e => by
      subst e
      rw [k1] at hh; injection hh with hh; injection hh with _ ht'; subst ht'; revert ht; decide
    rw [Below.heap_setCell _ _ _ _ hne, Below.heap_setCell _ _ _ _ hne]
  · refine grown_setCell2 (grown_setCell2 ?_ (by simp) _) (by simp) _
    refine grown_then h4 hg fun j hj => ?_
    rcases h5 j hj with q | q
    · exact .inr q
    · exact .inl (by omega)
  · rcases hgb g hgg with q | q
    · exact h5 g q
    · right; omega

theorem BothSt.nexted {w wx wr : World} {base : Nat} {vc : Value} {next next1 : Int} {css : List (List Int)} {A : Option Addr} {c : Nat}
    (h1 : wx.heap[w.heap.size]? = some (.cells #[.slice A css.length c, .int .i64 next] 52 (0, 0))) (h2 : wx.heap[w.heap.size + 1]? = some (.cells #[.slice none 0 0, .int .i64 0] 52 (0, 0)))
    (h3 : OwnRows wx base (.slice A css.length c) css) (h4 : w.grownBy wx vc.ownBlock) (h5 : ∀ g, (Value.slice A css.length c).ownBlock = some g → vc.ownBlock = some g ∨ w.heap.size + 2 ≤ g)
    (hg : wx.grownBy wr (some w.heap.size)) (hbx : wr.heap[w.heap.size]? = some (.cells #[.slice A css.length c, .int .i64 next1] 52 (0, 0))) : BothSt w base vc next1 css wr := by
  refine ⟨A, c, hbx, (hg.block _ (lt_of_block h2) (by simp)).trans h2, ?_, ?_, h5⟩
  · refine h3.keep fun k cs t hk hh ht => hg.block k (lt_of_block hh) fun e => ?_
    injection e with e
    subst e
    rw [h1] at hh; injection hh with hh; injection hh with _ ht'; subst ht'; revert ht; decide
  · exact grown_then h4 hg fun j hj => .inl (by injection hj with hj; omega)
/-- What 'count' leaves. -/
def RetCnt (w : World) (base : Nat) (vc : Value) (next : Int) (css : List (List Int)) (outs : List Int) (e : Ending) (w' : World) : Prop :=
  ∃ A c A' n' c', e = .returned (.tuple #[.agg #[.slice A css.length c, .int .i64 next], .slice A' n' c']) ∧ OwnRows w' base (.slice A css.length c) css ∧ w'.ownsRow base 3 1 (.slice A' n' c') n' (outs.map (Value.int .i64)) ∧
    w.grownBy w' vc.ownBlock ∧ (∀ g, (Value.slice A css.length c).ownBlock = some g → vc.ownBlock = some g ∨ w.heap.size ≤ g)

/-- The contract of 'count' at lists of at most f literals. -/
def CntOk (most : Nat) (f : Nat) : Prop :=
  ∀ (w : World) (base : Nat) (vc : Value) (css : List (List Int)) (next : Int) (n c : Nat) (A : Option Addr) (xs : List Int), xs.length ≤ f → 1 ≤ xs.length → xs.length ≤ 64 → OwnRows w base vc css → base ≤ w.heap.size →
    Ints w (fun k => k < base) A n c xs → Small xs → 1 ≤ next → next + vars most xs.length ≤ 65537 → css.length + 4 * xs.length * xs.length ≤ 1000000 →
    Calls Try.prog 28 #[.agg #[vc, .int .i64 next], .slice A n c, .int .i64 most] w (RetCnt w base vc (next + vars most xs.length) (css ++ (cnt most xs next).2) (cnt most xs next).1)

set_option maxHeartbeats 1000000 in
set_option maxRecDepth 100000 in
theorem refCount_one (w : World) (base : Nat) (vc : Value) (css : List (List Int)) (next : Int) (most n c : Nat) (A : Option Addr) (xs : List Int) (h1 : xs.length = 1) (hO : OwnRows w base vc css) (hb : base ≤ w.heap.size)
    (hI : Ints w (fun k => k < base) A n c xs) :
    Calls Try.prog 28 #[.agg #[vc, .int .i64 next], .slice A n c, .int .i64 most] w (RetCnt w base vc (next + vars most xs.length) (css ++ (cnt most xs next).2) (cnt most xs next).1) := by
  have hr : RetCnt w base vc (next + vars most xs.length) (css ++ (cnt most xs next).2) (cnt most xs next).1 = RetCnt w base vc next css xs := by
    rw [cnt_one (by omega), vars_one (by omega), List.append_nil]
    simp
  rw [hr]
  clear hr
  obtain ⟨x, rfl⟩ := List.length_eq_one_iff.1 h1
  obtain rfl : n = 1 := hI.len
  have hc := hI.cap
  obtain ⟨ad, rfl, hadb, hcell⟩ := hI.at_ (k := 0) (by omega)
  rw [add_zero] at hcell
  have hcell : w.cell? ad = some (.int .i64 x) := by simpa using hcell
  obtain ⟨Av, cv, rfl⟩ : ∃ A c, vc = .slice A css.length c := by obtain ⟨rows, h, _⟩ := hO; exact own_form h
  have hlt : ad.block < w.heap.size := by have : ad.block < base := hadb; omega
  have hk2 : ∀ (o o' : Obj), ((w.alloc o).alloc o').cell? ad = some (.int .i64 x) := fun o o' => by
    rw [World.cell?_alloc_lt _ _ _ (by simp; omega), World.cell?_alloc_lt _ _ _ hlt]; exact hcell
  have HO := Lib.hid hO
  clear hI hO h1
  go_enter Try.func28, Try.ntmps28
  go_wp2
  go_region
  all_goals go_wp2
  have hO2 := (HO.out.below (alloc_lt _) (Nat.le_refl _)).below (alloc_lt (w := w.alloc (.cells #[.slice Av css.length cv, .int .i64 next] 52)) (.cells #[.slice Av css.length cv, .int .i64 next] 52)) (Nat.le_refl _)
  obtain ⟨W2, hW2⟩ : ∃ W, W = (w.alloc (.cells #[.slice Av css.length cv, .int .i64 next] 52)).alloc (.cells #[.slice Av css.length cv, .int .i64 next] 52) := ⟨_, rfl⟩
  have hs2 : W2.heap.size = w.heap.size + 1 + 1 := by subst hW2; simp
  have hg2 : w.grownBy W2 (Value.slice Av css.length cv).ownBlock := by subst hW2; exact (World.grownBy_alloc w _ _).trans (World.grownBy_alloc _ _ _)
  have hr : W2.heap[w.heap.size + 1]? = some (.cells #[.slice Av css.length cv, .int .i64 next] 52 (0, 0)) := by
    subst hW2
    have := heap_alloc_new (w.alloc (.cells #[.slice Av css.length cv, .int .i64 next] 52)) (.cells #[.slice Av css.length cv, .int .i64 next] 52)
    simpa using this
  rw [← hW2] at hO2 ⊢
  rw [← hs2]
  have hr3 : (W2.alloc (.cells #[.int .i64 x] 3)).heap[w.heap.size + 1]? = some (.cells #[.slice Av css.length cv, .int .i64 next] 52 (0, 0)) := (Below.heap_alloc _ _ _ (by omega)).trans hr
  have g1 : (W2.alloc (.cells #[.int .i64 x] 3)).cell? ⟨w.heap.size + 1, 0, none⟩ = some (.slice Av css.length cv) := by rw [cell_of_row _ _ _ _ _ _ hr3]; rfl
  have g2 : (W2.alloc (.cells #[.int .i64 x] 3)).cell? ⟨w.heap.size + 1, 1, none⟩ = some (.int .i64 next) := by rw [cell_of_row _ _ _ _ _ _ hr3]; rfl
  refine bodyPost_ret (v := .tuple #[.agg #[.slice Av css.length cv, .int .i64 next], .slice (some ⟨W2.heap.size, 0, none⟩) 1 1]) (by simp [results, Try.results28, go_sem, g1, g2]) rfl ?_
  refine ⟨Av, cv, some ⟨W2.heap.size, 0, none⟩, 1, 1, rfl, ?_, ?_, ?_, fun g hg => .inl hg⟩
  · exact (hO2.below (alloc_lt _).drew (Nat.le_refl _))
  · exact own_base (own_new W2 _ _) (by omega)
  · exact grown_drew (hg2.trans (World.grownBy_alloc _ _ _))

theorem BothSt.drew {w wx : World} {base : Nat} {vc : Value} {next : Int} {css : List (List Int)} (h : BothSt w base vc next css wx) : BothSt w base vc next css wx.drew := h.below (Below.refl _ _).drew

set_option maxHeartbeats 4000000 in
set_option maxRecDepth 100000 in
theorem refCount_step (most : Nat) (hm1 : 1 ≤ most) (hm2 : most ≤ 1099511627776) (f : Nat) (IH : CntOk most f) (w : World) (base : Nat) (vc : Value) (css : List (List Int)) (next : Int) (n c : Nat) (A : Option Addr) (xs : List Int)
    (hf : xs.length ≤ f + 1) (h1 : 2 ≤ xs.length) (h6 : xs.length ≤ 64) (hO : OwnRows w base vc css) (hb : base ≤ w.heap.size)
    (hI : Ints w (fun k => k < base) A n c xs) (hs : Small xs) (hn1 : 1 ≤ next) (hn2 : next + vars most xs.length ≤ 65537) (hcl : css.length + 4 * xs.length * xs.length ≤ 1000000) :
    Calls Try.prog 28 #[.agg #[vc, .int .i64 next], .slice A n c, .int .i64 most] w (RetCnt w base vc (next + vars most xs.length) (css ++ (cnt most xs next).2) (cnt most xs next).1) := by
  have hlen : n = xs.length := hI.len
  have hcap := hI.cap
  have hmax := hI.max
  unfold maxLen at hmax
  obtain ⟨ad, rfl, hadb, _⟩ := hI.at_ (k := 0) (by omega)
  obtain ⟨Av, cv, rfl⟩ : ∃ A c, vc = .slice A css.length c := by obtain ⟨rows, h, _⟩ := hO; exact own_form h
  obtain ⟨i0, hi0, hz0, hz1, hz2⟩ := info_parts int_info
  obtain ⟨ws, hws⟩ : ∃ ws, ws = (w.alloc (.cells #[.slice Av css.length cv, .int .i64 next] 52)).alloc (.cells #[.slice none 0 0, .int .i64 0] 52) := ⟨_, rfl⟩
  have q1 : ws.heap[w.heap.size]? = some (.cells #[.slice Av css.length cv, .int .i64 next] 52 (0, 0)) := by
    subst hws
    rw [Below.heap_alloc _ _ _ (by simp)]; exact heap_alloc_new w _
  have q2 : ws.heap[w.heap.size + 1]? = some (.cells #[.slice none 0 0, .int .i64 0] 52 (0, 0)) := by
    subst hws
    have := heap_alloc_new (w.alloc (.cells #[.slice Av css.length cv, .int .i64 next] 52)) (.cells #[.slice none 0 0, .int .i64 0] 52)
    simpa using this
  have q3 : OwnRows ws base (.slice Av css.length cv) css := by
    subst hws
    exact (hO.below (alloc_lt _) (Nat.le_refl _)).below (alloc_lt _) (Nat.le_refl _)
  have q4 : w.grownBy ws (Value.slice Av css.length cv).ownBlock := by
    subst hws
    exact (World.grownBy_alloc w _ _).trans (World.grownBy_alloc _ _ _)
  have q5 : ∀ g, (Value.slice Av css.length cv).ownBlock = some g → (Value.slice Av css.length cv).ownBlock = some g ∨ w.heap.size + 2 ≤ g := fun g hg => .inl hg
  have hIw : Ints ws (fun k => k < base) (some ad) n c xs := by
    subst hws
    exact (hI.alloc (fun k hk => by have : k < base := hk; omega) _).alloc (fun k hk => by have : k < base := hk; simp; omega) _
  have hbs : base ≤ ws.heap.size := by subst hws; simp; omega
  have hvb : ∀ g, (Value.slice Av css.length cv).ownBlock = some g → base ≤ g := by obtain ⟨rows, h, _⟩ := hO; exact own_lower h
  obtain ⟨d, hd⟩ : ∃ d, d = n / 2 := ⟨_, rfl⟩
  have hd1 : 1 ≤ d := by omega
  have hd2 : d < n := by omega
  have hq : (n : Int) / 2 = (d : Int) := by omega
  have l1 : (xs.take d).length = d := by simp; omega
  have l2 : (xs.drop d).length = n - d := by simp; omega
  have s1 : Small (xs.take d) := fun x hx => hs x (List.mem_of_mem_take hx)
  have s2 : Small (xs.drop d) := fun x hx => hs x (List.mem_of_mem_drop hx)
  have hv : vars most xs.length = vars most d + vars most (n - d) + min n most := by rw [← hlen, hd]; exact vars_two (by omega)
  have hsq : 4 * d * d + 4 * (n - d) * (n - d) + 2 * (n - d + 1) * (d + 1) ≤ 4 * n * n := by
    have := sq_step d (n - d) hd1 (by omega)
    rwa [show d + (n - d) = n by omega] at this
  have i1 : Ints ws (fun k => k < base) (some (ad.add 0)) (d - 0) c ((xs.drop 0).take (d - 0)) := hIw.piece rfl (Nat.zero_le _) (by omega) (by omega) (by unfold maxLen; omega)
  rw [add_zero, List.drop_zero, Nat.sub_zero] at i1
  have call1 := IH ws.drew base (.slice Av css.length cv) css next d c (some ad) (xs.take d) (by omega) (by omega) (by omega) (q3.below (Below.refl _ _).drew (Nat.le_refl _)) hbs i1.drew s1 hn1 (by rw [l1]; omega) (by rw [l1]; rw [← hlen] at hcl; omega)
  rw [l1] at call1
  obtain ⟨css1, hcss1⟩ : ∃ x, x = css ++ (cnt most (xs.take d) next).2 := ⟨_, rfl⟩
  obtain ⟨a, ha⟩ : ∃ x, x = (cnt most (xs.take d) next).1 := ⟨_, rfl⟩
  obtain ⟨next1, hnext1⟩ : ∃ x : Int, x = next + vars most d := ⟨_, rfl⟩
  rw [← hcss1, ← ha, ← hnext1] at call1
  have HCSS1 := Lib.hid hcss1
  have HAA := Lib.hid ha
  have HNX1 := Lib.hid hnext1
  have hdc : (d : Int) ≤ (c : Int) := by omega
  have hd0 : (0 : Int) ≤ (d : Int) := by omega
  clear hcss1 ha hnext1
  have CALL1 := Lib.hid call1
  have p1 : ws.cell? ⟨w.heap.size, 0, none⟩ = some (.slice Av css.length cv) := by rw [cell_of_row _ _ _ _ _ _ q1]; rfl
  have p2 : ws.cell? ⟨w.heap.size, 1, none⟩ = some (.int .i64 next) := by rw [cell_of_row _ _ _ _ _ _ q1]; rfl
  have hnn : ¬ n = 1 := by omega
  have hn64 : n ≤ 64 := by omega
  have HIH := Lib.hid IH
  have HI := Lib.hid hI
  have HVB := Lib.hid hvb
  have HQ1 := Lib.hid q1
  have HQ2 := Lib.hid q2
  have HQ3 := Lib.hid q3
  have HQ4 := Lib.hid q4
  have HQ5 := Lib.hid q5
  have HV := Lib.hid hv
  have HSQ := Lib.hid hsq
  have HCL := Lib.hid hcl
  have HL := Lib.hid hlen
  have L1 := Lib.hid l1
  have L2 := Lib.hid l2
  have HD := Lib.hid hd
  have hbox : ws.frozen? ⟨w.heap.size, 0, none⟩ = false := free_of_row q1
  clear IH hIw hvb q1 q2 q3 q4 q5 hv hsq hcl hlen l1 l2 hd call1 i1 hI hadb hO
  go_enter Try.func28, Try.ntmps28
  go_upto_region 4 with (fail)
  rw [← hws]
  clear hws
  go_cut [9] (fun t9 wy => ∃ A' n' c', t9 = .slice A' n' c' ∧ BothSt w base (.slice Av css.length cv) next1 css1 wy ∧ wy.ownsRow base 3 1 (.slice A' n' c') n' (a.map (Value.int .i64)))
  case first =>
    go_region_with (
      go_at_call 28
      (with_reducible refine CALL1.out.mono ?_)
      rintro e w1 ⟨A1, c1, A1', n1', c1', rfl, ho1, hr1, hg1, hb1⟩
      have hx := BothSt.stored (next1 := next1) HQ1.out HQ2.out HQ3.out HQ4.out HQ5.out (grown_of_drew hg1) ho1 rfl hb1
      have p3 : w1.cell? ⟨w.heap.size, 0, none⟩ = some (.slice Av css.length cv) := by rw [cell_of_row _ _ _ _ _ _ hx.1]; rfl
      have p4 : w1.cell? ⟨w.heap.size, 1, none⟩ = some (.int .i64 next) := by rw [cell_of_row _ _ _ _ _ _ hx.1]; rfl
      have p5 : w1.frozen? ⟨w.heap.size, 0, none⟩ = false := free_of_row hx.1
      have p6 : w1.frozen? ⟨w.heap.size, 1, none⟩ = false := free_of_row hx.1
      have HX := Lib.hid hx
      clear hx)
    all_goals go_wp2_with (fail)
    all_goals go_meet
    all_goals exact ⟨_, _, _, rfl, HX.out.2, own_box2 hr1 HX.out.1 (by decide)⟩
  obtain ⟨Aa, na, ca, rfl, ⟨Av1, cv1, q1, q2, q3, q4, q5⟩, hra⟩ := hcut
  clear CALL1 p1 p2 HQ1 HQ2 HQ3 HQ4 HQ5 hbox
  have i2 : Ints wc (fun k => k < base) (some (ad.add d)) (n - d) (c - d) (xs.drop d) := by
    have := (HI.out.grown hb q4 HVB.out).piece (i := d) (j := n) (c' := c - d) rfl (by omega) (by omega) (by omega) (by unfold maxLen; omega)
    rwa [List.take_of_length_le (by rw [L2.out]; exact Nat.le_refl _)] at this
  have hbs1 : base ≤ wc.heap.size := Nat.le_trans hb q4.size
  have hle1 : next + vars most d + vars most (n - d) + min n most ≤ 65537 := by have := HV.out; omega
  have hc1l : css1.length ≤ css.length + 4 * d * d := by
    rw [HCSS1.out, List.length_append]
    have := cnt_many most _ (xs.take d) next (Nat.le_refl _)
    rw [L1.out] at this
    omega
  have hcl2 := HCL.out
  rw [← HL.out] at hcl2
  have hsq2 := HSQ.out
  have call2 := HIH.out wc.drew base (.slice Av1 css1.length cv1) css1 next1 (n - d) (c - d) (some (ad.add d)) (xs.drop d) (by rw [L2.out]; have := HL.out; omega) (by rw [L2.out]; omega) (by rw [L2.out]; omega) (q3.below (Below.refl _ _).drew (Nat.le_refl _)) hbs1 i2.drew s2 (by rw [HNX1.out]; omega)
    (by rw [L2.out, HNX1.out]; omega) (by rw [L2.out]; omega)
  rw [L2.out] at call2
  obtain ⟨css2, hcss2⟩ : ∃ x, x = css1 ++ (cnt most (xs.drop d) next1).2 := ⟨_, rfl⟩
  obtain ⟨b, hbe⟩ : ∃ x, x = (cnt most (xs.drop d) next1).1 := ⟨_, rfl⟩
  obtain ⟨next2, hnext2⟩ : ∃ x : Int, x = next1 + vars most (n - d) := ⟨_, rfl⟩
  rw [← hcss2, ← hbe, ← hnext2] at call2
  have hc2l : css2.length ≤ css1.length + 4 * (n - d) * (n - d) := by
    rw [hcss2, List.length_append]
    have := cnt_many most _ (xs.drop d) next1 (Nat.le_refl _)
    rw [L2.out] at this
    omega
  have hbd : css2.length + 2 * (n - d + 1) * (d + 1) ≤ 1000000 := by omega
  have HBD := Lib.hid hbd
  have HCSS2 := Lib.hid hcss2
  have HBB := Lib.hid hbe
  have HNX2 := Lib.hid hnext2
  have hnx2 : 1 ≤ next2 := by have := HNX1.out; omega
  have hnx3 : next2 + min n most ≤ 65537 := by have := HNX1.out; omega
  have CALL2 := Lib.hid call2
  have p1 : wc.cell? ⟨w.heap.size, 0, none⟩ = some (.slice Av1 css1.length cv1) := by rw [cell_of_row _ _ _ _ _ _ q1]; rfl
  have p2 : wc.cell? ⟨w.heap.size, 1, none⟩ = some (.int .i64 next1) := by rw [cell_of_row _ _ _ _ _ _ q1]; rfl
  have HQ1 := Lib.hid q1
  have HQ2 := Lib.hid q2
  have HQ3 := Lib.hid q3
  have HQ4 := Lib.hid q4
  have HQ5 := Lib.hid q5
  have HRA := Lib.hid hra
  clear hcss2 hbe hnext2 call2 i2 hc1l hc2l hcl2 hsq2 hbd hle1 q1 q2 q3 q4 q5 hra
  have hnc : (n : Int) ≤ (c : Int) := by omega
  have hdn : (d : Int) ≤ (n : Int) := by omega
  go_upto_region 5 with (fail)
  go_cut [10] (fun t10 wy => ∃ A' n' c', t10 = .slice A' n' c' ∧ BothSt w base (.slice Av css.length cv) next2 css2 wy ∧ wy.ownsRow base 3 1 (.slice A' n' c') n' (b.map (Value.int .i64)) ∧ wy.ownsRow base 3 1 (.slice Aa na ca) na (a.map (Value.int .i64)))
  case first =>
    go_region_with (
      go_at_call 28
      (with_reducible refine CALL2.out.mono ?_)
      rintro e w1 ⟨A1, c1, A1', n1', c1', rfl, ho1, hr1, hg1, hb1⟩
      have hx := BothSt.stored (next1 := next2) HQ1.out HQ2.out HQ3.out HQ4.out HQ5.out (grown_of_drew hg1) ho1 rfl hb1
      have p3 : w1.cell? ⟨w.heap.size, 0, none⟩ = some (.slice Av1 css1.length cv1) := by rw [cell_of_row _ _ _ _ _ _ hx.1]; rfl
      have p4 : w1.cell? ⟨w.heap.size, 1, none⟩ = some (.int .i64 next1) := by rw [cell_of_row _ _ _ _ _ _ hx.1]; rfl
      have p5 : w1.frozen? ⟨w.heap.size, 0, none⟩ = false := free_of_row hx.1
      have p6 : w1.frozen? ⟨w.heap.size, 1, none⟩ = false := free_of_row hx.1
      have HX := Lib.hid hx
      clear hx)
    all_goals go_wp2_with (fail)
    all_goals go_meet
    all_goals
      obtain ⟨rows, r1, _⟩ := HQ3.out
      exact ⟨_, _, _, rfl, HX.out.2, own_box2 hr1 HX.out.1 (by decide), own_box2 (HRA.out.kept (grown_of_drew hg1) (own_ne HRA.out r1 (by decide))) HX.out.1 (by decide)⟩
  clear HQ1 HQ2 HQ3 HQ4 HQ5 HRA p1 p2 CALL2
  obtain ⟨Ab, nb, cb, rfl, ⟨Av2, cv2, q1, q2, q3, q4, q5⟩, hrb, hra⟩ := hcut
  obtain ⟨wo, rfl⟩ : ∃ x, x = wc := ⟨_, rfl⟩
  obtain ⟨many, hmany⟩ : ∃ x, x = min n most := ⟨_, rfl⟩
  rw [← hmany] at hnx3
  have hmn : many ≤ n := by omega
  have hmm : many ≤ most := by omega
  have hmo : many = n ∨ many = most := by omega
  have HMANY := Lib.hid hmany
  have HMO := Lib.hid hmo
  have HQ1 := Lib.hid q1
  have HQ2 := Lib.hid q2
  have HQ3 := Lib.hid q3
  have HQ4 := Lib.hid q4
  have HQ5 := Lib.hid q5
  have HRA := Lib.hid hra
  have HRB := Lib.hid hrb
  have hwo := lt_of_block q1
  have hbwo : base ≤ wo.heap.size := Nat.le_trans hb q4.size
  clear hmany hmo q1 q2 q3 q4 q5 hra hrb
  go_wp2
  go_loopw [11, 12] (fun v11 v12 wr => ∃ (k : Nat) (A : Option Addr) (c : Nat), k ≤ many ∧ v12 = .int .i64 k ∧ v11 = .slice A k c ∧ wr.ownsRow wo.heap.size 3 1 (.slice A k c) k ((fresh next2 k).map (Value.int .i64)) ∧ wo.grownBy wr (some w.heap.size) ∧
      wr.heap[w.heap.size]? = some (.cells #[.slice Av2 css2.length cv2, .int .i64 (next2 + k)] 52 (0, 0))) (fun _ v12 _ => many - (intOf v12).toNat)
  case atStart =>
    refine ⟨0, some ⟨wo.heap.size, 0, none⟩, 0, Nat.zero_le _, rfl, rfl, World.ownsRow_lit wo #[] 0 (Nat.le_refl _) (by simp [maxLen]) rfl, World.grownBy_alloc _ _ _, ?_⟩
    rw [Below.heap_alloc _ _ _ hwo, HQ1.out]
    simp
  case round =>
    obtain ⟨k, A, c, hk, rfl, rfl, hown, hgr, hbx⟩ := hrel
    have p1 : wr.cell? ⟨w.heap.size, 1, none⟩ = some (.int .i64 (next2 + k)) := by rw [cell_of_row _ _ _ _ _ _ hbx]; rfl
    by_cases hlt : k < many
    · have h1 : k < n := by omega
      have h2 : k < most := by omega
      have HB := Lib.hid hbx
      have HG := Lib.hid hgr
      have hbw : wo.heap.size ≤ wr.heap.size := hgr.size
      clear hbx hgr
      go_wp2_with (first
        | (at_builtin
           go_must (refine wpList_append_one _ rfl (.tmp 56) (.tmp 59) _ rfl wo.heap.size 3 i0 _ 8 Try.underlying22 hi0 hz0 hz1 hz2 rfl (.slice A k c) k ((fresh next2 k).map (Value.int .i64)) (by rfl) hown 3 (.int .i64 (next2 + k)) 1 rfl (by rfl) (by simp only [maxLen]; omega) (by omega) hbw ?_)
           intro A9 c9 w9 ho9 hg9 hb9
           have hbx9 := (hg9.block w.heap.size (by omega) (fun e => own_box hown HB.out (by decide) e.symm)).trans HB.out
           have p9 : w9.cell? ⟨w.heap.size, 1, none⟩ = some (.int .i64 (next2 + k)) := by rw [cell_of_row _ _ _ _ _ _ hbx9]; rfl
           have f9 : w9.frozen? ⟨w.heap.size, 1, none⟩ = false := free_of_row hbx9
           have HB9 := Lib.hid hbx9
           clear hbx9))
      go_roundw
      case rel =>
        refine ⟨k + 1, A9, c9, by omega, by go_num, rfl, ?_, ?_, ?_⟩
        · rw [fresh_succ, List.map_append]
          exact ownsRow_setCell_other ho9 (own_box ho9 HB9.out (by decide)) _
        · refine ⟨?_, ?_, ?_, ?_, ?_⟩
          · exact hg9.os.trans HG.out.os
          · exact hg9.tape.trans HG.out.tape
          · exact hg9.output.trans HG.out.output
          · have := hg9.size; simp [World.setCell]; omega
          · intro j hj hne
            rw [Below.heap_setCell _ _ _ _ (fun e => hne (by rw [e]))]
            rw [hg9.block j (by omega) (fun e => by have := own_lower hown j e.symm; omega)]
            exact HG.out.block j hj hne
        · rw [row_setCell HB9.out]
          simp only [Option.some.injEq, Obj.cells.injEq, and_true]
          show #[_, _] = #[_, _]
          congr 3
          go_num
      case measure => simp [intOf]; omega
    · obtain rfl : k = many := by omega
      have hst : BothSt w base (.slice Av css.length cv) (next2 + k) css2 wr := BothSt.nexted HQ1.out HQ2.out HQ3.out HQ4.out HQ5.out hgr hbx
      have ra := HRA.out.kept hgr (.inr (own_box HRA.out HQ1.out (by decide)))
      have rb := HRB.out.kept hgr (.inr (own_box HRB.out HQ1.out (by decide)))
      have ro := own_base hown hbwo
      have HST := Lib.hid hst
      have RA := Lib.hid ra
      have RB := Lib.hid rb
      have RO := Lib.hid ro
      have lna : na = a.length := by have := ra.1; simpa using this.symm
      have lnb : nb = b.length := by have := rb.1; simpa using this.symm
      have hna : na ≤ d := by rw [lna, HAA.out]; have := cnt_len most (xs.take d) next; rw [L1.out] at this; exact this
      have hnb : nb ≤ n - d := by rw [lnb, HBB.out]; have := cnt_len most (xs.drop d) next1; rw [L2.out] at this; exact this
      have hbd : css2.length + 2 * (nb + 1) * (na + 1) ≤ 1000000 := by
        have q5 : 2 * (nb + 1) * (na + 1) ≤ 2 * (n - d + 1) * (d + 1) := Nat.mul_le_mul (by omega) (by omega)
        have := HBD.out
        omega
      have hSa : Small a := by rw [HAA.out]; exact cnt_small s1 hn1 (by rw [L1.out]; have := HNX1.out; have := HNX2.out; omega)
      have hSb : Small b := by rw [HBB.out]; exact cnt_small s2 (by have := HNX1.out; omega) (by rw [L2.out]; have := HNX2.out; omega)
      have hSo : Small (fresh next2 k) := fresh_small hnx2 (by omega)
      have hfin : cnt most xs next = (fresh next2 k, (cnt most (xs.take d) next).2 ++ (cnt most (xs.drop d) next1).2 ++ allC a b (fresh next2 k) (na + 1)) := by
        have := cnt_two (most := most) (xs := xs) (next := next) (by rw [← HL.out]; omega)
        rwa [← HL.out, ← HD.out, ← HNX1.out, ← HNX2.out, ← HMANY.out, ← HAA.out, ← HBB.out, ← lna] at this
      have hvn : next + vars most xs.length = next2 + k := by rw [HV.out, HNX2.out, HNX1.out, HMANY.out]; omega
      have HFIN : Hid (css ++ (cnt most xs next).2 = css2 ++ allC a b (fresh next2 k) (na + 1) ∧ (cnt most xs next).1 = fresh next2 k) := by
        refine ⟨?_, by rw [hfin]⟩
        rw [hfin, HCSS2.out, HCSS1.out]
        simp only [List.append_assoc]
      have HVN := Lib.hid hvn
      have HLA := Lib.hid lna
      have HLB := Lib.hid lnb
      have HB2 := Lib.hid hbd
      have HLO : Hid ((fresh next2 k).length = k) := fresh_len _ _
      have hk64 : k ≤ 64 := by omega
      go_upto_region 8 with (fail)
      go_cut [53] (fun v wx => v = .bool false ∧ wr = wx)
      case first =>
        by_cases hkn : k < n
        · have hkm : ¬ k < most := by have := HMO.out; omega
          go_wp2
          go_meet
          case rel => exact ⟨rfl, rfl⟩
        · go_wp2
          go_meet
          case rel => exact ⟨rfl, rfl⟩
      obtain ⟨rfl, rfl⟩ := hcut
      clear hst ra rb ro hown hgr hbx lna lnb hbd hfin hvn p1 HQ1 HQ2 HQ3 HQ4 HQ5 HRA HRB HBD HCSS1 HCSS2 HAA HBB HNX1 HNX2 HMANY HMO HIH HI HVB HCL HSQ L1 L2 HD hlt hi0 hz0 hz1 hz2
      generalize fresh next2 k = outs at *
      obtain ⟨nx, hnx⟩ : ∃ x, x = next2 + (k : Int) := ⟨_, rfl⟩
      rw [← hnx] at HST HVN
      clear hnx hnx2 hnx3
      go_wp2
      go_loopw [13] (fun v wy => ∃ i : Nat, i ≤ na + 1 ∧ v = .int .i64 i ∧ BothSt w base (.slice Av css.length cv) nx (css2 ++ allC a b outs i) wy ∧ wy.ownsRow base 3 1 (.slice Aa na ca) na (a.map (Value.int .i64)) ∧ wy.ownsRow base 3 1 (.slice Ab nb cb) nb (b.map (Value.int .i64)) ∧ wy.ownsRow base 3 1 (.slice A k c) k (outs.map (Value.int .i64)))
        (fun v _ => na + 1 - (intOf v).toNat)
      case atStart => exact ⟨0, Nat.zero_le _, rfl, by simpa [allC] using HST.out, RA.out, RB.out, RO.out⟩
      case round =>
        obtain ⟨i, hi, rfl, hsto, ha1, hb1, ho1⟩ := hrel
        clear HST RA RB RO
        by_cases hilt : i < na + 1
        case neg =>
          obtain rfl : na + 1 = i := by omega
          have HO1 := Lib.hid ho1
          obtain ⟨Ax, cx, q1, q2, q3, q4, q5⟩ := hsto
          have hq := HFIN.out
          have HQ := Lib.hid hq
          clear hq
          generalize css2 ++ allC a b outs (na + 1) = css3 at *
          have p1 : wr.cell? ⟨w.heap.size, 0, none⟩ = some (.slice Ax css3.length cx) := by rw [cell_of_row _ _ _ _ _ _ q1]; rfl
          have p2 : wr.cell? ⟨w.heap.size, 1, none⟩ = some (.int .i64 nx) := by rw [cell_of_row _ _ _ _ _ _ q1]; rfl
          have p3 : wr.cell? ⟨w.heap.size + 1, 0, none⟩ = some (.slice none 0 0) := by rw [cell_of_row _ _ _ _ _ _ q2]; rfl
          have p4 : wr.cell? ⟨w.heap.size + 1, 1, none⟩ = some (.int .i64 0) := by rw [cell_of_row _ _ _ _ _ _ q2]; rfl
          have p5 : wr.frozen? ⟨w.heap.size + 1, 0, none⟩ = false := free_of_row q2
          have p6 : wr.frozen? ⟨w.heap.size + 1, 1, none⟩ = false := free_of_row q2
          have Q1 := Lib.hid q1
          have Q2 := Lib.hid q2
          have Q3 := Lib.hid q3
          have Q4 := Lib.hid q4
          have Q5 := Lib.hid q5
          clear q1 q2 q3 q4 q5 ho1 ha1 hb1
          go_wp2
          have k2 := row_setCell (j := 1) (u := .int .i64 nx) (row_setCell (j := 0) (u := .slice Ax css3.length cx) Q2.out)
          have g1 : ((wr.setCell ⟨w.heap.size + 1, 0, none⟩ (.slice Ax css3.length cx)).setCell ⟨w.heap.size + 1, 1, none⟩ (.int .i64 nx)).cell? ⟨w.heap.size + 1, 0, none⟩ = some (.slice Ax css3.length cx) := by rw [cell_of_row _ _ _ _ _ _ k2]; rfl
          have g2 : ((wr.setCell ⟨w.heap.size + 1, 0, none⟩ (.slice Ax css3.length cx)).setCell ⟨w.heap.size + 1, 1, none⟩ (.int .i64 nx)).cell? ⟨w.heap.size + 1, 1, none⟩ = some (.int .i64 nx) := by rw [cell_of_row _ _ _ _ _ _ k2]; rfl
          refine bodyPost_ret (v := .tuple #[.agg #[.slice Ax css3.length cx, .int .i64 nx], .slice A k c]) (by simp [results, Try.results28, go_sem, g1, g2]) rfl ?_
          rw [HQ.out.1, HQ.out.2, HVN.out]
          refine ⟨Ax, cx, A, k, c, rfl, ?_, ?_, ?_, fun g hg => (Q5.out g hg).imp_right (by omega)⟩
          · refine Q3.out.keep fun kk cs t hkk hh ht => ?_
            have hne : kk ≠ w.heap.size + 1 := fun e => by
              subst e
              rw [Q2.out] at hh; injection hh with hh; injection hh with _ ht'; subst ht'; revert ht; decide
            rw [Below.heap_setCell _ _ _ _ hne, Below.heap_setCell _ _ _ _ hne]
          · exact own_box2 HO1.out Q2.out (by decide)
          · exact grown_setCell2 (grown_setCell2 Q4.out (by simp) _) (by simp) _
        case pos =>
          obtain ⟨wi, rfl⟩ : ∃ wi : World, wi = wr := ⟨_, rfl⟩
          have HSTO := Lib.hid hsto
          have HA1 := Lib.hid ha1
          have HB1 := Lib.hid hb1
          have HO1 := Lib.hid ho1
          clear hsto ha1 hb1 ho1
          have hdi : decide (i ≤ na) = true := by simp; omega
          go_wp2
          clear hdi
          go_loopw [14] (fun v wy => ∃ j : Nat, j ≤ nb + 1 ∧ v = .int .i64 j ∧ BothSt w base (.slice Av css.length cv) nx (css2 ++ allC a b outs i ++ rowC a b outs i j) wy ∧ wy.ownsRow base 3 1 (.slice Aa na ca) na (a.map (Value.int .i64)) ∧ wy.ownsRow base 3 1 (.slice Ab nb cb) nb (b.map (Value.int .i64)) ∧ wy.ownsRow base 3 1 (.slice A k c) k (outs.map (Value.int .i64)))
            (fun v _ => nb + 1 - (intOf v).toNat)
          case atStart => exact ⟨0, Nat.zero_le _, rfl, by simpa [rowC] using HSTO.out, HA1.out, HB1.out, HO1.out⟩
          case round =>
            obtain ⟨j, hj, rfl, hsti, ha2, hb2, ho2⟩ := hrel
            clear HSTO HA1 HB1 HO1
            have HSTI := Lib.hid hsti
            have HA2 := Lib.hid ha2
            have HB2' := Lib.hid hb2
            have HO2 := Lib.hid ho2
            clear hsti ha2 hb2 ho2
            by_cases hjlt : j < nb + 1
            case neg =>
              obtain rfl : nb + 1 = j := by omega
              have HE : Hid (css2 ++ allC a b outs i ++ rowC a b outs i (nb + 1) = css2 ++ allC a b outs (i + 1)) := by
                show css2 ++ allC a b outs i ++ rowC a b outs i (nb + 1) = css2 ++ allC a b outs (i + 1)
                rw [HLB.out]; simp only [allC, List.append_assoc]
              go_wp2
              go_roundw
              case rel => exact ⟨i + 1, by omega, by go_num, by have := HSTI.out; rwa [HE.out] at this, HA2.out, HB2'.out, HO2.out⟩
              case measure => simp [intOf]; omega
            case pos =>
              have hlen9 : (css2 ++ allC a b outs i ++ rowC a b outs i j).length ≤ 1000000 := by
                have q1 := HB2.out
                have q2 := loop_len a b outs (i := i) (k := j) (by have := HLA.out; omega) (by have := HLB.out; omega)
                rw [← HLA.out, ← HLB.out] at q2
                simp only [List.length_append] at q1 ⊢
                omega
              have HE : Hid (css2 ++ allC a b outs i ++ rowC a b outs i j ++ pairC a b outs i j = css2 ++ allC a b outs i ++ rowC a b outs i (j + 1)) := by
                show css2 ++ allC a b outs i ++ rowC a b outs i j ++ pairC a b outs i j = css2 ++ allC a b outs i ++ rowC a b outs i (j + 1)
                simp only [rowC, List.append_assoc]
              obtain ⟨Ax, cx, q1, q2, q3, q4, q5⟩ := HSTI.out
              generalize css2 ++ allC a b outs i ++ rowC a b outs i j = css3 at *
              have call := both_any wr base (.slice Ax css3.length cx) css3 nx na ca nb cb k c Aa Ab A a b outs i j q3 (Nat.le_trans hb q4.size) HA2.out HB2'.out HO2.out hSa hSb hSo (by omega) (by omega) (by omega) (by omega) hk64 (by omega)
              obtain ⟨css4, hcss4⟩ : ∃ x, x = css3 ++ pairC a b outs i j := ⟨_, rfl⟩
              rw [← hcss4] at call HE
              have CALL := Lib.hid call
              have p1 : wr.cell? ⟨w.heap.size, 0, none⟩ = some (.slice Ax css3.length cx) := by rw [cell_of_row _ _ _ _ _ _ q1]; rfl
              have p2 : wr.cell? ⟨w.heap.size, 1, none⟩ = some (.int .i64 nx) := by rw [cell_of_row _ _ _ _ _ _ q1]; rfl
              have Q1 := Lib.hid q1
              have Q2 := Lib.hid q2
              have Q3 := Lib.hid q3
              have Q4 := Lib.hid q4
              have Q5 := Lib.hid q5
              clear q1 q2 q3 q4 q5 hcss4 call hlen9
              go_wp2_with (fail)
              (with_reducible refine CALL.out.mono ?_)
              rintro e w1 ⟨A1, c1, rfl, ho1, hg1, hb1⟩
              have hx := BothSt.stored (next1 := nx) Q1.out Q2.out Q3.out Q4.out Q5.out hg1 ho1 rfl hb1
              have p3 : w1.cell? ⟨w.heap.size, 0, none⟩ = some (.slice Ax css3.length cx) := by rw [cell_of_row _ _ _ _ _ _ hx.1]; rfl
              have p4 : w1.cell? ⟨w.heap.size, 1, none⟩ = some (.int .i64 nx) := by rw [cell_of_row _ _ _ _ _ _ hx.1]; rfl
              have p5 : w1.frozen? ⟨w.heap.size, 0, none⟩ = false := free_of_row hx.1
              have p6 : w1.frozen? ⟨w.heap.size, 1, none⟩ = false := free_of_row hx.1
              obtain ⟨rows, r1, _⟩ := Q3.out
              have HX := Lib.hid hx
              have HA3 := Lib.hid (own_box2 (i := 0) (j := 1) (x := .slice A1 css4.length c1) (y := .int .i64 nx) (HA2.out.kept hg1 (own_ne HA2.out r1 (by decide))) hx.1 (by decide))
              have HB3 := Lib.hid (own_box2 (i := 0) (j := 1) (x := .slice A1 css4.length c1) (y := .int .i64 nx) (HB2'.out.kept hg1 (own_ne HB2'.out r1 (by decide))) hx.1 (by decide))
              have HO3 := Lib.hid (own_box2 (i := 0) (j := 1) (x := .slice A1 css4.length c1) (y := .int .i64 nx) (HO2.out.kept hg1 (own_ne HO2.out r1 (by decide))) hx.1 (by decide))
              clear hx r1 ho1 hg1 hb1
              go_wp2
              go_roundw
              case rel =>
                exact ⟨j + 1, by omega, by go_num, by rw [← HE.out]; exact HX.out.2, HA3.out, HB3.out, HO3.out⟩
              case measure => simp [intOf]; omega

theorem refCount_any (most : Nat) (hm1 : 1 ≤ most) (hm2 : most ≤ 1099511627776) : ∀ f, CntOk most f
  | 0 => fun _ _ _ _ _ _ _ _ _ h h1 => by omega
  | f + 1 => fun w base vc css next n c A xs hf h1 h6 hO hb hI hs hn1 hn2 hcl => by
    by_cases h : xs.length = 1
    · exact refCount_one w base vc css next most n c A xs h hO hb hI
    · exact refCount_step most hm1 hm2 f (refCount_any most hm1 hm2 f) w base vc css next n c A xs hf (by omega) h6 hO hb hI hs hn1 hn2 hcl
end Go.Proofs.Ytohffgggogdgmaa
