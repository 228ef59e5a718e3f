/-
  chalklinelaw19.live: the chapter's examples hold.
-/
import Derived.Test.YtelgabamdhaplaaProp
import Derived.Test.YtelgabamdhaplaaPropBad
import Derived.Test.YtelgabamdhaplaaStepsEq
import Derived.Test.YtelgabamdhaplaaLiveLaw
import Derived.Deep.RegionLaw
namespace Go.Proofs.Ytelgabamdhaplaa
open Go.RowKit

theorem step_lit (w : World) (ts : List TStep) (hm : ts.length ≤ 100) : Steps (w.alloc (.cells (flat ts).toArray 39)) (some ⟨w.heap.size, 0, none⟩) ts.length ts.length ts := by
  refine ⟨rfl, Nat.le_refl _, by simp only [maxLen]; omega, by rw [flat_len], fun _ => ⟨_, rfl, by simp [Lt], fun j u hu => ?_⟩⟩
  have e : (⟨w.heap.size, 0, none⟩ : Addr).add j = ⟨w.heap.size, j, none⟩ := by unfold Addr.add; split <;> simp_all
  rw [e, cell_of_row _ _ _ _ _ _ (heap_alloc_new w _)]
  simpa using hu

def liveW (w : World) : World := ((((w.alloc (.cells #[.int .i64 (-1), .int .i64 2] 3)).alloc (.cells #[.int .i64 (-2), .int .i64 3] 3)).alloc (.cells #[.slice (some ⟨w.heap.size, 0, none⟩) 2 2, .slice (some ⟨w.heap.size + 1, 0, none⟩) 2 2] 29)).alloc (.cells #[.int .i64 3, .slice (some ⟨w.heap.size + 1 + 1, 0, none⟩) 2 2] 24)).alloc (.cells #[.int .i64 1, .int .i64 (-1)] 39)
theorem liveW_below (w : World) : Below w.heap.size w (liveW w) := below_then (below_then (below_then (below_then (alloc_lt _) (alloc_lt _)) (alloc_lt _)) (alloc_lt _)) (alloc_lt _)
theorem liveW_at (w : World) : (liveW w).heap[w.heap.size]? = some (.cells #[.int .i64 (-1), .int .i64 2] 3 (0, 0)) ∧ (liveW w).heap[w.heap.size + 1]? = some (.cells #[.int .i64 (-2), .int .i64 3] 3 (0, 0)) ∧
    (liveW w).heap[w.heap.size + 1 + 1]? = some (.cells #[.slice (some ⟨w.heap.size, 0, none⟩) 2 2, .slice (some ⟨w.heap.size + 1, 0, none⟩) 2 2] 29 (0, 0)) ∧ (liveW w).heap[w.heap.size + 1 + 1 + 1]? = some (.cells #[.int .i64 3, .slice (some ⟨w.heap.size + 1 + 1, 0, none⟩) 2 2] 24 (0, 0)) ∧ (liveW w).heap.size = w.heap.size + 5 := by
  unfold liveW
  refine ⟨?_, ?_, ?_, ?_, by simp⟩
  · rw [Below.heap_alloc _ _ _ (by simp <;> omega), Below.heap_alloc _ _ _ (by simp <;> omega), Below.heap_alloc _ _ _ (by simp <;> omega), Below.heap_alloc _ _ _ (by simp)]
    exact heap_alloc_new w _
  · rw [Below.heap_alloc _ _ _ (by simp <;> omega), Below.heap_alloc _ _ _ (by simp <;> omega), Below.heap_alloc _ _ _ (by simp)]
    have := heap_alloc_new (w.alloc (.cells #[.int .i64 (-1), .int .i64 2] 3)) (.cells #[.int .i64 (-2), .int .i64 3] 3)
    simpa using this
  · rw [Below.heap_alloc _ _ _ (by simp <;> omega), Below.heap_alloc _ _ _ (by simp)]
    have := heap_alloc_new ((w.alloc (.cells #[.int .i64 (-1), .int .i64 2] 3)).alloc (.cells #[.int .i64 (-2), .int .i64 3] 3)) (.cells #[.slice (some ⟨w.heap.size, 0, none⟩) 2 2, .slice (some ⟨w.heap.size + 1, 0, none⟩) 2 2] 29)
    simpa using this
  · rw [Below.heap_alloc _ _ _ (by simp)]
    have := heap_alloc_new (((w.alloc (.cells #[.int .i64 (-1), .int .i64 2] 3)).alloc (.cells #[.int .i64 (-2), .int .i64 3] 3)).alloc (.cells #[.slice (some ⟨w.heap.size, 0, none⟩) 2 2, .slice (some ⟨w.heap.size + 1, 0, none⟩) 2 2] 29)) (.cells #[.int .i64 3, .slice (some ⟨w.heap.size + 1 + 1, 0, none⟩) 2 2] 24)
    simpa using this
theorem liveW_own (w : World) : OwnRows (liveW w) w.heap.size (.slice (some ⟨w.heap.size + 1 + 1, 0, none⟩) 2 2) [[-1, 2], [-2, 3]] := by
  obtain ⟨h1, h2, h3, _⟩ := liveW_at w
  refine ⟨[.slice (some ⟨w.heap.size, 0, none⟩) 2 2, .slice (some ⟨w.heap.size + 1, 0, none⟩) 2 2], ⟨rfl, .inr ⟨_, 2, _, rfl, by omega, h3, by simp, by simp [maxLen], rfl, rfl⟩⟩, fun i r hr => ?_⟩
  match i, hr with
  | 0, hr =>
    simp at hr
    subst hr
    exact ⟨_, rfl, rfl, .inr ⟨_, 2, _, rfl, by omega, h1, by simp, by simp [maxLen], rfl, rfl⟩⟩
  | 1, hr =>
    simp at hr
    subst hr
    exact ⟨_, rfl, rfl, .inr ⟨_, 2, _, rfl, by omega, h2, by simp, by simp [maxLen], rfl, rfl⟩⟩
theorem liveW_steps (w : World) : Steps (liveW w) (some ⟨w.heap.size + 1 + 1 + 1 + 1, 0, none⟩) 1 1 [(1, -1)] := by
  have := step_lit ((((w.alloc (.cells #[.int .i64 (-1), .int .i64 2] 3)).alloc (.cells #[.int .i64 (-2), .int .i64 3] 3)).alloc (.cells #[.slice (some ⟨w.heap.size, 0, none⟩) 2 2, .slice (some ⟨w.heap.size + 1, 0, none⟩) 2 2] 29)).alloc (.cells #[.int .i64 3, .slice (some ⟨w.heap.size + 1 + 1, 0, none⟩) 2 2] 24)) [(1, -1)] (by decide)
  simpa [flat, liveW] using this
theorem wpList_append_oneB {P : Program} (w : World) {ops : Array Oper} {rest : List Oper} {o : Oper} {a : Act} {Q : Exit → Act → World → Prop} (hgd : o.guard = none) (s x : Operand) (t : TypeId)
    (ho : o.op = .call { callee := .builtin .append, args := #[s, x], argTypes := #[t, t] })
    (base : Nat) (e : TypeId) (i : TypeInfo) (z : Value) (bytes : Nat) (ht : P.underlying t = some (.slice e)) (hi : P.info? e = some i) (hz : i.zero = some z)
    (hsize : i.size = 1) (hby : i.bytes = bytes) (hzs : z.cells.size = 1)
    (v : Value) (n : Nat) (xs : List Value) (hs : a.eval s = v) (hown : w.ownsRow base e 1 v n xs) (e' : TypeId) (u : Value) (c : Nat) (h1 : u.oneCell' = true)
    (b : Nat) (hb : w.heap.size = b) (hx : a.eval x = .slice (some ⟨b, 0, none⟩) 1 c)
    (h63 : n + 1 ≤ maxLen) (hbytes : (n + 1) * bytes ≤ 140737488355328) (hbase : base ≤ w.heap.size)
    (h : ∀ A' c' w', w'.ownsRow base e 1 (.slice A' (n + 1) c') (n + 1) (xs ++ [u]) → w.grownBy w' v.ownBlock → (∀ g, (Value.slice A' (n + 1) c').ownBlock = some g → v.ownBlock = some g ∨ w.heap.size ≤ g) → wpList P ops Q rest (a.put o.dst (.slice A' (n + 1) c')) w') :
    wpList P ops Q (o :: rest) a (w.alloc (.cells #[u] e')) := by
  subst hb
  exact wpList_append_one w hgd s x t ho base e i z bytes ht hi hz hsize hby hzs v n xs hs hown e' u c h1 hx h63 hbytes hbase h
structure LS (w : World) (A9 : Option Addr) (c9 : Nat) (Ax : Option Addr) (cx : Nat) (wk : World) : Prop where
  bel : Below w.heap.size w wk
  own : Rows2 wk A9 3 c9 [[-1, 2], [-2, 3], [-1, -3]]
  x : wk.heap[w.heap.size + 1 + 1 + 1]? = some (.cells #[.int .i64 3, .slice A9 3 c9] 24 (0, 0))
  st : Steps wk (some ⟨w.heap.size + 1 + 1 + 1 + 1, 0, none⟩) 1 1 [(1, -1)]
  xs : Steps wk Ax 3 cx [(1, -1), (2, 0), (3, 1)]
theorem LS.to {w wk wk' : World} {A9 : Option Addr} {c9 : Nat} {Ax : Option Addr} {cx : Nat} (h : LS w A9 c9 Ax cx wk) (hb : Below wk.heap.size wk wk') : LS w A9 c9 Ax cx wk' :=
  ⟨below_then h.bel hb, h.own.belowLt hb, (hb.block _ (lt_block h.x)).trans h.x, h.st.belowLt hb, h.xs.belowLt hb⟩
theorem LS.c0 {w wk : World} {A9 : Option Addr} {c9 : Nat} {Ax : Option Addr} {cx : Nat} (h : LS w A9 c9 Ax cx wk) : wk.cell? ⟨w.heap.size + 1 + 1 + 1, 0, none⟩ = some (.int .i64 3) := by rw [cell_of_row _ _ _ _ _ _ h.x]; rfl
theorem LS.c1 {w wk : World} {A9 : Option Addr} {c9 : Nat} {Ax : Option Addr} {cx : Nat} (h : LS w A9 c9 Ax cx wk) : wk.cell? ⟨w.heap.size + 1 + 1 + 1, 1, none⟩ = some (.slice A9 3 c9) := by rw [cell_of_row _ _ _ _ _ _ h.x]; rfl
theorem LS.start {w w1 w9 : World} {rows : List Value} {A9 : Option Addr} {c9 : Nat} {Ax : Option Addr} {cx : Nat} (hb : Below w.heap.size w w1) (hX : w1.heap[w.heap.size + 1 + 1 + 1]? = some (.cells #[.int .i64 3, .slice (some ⟨w.heap.size + 1 + 1, 0, none⟩) 2 2] 24 (0, 0)))
    (hr1 : w1.ownsRow w.heap.size 29 1 (.slice (some ⟨w.heap.size + 1 + 1, 0, none⟩) 2 2) 2 rows)
    (hr2 : ∀ (i : Nat) (r : Value), rows[i]? = some r → ∃ cs, [[(-1 : Int), 2], [-2, 3]][i]? = some cs ∧ w1.ownsRow w.heap.size 3 1 r cs.length (cs.map (Value.int .i64)))
    (hS : Steps w1 (some ⟨w.heap.size + 1 + 1 + 1 + 1, 0, none⟩) 1 1 [(1, -1)]) (hx : w1.ownsRow (w.heap.size + 5) 39 2 (.slice Ax 3 cx) 3 (flat [(1, -1), (2, 0), (3, 1)]))
    (ho9 : w9.ownsRow w.heap.size 29 1 (.slice A9 (2 + 1) c9) (2 + 1) (rows ++ [.slice (some ⟨w1.heap.size, 0, none⟩) 2 2])) (hg9 : (w1.alloc (.cells #[.int .i64 (-1), .int .i64 (-3)] 3)).grownBy w9 (some (w.heap.size + 1 + 1))) :
    LS w A9 c9 Ax cx (w9.setCell ⟨w.heap.size + 1 + 1 + 1, 1, none⟩ (.slice A9 3 c9)) := by
  have hlt := lt_block hX
  have hk : ∀ k, k < w1.heap.size → k ≠ w.heap.size + 1 + 1 → w9.heap[k]? = w1.heap[k]? := fun k h1 h2 => (hg9.block k (by simp; omega) (by simpa using h2)).trans (Below.heap_alloc _ _ _ h1)
  have hX9 := (hk _ hlt (by omega)).trans hX
  have hk2 : ∀ k, k < w1.heap.size → k ≠ w.heap.size + 1 + 1 → k ≠ w.heap.size + 1 + 1 + 1 → (w9.setCell ⟨w.heap.size + 1 + 1 + 1, 1, none⟩ (.slice A9 3 c9)).heap[k]? = w1.heap[k]? := fun k h1 h2 h3 =>
    (Below.heap_setCell _ _ _ _ h3).trans (hk k h1 h2)
  have hO9 : OwnRows w9 w.heap.size (.slice A9 3 c9) ([[-1, 2], [-2, 3]] ++ [[-1, -3]]) := by
    refine OwnRows.snoc (w := w1.alloc (.cells #[.int .i64 (-1), .int .i64 (-3)] 3)) (hr1.alloc _) (fun i r hr => ?_) ?_ ho9 rfl hg9
    · obtain ⟨cs, e, ho⟩ := hr2 i r hr
      exact ⟨cs, e, ho.alloc _⟩
    · exact ⟨rfl, .inr ⟨_, 2, _, rfl, hb.size, heap_alloc_new w1 _, by simp, by simp [maxLen], rfl, rfl⟩⟩
  refine ⟨?_, Rows2.of_own (base := w.heap.size) (hO9.keep fun k cs t _ hh ht => Below.heap_setCell _ _ _ _ (fun e => ?_)), ?_, ?_, ?_⟩
  · exact ((hb.alloc (by have := hb.size; omega) _).grown hg9 (by have := hb.size; simp; omega) (fun g hg => by injection hg with hg; omega)).setCell (by simp; omega) _
  · have e' : k = w.heap.size + 1 + 1 + 1 := e
    rw [e', hX9] at hh
    injection hh with hh
    injection hh with _ hh
    rw [← hh] at ht
    revert ht
    decide
  · rw [heap_setCell_same _ _ _ _ _ _ hX9]; rfl
  · refine ⟨hS.len, hS.cap, hS.max, hS.reads.1, fun h0 => ?_⟩
    obtain ⟨ad, e, hl, hc⟩ := hS.reads.2 h0
    injection e with e
    subst e
    refine ⟨_, rfl, ?_, fun j u hu => (World.cell?_of_block ?_).trans (hc j u hu)⟩
    · have := hg9.size; simp only [Lt] at hl ⊢; simp [World.setCell] at this hl ⊢; omega
    · rw [block_of_add]; exact hk2 _ hl (by simp <;> omega) (by simp <;> omega)
  · refine Steps.of_own (own_keep hx fun b hb => ?_)
    obtain ⟨h1, h2⟩ := hx.lt b hb
    exact hk2 b h2 (by omega) (by omega)

set_option maxHeartbeats 8000000 in
set_option maxRecDepth 100000 in
theorem live_any (w : World) : Calls Try.prog 11 #[] w (RetBoolBelow w true) := by
  obtain ⟨i1, hi1, hy0, hy1, hy2⟩ := info_parts ints_info
  obtain ⟨W, hW⟩ : ∃ W, W = liveW w := ⟨_, rfl⟩
  have hBW : Below w.heap.size w W := by rw [hW]; exact liveW_below w
  have hOW : OwnRows W w.heap.size (.slice (some ⟨w.heap.size + 1 + 1, 0, none⟩) 2 2) [[-1, 2], [-2, 3]] := by rw [hW]; exact liveW_own w
  have hSW : Steps W (some ⟨w.heap.size + 1 + 1 + 1 + 1, 0, none⟩) 1 1 [(1, -1)] := by rw [hW]; exact liveW_steps w
  have hXW : W.heap[w.heap.size + 1 + 1 + 1]? = some (.cells #[.int .i64 3, .slice (some ⟨w.heap.size + 1 + 1, 0, none⟩) 2 2] 24 (0, 0)) := by rw [hW]; exact (liveW_at w).2.2.2.1
  have HWS : Hid (W.heap.size = w.heap.size + 5) := by rw [hW]; exact (liveW_at w).2.2.2.2
  have c0 : W.cell? ⟨w.heap.size + 1 + 1 + 1, 0, none⟩ = some (.int .i64 3) := by rw [cell_of_row _ _ _ _ _ _ hXW]; rfl
  have c1 : W.cell? ⟨w.heap.size + 1 + 1 + 1, 1, none⟩ = some (.slice (some ⟨w.heap.size + 1 + 1, 0, none⟩) 2 2) := by rw [cell_of_row _ _ _ _ _ _ hXW]; rfl
  have call := prop_ok W 3 _ 2 2 [[-1, 2], [-2, 3]] _ 1 1 [(1, -1)] (Rows2.of_own hOW) hSW (by omega) (by decide) (by decide)
  have CALL := Lib.hid call
  have HBW := Lib.hid hBW
  have HOW := Lib.hid hOW
  have HSW := Lib.hid hSW
  have HXW := Lib.hid hXW
  clear call hBW hOW hSW hXW
  go_enter Try.func11, Try.ntmps11
  go_upto_region 3 with (fail)
  unfold liveW at hW
  rw [← hW]
  clear hW
  go_wp2_with (fail)
  (with_reducible refine CALL.out.mono ?_)
  rintro e w1 ⟨Ax, nx, cx, x, cf, rfl, hx, hp, hb1⟩
  obtain ⟨rfl, rfl⟩ := live_x hp
  obtain rfl : nx = 3 := by have := hx.1; simp [flat] at this; omega
  have hB1 := below_then HBW.out hb1
  have hO1 : OwnRows w1 w.heap.size (.slice (some ⟨w.heap.size + 1 + 1, 0, none⟩) 2 2) [[-1, 2], [-2, 3]] := HOW.out.below hb1 (Nat.le_refl _)
  have hS1 : Steps w1 (some ⟨w.heap.size + 1 + 1 + 1 + 1, 0, none⟩) 1 1 [(1, -1)] := HSW.out.belowLt hb1
  have hX1 : w1.heap[w.heap.size + 1 + 1 + 1]? = some (.cells #[.int .i64 3, .slice (some ⟨w.heap.size + 1 + 1, 0, none⟩) 2 2] 24 (0, 0)) := (hb1.block _ (lt_block HXW.out)).trans HXW.out
  have d1 : w1.cell? ⟨w.heap.size + 1 + 1 + 1, 1, none⟩ = some (.slice (some ⟨w.heap.size + 1 + 1, 0, none⟩) 2 2) := by rw [cell_of_row _ _ _ _ _ _ hX1]; rfl
  have hx5 : w1.ownsRow (w.heap.size + 5) 39 2 (.slice Ax 3 cx) 3 (flat [(1, -1), (2, 0), (3, 1)]) := own_base hx (by rw [HWS.out]; exact Nat.le_refl _)
  obtain ⟨rows, hr1, hr2⟩ := hO1
  have hbs := hB1.size
  have HB1 := Lib.hid hB1
  have HS1 := Lib.hid hS1
  have HX1 := Lib.hid hX1
  have HR1 := Lib.hid hr1
  have HR2 := Lib.hid hr2
  have HX := Lib.hid hx5
  clear hB1 hS1 hX1 hr1 hr2 hx hx5 hp hb1 c0 c1 HBW HOW HSW HXW CALL HWS
  go_upto_region 5 with (first
    | (at_builtin
       go_must (refine wpList_append_oneB (w1.alloc (.cells #[.int .i64 (-1), .int .i64 (-3)] 3)) rfl (.tmp 31) (.tmp 33) _ rfl w.heap.size 29 i1 _ 24 Try.underlying22 hi1 hy0 hy1 hy2 rfl (.slice (some ⟨w.heap.size + 1 + 1, 0, none⟩) 2 2) 2 rows (by rfl) (HR1.out.alloc _) 29 (.slice (some ⟨w1.heap.size, 0, none⟩) 2 2) 1 rfl (w1.heap.size + 1) (by simp) (by rfl) (by simp [maxLen]) (by omega) (by simp; omega) ?_)
       intro A9 c9 w9 ho9 hg9 hb9
       have hX9 : w9.heap[w.heap.size + 1 + 1 + 1]? = some (.cells #[.int .i64 3, .slice (some ⟨w.heap.size + 1 + 1, 0, none⟩) 2 2] 24 (0, 0)) := (hg9.block _ (by have := lt_block HX1.out; simp; omega) (by simp [Value.ownBlock])).trans ((Below.heap_alloc _ _ _ (lt_block HX1.out)).trans HX1.out)
       have e1 : w9.cell? ⟨w.heap.size + 1 + 1 + 1, 1, none⟩ = some (.slice (some ⟨w.heap.size + 1 + 1, 0, none⟩) 2 2) := cell_of_row _ _ _ _ _ _ hX9
       have e1f : w9.frozen? ⟨w.heap.size + 1 + 1 + 1, 1, none⟩ = false := free_of_row hX9
       have HLS := Lib.hid (LS.start HB1.out HX1.out HR1.out HR2.out HS1.out HX.out ho9 (by simpa [Value.ownBlock] using hg9))
       obtain ⟨W2, hW2⟩ : ∃ W2, W2 = w9.setCell ⟨w.heap.size + 1 + 1 + 1, 1, none⟩ (.slice A9 3 c9) := ⟨_, rfl⟩
       rw [← hW2] at HLS
       have c0 := HLS.out.c0
       have c1 := HLS.out.c1
       have CALL := Lib.hid (prop_ok W2 3 _ 3 c9 _ _ 1 1 [(1, -1)] HLS.out.own HLS.out.st (by omega) (by decide) (by decide))
       clear ho9 hg9 hb9 hX9 d1 HB1 HX1 HR1 HR2 HS1 HX))
  rw [← hW2]
  clear hW2 e1 e1f
  go_wp2_with (fail)
  (with_reducible refine CALL.out.mono ?_)
  rintro e w2 ⟨Ay, ny, cy, y, no, rfl, hy, hp, hb2⟩
  obtain ⟨hy2', hno0, hno1⟩ := live_y hp
  have hny : ny = y.length := by have := hy.1; rw [flat_len] at this; omega
  have hny2 : 2 ≤ ny := by omega
  have HLS2 := Lib.hid (HLS.out.to hb2)
  have r6 := lit_rows w2 [[]] (by simp) (by simp [maxLen]) (w2.heap.size + 1) (by simp [allocAll])
  have b6 : Below w2.heap.size w2 ((w2.alloc (.cells #[] 3)).alloc (.cells #[.slice (some ⟨w2.heap.size, 0, none⟩) 0 0] 29)) := below_then (alloc_lt _) (alloc_lt _)
  have hyl := (Steps.of_own hy).max
  have hyc := (Steps.of_own hy).cap
  unfold maxLen at hyl
  clear hy hp hb2 c0 c1 HLS CALL hy2' hny
  obtain ⟨W3, hW3⟩ : ∃ W3, W3 = (w2.alloc (.cells #[] 3)).alloc (.cells #[.slice (some ⟨w2.heap.size, 0, none⟩) 0 0] 29) := ⟨_, rfl⟩
  have r6' : Rows2 W3 (some ⟨w2.heap.size + 1, 0, none⟩) 1 1 [[]] := by rw [hW3]; exact r6
  rw [← hW3] at b6
  have CALL := Lib.hid (prop_ok W3 0 _ 1 1 [[]] none 0 0 [] r6' ⟨rfl, by omega, by simp [maxLen], Reads.none_⟩ (by omega) (by decide) (by decide))
  have HLS3 := Lib.hid (HLS2.out.to b6)
  clear r6 r6' b6 HLS2
  go_wp2_with (fail)
  rw [← hW3]
  (with_reducible refine CALL.out.mono ?_)
  rintro e w3 ⟨Az, nz, cz, z, cz0, rfl, hz, hp, hb3⟩
  obtain rfl : cz0 = 0 := live_z hp
  have HLS4 := Lib.hid (HLS3.out.to hb3)
  have b7 : Below w3.heap.size w3 (w3.alloc (.cells #[.int .i64 2, .int .i64 0] 39)) := alloc_lt _
  have hzl := (Steps.of_own hz).max
  have hzc := (Steps.of_own hz).cap
  unfold maxLen at hzl
  have c0 := HLS4.out.c0
  have c1 := HLS4.out.c1
  have s7 := step_lit w3 [(2, 0)] (by decide)
  have HLS5 := Lib.hid (HLS4.out.to b7)
  have CALL2 := Lib.hid (prop_bad _ 3 _ 3 c9 _ _ 1 1 [(2, 0)] HLS5.out.own s7 (by omega) (by decide))
  clear hz hp hb3 CALL HLS3 b7 hW3 s7
  go_wp2_with (fail)
  (with_reducible refine CALL2.out.mono ?_)
  rintro e w4 ⟨rfl, hb4⟩
  have HLS6 := Lib.hid (HLS5.out.to hb4)
  have b8 : Below w4.heap.size w4 (w4.alloc (.cells #[.int .i64 1, .int .i64 (-1), .int .i64 2, .int .i64 0, .int .i64 3, .int .i64 1] 39)) := alloc_lt _
  have s8 := step_lit w4 [(1, -1), (2, 0), (3, 1)] (by decide)
  have HLS7 := Lib.hid (HLS6.out.to b8)
  have CALL3 := Lib.hid (steps_eq _ 3 cx 3 3 Ax _ _ _ HLS7.out.xs s8)
  rw [show checkS 3 [[-1, 2], [-2, 3], [-1, -3]] [(2, 0)] = 1 from by decide]
  rw [show decide ([((1 : Int), (-1 : Int)), (2, 0), (3, 1)] = [(1, -1), (2, 0), (3, 1)]) = true from by decide] at CALL3
  clear hb4 CALL2 HLS5 b8 s8 c0 c1 HLS4
  go_wp2_with (fail)
  (with_reducible refine CALL3.out.mono ?_)
  rintro e w5 ⟨rfl, hb5⟩
  have HLS8 := Lib.hid (HLS7.out.to hb5)
  have CALL4 := Lib.hid (levels_any w5 Ax 3 cx _ HLS8.out.xs (by omega))
  clear hb5 HLS6 HLS7 CALL3
  go_wp2_with (fail)
  (with_reducible refine CALL4.out.mono ?_)
  rintro e w6 ⟨Al, nl, cl, rfl, hol, hb6⟩
  have HLS9 := Lib.hid (HLS8.out.to hb6)
  have hil := Ints.of_ownLt hol
  have hlv : levR [((1 : Int), (-1 : Int)), (2, 0), (3, 1)] = [1, 1, 1] := by decide
  rw [hlv] at hil
  obtain rfl : nl = 3 := hil.len
  obtain ⟨al, rfl, hal, l0⟩ := hil.at_ (k := 0) (by omega)
  obtain ⟨al', e', _, l2⟩ := hil.at_ (k := 2) (by omega)
  injection e' with e'
  subst e'
  have hcl := hil.cap
  have hml := hil.max
  unfold maxLen at hml
  rw [add_zero] at l0
  simp only [List.getD_cons_succ, List.getD_cons_zero] at l0 l2
  have l2' : w6.cell? ⟨al.block, al.off + 2, none⟩ = some (.int .i64 1) := by rw [← l2]; congr 1
  have q1 : decide ((ny : Int) < 2) = false := by simp; omega
  have q2 : decide (no < 0) = false := by simp; omega
  have q3 : decide ((2 : Int) < no) = false := by simp; omega
  have CALL5 := Lib.hid (back_any w6 Ax 3 cx _ 0 HLS9.out.xs (by omega))
  clear hol hb6 HLS8 CALL4 hil hlv
  go_wp2_with (fail)
  (with_reducible refine CALL5.out.mono ?_)
  rintro e w7 ⟨A7, n7, c7, rfl, ho7, hb7⟩
  obtain rfl : n7 = 0 := by have := ho7.1; rw [show backR [((1 : Int), (-1 : Int)), (2, 0), (3, 1)] 0 = [] from by decide] at this; simp [flat] at this; omega
  have HLS10 := Lib.hid (HLS9.out.to hb7)
  have CALL6 := Lib.hid (back_any w7 Ax 3 cx _ 1 HLS10.out.xs (by omega))
  clear ho7 hb7 CALL5 HLS9
  go_wp2_with (fail)
  (with_reducible refine CALL6.out.mono ?_)
  rintro e w8 ⟨A8, n8, c8, rfl, ho8, hb8⟩
  obtain rfl : n8 = 3 := by have := ho8.1; rw [show backR [((1 : Int), (-1 : Int)), (2, 0), (3, 1)] 1 = [(1, -1), (2, 0), (3, 1)] from by decide] at this; simp [flat] at this; omega
  have HLS11 := Lib.hid (HLS10.out.to hb8)
  have CALL7 := Lib.hid (trailCheck_any w8 3 _ 3 c9 _ Ax 3 cx _ HLS11.out.own HLS11.out.xs (by omega))
  have c0 := HLS11.out.c0
  have c1 := HLS11.out.c1
  rw [show checkS 3 [[-1, 2], [-2, 3], [-1, -3]] [(1, -1), (2, 0), (3, 1)] = 0 from by decide] at CALL7
  clear ho8 hb8 CALL6 HLS10
  go_wp2_with (fail)
  (with_reducible refine CALL7.out.mono ?_)
  rintro e w10 ⟨rfl, hb10⟩
  have HLS12 := Lib.hid (HLS11.out.to hb10)
  have c0' := HLS12.out.c0
  have c1' := HLS12.out.c1
  have b11 : Below w10.heap.size w10 (w10.alloc (.cells #[.int .i64 4, .int .i64 (-1)] 39)) := alloc_lt _
  have s11 := step_lit w10 [(4, -1)] (by decide)
  have HLS13 := Lib.hid (HLS12.out.to b11)
  have CALL8 := Lib.hid (trailCheck_any _ 3 _ 3 c9 _ _ 1 1 _ HLS13.out.own s11 (by omega))
  rw [show checkS 3 [[-1, 2], [-2, 3], [-1, -3]] [(4, -1)] = 1 from by decide] at CALL8
  clear hb10 CALL7 HLS11 b11 s11 c0 c1
  go_wp2_with (fail)
  (with_reducible refine CALL8.out.mono ?_)
  rintro e w11 ⟨rfl, hb11⟩
  have HLS14 := Lib.hid (HLS13.out.to hb11)
  clear hb11 CALL8 HLS12 HLS13
  go_wp2
  go_ret
  exact ⟨rfl, HLS14.out.bel⟩
end Go.Proofs.Ytelgabamdhaplaa
