/-
  A part of the proof of TopCrashRecovery: walks of the functions that the law calls.
-/
import Derived.Test.YtpncejdamjbnlaaGreatDoorJa
import Derived.Test.YtpncejdamjbnlaaGreatDoorJg
import Derived.Maps.Own
import Derived.Maps.OwnOps
import Derived.Maps.Views
import Derived.Laws.EntriesVeiled
set_option linter.all false
section
namespace Go.Proofs.YtpncejdamjbnlaaGreatDoor
open Go.RowKit Go.Maps
def asIs (v : Value) : Option (DataW Value × List MemPlace) := some (.held v, [])
def VMap (w : World) (b n : Nat) (f : Int → Option Value) : Prop :=
  ∃ D : DataW Value, w.ownsMap Tryz.prog 3 asIs b n D ∧ IsMap D ∧ ∀ (k : Int) (z : Value), (Lit.int .i64 k).wf = true → D.atKey (.int .i64 k) (.held z) = .held ((f k).getD z)
def upd (f : Int → Option Value) (k : Int) (v : Value) : Int → Option Value := fun j => if j = k then some v else f j
theorem ikey : Keyed Tryz.prog 3 := int_keyed Tryz.underlying3
theorem VMap.made (w : World) : VMap (w.alloc (.map #[] 0)) w.heap.size 0 (fun _ => none) :=
  ⟨.map [], World.ownsMap_made w _ _ _, isMap_empty, fun _ _ _ => rfl⟩
theorem VMap.lt {w : World} {b n : Nat} {f : Int → Option Value} (h : VMap w b n f) : b < w.heap.size := by
  obtain ⟨D, h1, _⟩ := h
  exact h1.lt
theorem int_key {k : Int} (h : (Lit.int .i64 k).wf = true) : keyOf Tryz.prog 3 (.int .i64 k) = some (.int .i64 k) := keyOf_int_mk Tryz.underlying3 h
theorem VMap.update {w : World} {b n : Nat} {f : Int → Option Value} (h : VMap w b n f) {t e : TypeId} (ht : Tryz.prog.underlying t = some (.map 3 e)) (hn : n < maxLen) {k : Int} (hk : (Lit.int .i64 k).wf = true) (v : Value) :
    ∃ w', (Instr.mapUpdate t (.map (some b)) (.int .i64 k) v).run Tryz.prog w = .ok () w' ∧ VMap w' b (n + 1) (upd f k v) ∧ w.grownBy w' (some b) := by
  obtain ⟨D, h1, h2, h3⟩ := h
  obtain ⟨w', hrun, ho, hg⟩ := h1.update ikey ht hn (d := .held v) (ps := []) (int_key hk) rfl
  refine ⟨w', hrun, ⟨_, ho, h2.put _ _, fun j z hj => ?_⟩, hg⟩
  unfold upd
  by_cases hjk : j = k
  · subst hjk
    rw [if_pos rfl, atKey_put_same h2 (by simp [WideAt.IsKeyLit])]; rfl
  · rw [if_neg hjk, atKey_put_other (by simpa using hjk)]
    exact h3 j z hj
set_option maxRecDepth 100000 in
theorem VMap.lookup_ok {w : World} {b n : Nat} {f : Int → Option Value} (h : VMap w b n f) {t e : TypeId} (ht : Tryz.prog.underlying t = some (.map 3 e)) {z : Value} (hz : (zeroValue e).run Tryz.prog w = .ok z w)
    {k : Int} (hk : (Lit.int .i64 k).wf = true) {v : Value} (hf : f k = some v) : (Instr.lookup t (.map (some b)) (.int .i64 k) true).run Tryz.prog w = .ok (.tuple #[v, .bool true]) w := by
  obtain ⟨D, ⟨es, clock, hb, F, _, rfl⟩, _, h3⟩ := h
  rcases fit_look true ikey ht hz hb F (int_key hk) with ⟨_, _, hat⟩ | ⟨e0, y, _, _, hrun, hRv, hat, _⟩
  · have a1 := h3 k (.bool true) hk
    have a2 := h3 k (.bool false) hk
    rw [hat, hf] at a1 a2
    injection a1 with a1
    injection a2 with a2
    have a3 := a1.trans a2.symm
    injection a3 with a3
    cases a3
  · have a1 := h3 k z hk
    rw [hat, hf] at a1
    simp only [asIs, Option.some.injEq] at hRv
    rw [← hRv] at a1
    injection a1 with a1
    rw [hrun, a1]
    rfl
end Go.Proofs.YtpncejdamjbnlaaGreatDoor
end
section
namespace Go.Proofs.YtpncejdamjbnlaaGreatDoor
open Go.RowKit Jour
theorem info42 : (Tryz.prog.info? 42).map (·.size) = some 2 := by kernel_rfl
theorem info32 : (Tryz.prog.info? 32).map (·.size) = some 1 := by kernel_rfl
theorem pair_cells {w : World} {b : Nat} {u0 u1 : Value} {t : TypeId} (h : w.heap[b]? = some (.cells #[u0, u1] t (0, 0))) : (w.cell? ⟨b, 0, none⟩ = some u0 ∧ w.cell? ⟨b, 1, none⟩ = some u1) ∧ ∀ o, w.frozen? ⟨b, o, none⟩ = false := by
  refine ⟨?_, fun o => by simp [World.frozen?, h]⟩
  constructor <;> (rw [cell_of_row _ _ _ _ _ _ h]; rfl)
set_option maxRecDepth 100000 in
theorem wish_any (w : World) (no : Int) (n c : Nat) (A : Option Addr) :
    Calls Tryz.prog 12 #[.agg #[.int .i64 no, .slice A n c], .int .i64 0] w (fun e w' => e = .returned (.agg (msgV 3 0 0 no (.slice none 0 0) (.slice none 0 0))) ∧ Below w.heap.size w w') := by
  obtain ⟨W0, hW0⟩ : ∃ W0, W0 = ((w.alloc (Obj.cells #[.int .i64 no, .slice A n c] 42)).alloc (Obj.cells (msgV 0 0 0 0 (.slice none 0 0) (.slice none 0 0)) 46)) := ⟨_, rfl⟩
  have hal : Below w.heap.size w W0 := by rw [hW0]; exact below_then (alloc_lt _) (alloc_lt _)
  have hb1 : W0.heap[w.heap.size + 1]? = some (.cells (msgV 0 0 0 0 (.slice none 0 0) (.slice none 0 0)) 46 (0, 0)) := by
    rw [hW0]
    have := heap_alloc_new (w.alloc (Obj.cells #[.int .i64 no, .slice A n c] 42)) (Obj.cells (msgV 0 0 0 0 (.slice none 0 0) (.slice none 0 0)) 46)
    rw [World.size_alloc] at this
    exact this
  have hb0 : W0.heap[w.heap.size]? = some (.cells #[.int .i64 no, .slice A n c] 42 (0, 0)) := by
    rw [hW0]
    exact alloc_keep (heap_alloc_new w _) _
  have HW0 := Lib.hid hW0
  have HAL := Lib.hid hal
  have HB0 := Lib.hid hb0
  have HB1 := Lib.hid hb1
  clear hW0 hal hb0 hb1
  go_enter Tryz.func12, Tryz.ntmps12
  go_upto_region 1 with (fail)
  rw [show ((w.alloc (Obj.cells #[.int .i64 no, .slice A n c] 42)).alloc (Obj.cells #[.int .i64 0, .int .i64 0, .int .i64 0, .int .i64 0, .slice none 0 0, .slice none 0 0] 46)) = W0 from HW0.out.symm]
  obtain ⟨⟨z0, z1, z2, z3, z4, z5⟩, hf⟩ := six_cells HB1.out
  have f0 := hf 0
  have f1 := hf 1
  have f2 := hf 2
  have f3 := hf 3
  have f4 := hf 4
  have f5 := hf 5
  obtain ⟨⟨y0, y1⟩, _⟩ := pair_cells HB0.out
  obtain ⟨g1, g2, g3⟩ := six_fin (.int .i64 3) (.int .i64 0) (.int .i64 0) (.int .i64 no) (.slice none 0 0) (.slice none 0 0) HB1.out
  have FIN := Lib.hid (g3 _ _ HAL.out (by omega))
  obtain ⟨F, hF⟩ : ∃ F, F = six W0 (w.heap.size + 1) (.int .i64 3) (.int .i64 0) (.int .i64 0) (.int .i64 no) (.slice none 0 0) (.slice none 0 0) := ⟨_, rfl⟩
  rw [← hF] at g1 FIN
  have G1 := Lib.hid g1
  have HF := Lib.hid hF
  clear hf hF g1 g2 g3
  go_wp2_with (fail)
  rw [show (((((W0.setCell ⟨w.heap.size + 1, 0, none⟩ (.int .i64 3)).setCell ⟨w.heap.size + 1, 1, none⟩ (.int .i64 0)).setCell ⟨w.heap.size + 1, 2, none⟩ (.int .i64 0)).setCell ⟨w.heap.size + 1, 3, none⟩ (.int .i64 no)).setCell ⟨w.heap.size + 1, 4, none⟩ (.slice none 0 0)).setCell ⟨w.heap.size + 1, 5, none⟩ (.slice none 0 0) = F from HF.out.symm]
  obtain ⟨⟨q0, q1, q2, q3, q4, q5⟩, _⟩ := six_cells G1.out
  exact bodyPost_ret (v := .agg #[.int .i64 3, .int .i64 0, .int .i64 0, .int .i64 no, .slice none 0 0, .slice none 0 0]) (by simp [results, Tryz.results12, go_sem, q0, q1, q2, q3, q4, q5]) rfl ⟨rfl, FIN.out⟩
set_option maxRecDepth 100000 in
theorem take1_any (w : World) (M n c : Nat) (A : Option Addr) (ps : List Pl) (kind to_ from_ no : Int) (ms : Value) (hM : w.heap[M]? = some (.cells (msgV kind to_ from_ no (.slice A n c) ms) 46 (0, 0))) (hP : Arr w A n c ps) (hn : n ≤ 64) :
    Calls Tryz.prog 35 #[.pointer (some ⟨M, 0, none⟩)] w (RetWeekOk w ps) := by
  have hlt := (Array.getElem?_eq_some_iff.1 hM).1
  obtain ⟨W0, hW0⟩ : ∃ W0, W0 = (w.alloc (Obj.cells #[.slice none 0 0] 32)) := ⟨_, rfl⟩
  have hal : Below w.heap.size w W0 := by rw [hW0]; exact alloc_lt _
  have hb0 : W0.heap[w.heap.size]? = some (.cells #[.slice none 0 0] 32 (0, 0)) := by rw [hW0]; exact heap_alloc_new w _
  have hM0 := (hal.block M hlt).trans hM
  obtain ⟨⟨z0, z1, z2, z3, z4, z5⟩, hf⟩ := six_cells hM0
  have C34 := Lib.hid (clone_places W0 n c A ps (hP.belowLt hal) (by omega))
  have HW0 := Lib.hid hW0
  have HAL := Lib.hid hal
  have HB0 := Lib.hid hb0
  rw [hW0] at z0 z1 z2 z3 z4 z5 C34
  clear hW0 hal hb0 hM hM0 hf hP z0 z1 z2 z3 z5
  go_enter Tryz.func35, Tryz.ntmps35
  go_wp2_with (fail)
  (with_reducible refine C34.out.mono ?_)
  rintro e w3 ⟨A3, n3, c3, rfl, ho3, hb3⟩
  rw [← HW0.out] at hb3 ho3
  have hl3 := (hb3.block w.heap.size (Array.getElem?_eq_some_iff.1 HB0.out).1).trans HB0.out
  have f0 := free_of_one hl3
  have q9 := cell_of_one hl3
  have q0 := cell_of_one (one_setCell (u := .slice A3 n3 c3) hl3)
  have n32 : ∀ (x : Array Value) cs, Obj.cells x 32 (0, 0) ≠ .cells cs 104 (0, 0) := fun x cs e => by injection e; rename_i e1 e2 e3; exact absurd e2 (by decide)
  have HA : Hid ((w3.setCell ⟨w.heap.size, 0, none⟩ (.slice A3 n3 c3)).ownsRow w.heap.size 104 2 (.slice A3 n3 c3) n3 (flat ps)) := Lib.hid (own_base (ownsRow_setCell_other ho3 (own_other ho3 hl3 (n32 _)) _) HAL.out.size)
  have HB : Hid (Below w.heap.size w (w3.setCell ⟨w.heap.size, 0, none⟩ (.slice A3 n3 c3))) := Lib.hid ((below_then HAL.out hb3).setCell (Nat.le_refl _) _)
  clear hl3 hb3 ho3 n32 C34
  go_wp2_with (fail)
  exact bodyPost_ret (v := .tuple #[.agg #[.slice A3 n3 c3], .int .i64 0]) (by simp [results, Tryz.results35, go_sem, q0]) rfl ⟨A3, n3, c3, rfl, HA.out, HB.out⟩
set_option maxRecDepth 100000 in
theorem take2_any (w : World) (M C n c m d : Nat) (A A' : Option Addr) (ps qs : List Pl) (ms : List Mv) (kind to_ no : Int) (cno : Int) (wk : Value)
    (hM : w.heap[M]? = some (.cells (msgV kind to_ cno no wk (.slice A' m d)) 46 (0, 0))) (hC : w.heap[C]? = some (.cells #[.int .i64 cno, .slice A n c] 42 (0, 0))) (hP : Arr w A n c ps) (hQ : Arr w A' m d ms) (hn : n ≤ 64) (hm : m ≤ 64) (hap : Feed.apply (-1) ps ms = some qs) :
    Calls Tryz.prog 36 #[.pointer (some ⟨M, 0, none⟩), .pointer (some ⟨C, 0, none⟩)] w (RetWeekOk w qs) := by
  have hlt := (Array.getElem?_eq_some_iff.1 hM).1
  have hlc := (Array.getElem?_eq_some_iff.1 hC).1
  obtain ⟨W0, hW0⟩ : ∃ W0, W0 = (w.alloc (Obj.cells #[.slice none 0 0] 32)) := ⟨_, rfl⟩
  have hal : Below w.heap.size w W0 := by rw [hW0]; exact alloc_lt _
  have hb0 : W0.heap[w.heap.size]? = some (.cells #[.slice none 0 0] 32 (0, 0)) := by rw [hW0]; exact heap_alloc_new w _
  obtain ⟨⟨z0, z1, z2, z3, z4, z5⟩, hf⟩ := six_cells ((hal.block M hlt).trans hM)
  obtain ⟨⟨y0, y1⟩, _⟩ := pair_cells ((hal.block C hlc).trans hC)
  have C37 := Lib.hid (apply_any W0 n c m d A A' ps qs ms (hP.belowLt hal) (hQ.belowLt hal) hn hm hap)
  have HW0 := Lib.hid hW0
  have HAL := Lib.hid hal
  have HB0 := Lib.hid hb0
  rw [hW0] at z0 z1 z2 z3 z4 z5 C37 y0 y1
  clear hW0 hal hb0 hM hf hP hQ hC z0 z1 z3 z4 hap
  go_enter Tryz.func36, Tryz.ntmps36
  go_wp2_with (fail)
  (with_reducible refine C37.out.mono ?_)
  rintro e w3 ⟨A3, n3, c3, rfl, ho3, hb3⟩
  rw [← HW0.out] at hb3 ho3
  have hl3 := (hb3.block w.heap.size (Array.getElem?_eq_some_iff.1 HB0.out).1).trans HB0.out
  have f0 := free_of_one hl3
  have q9 := cell_of_one hl3
  have q0 := cell_of_one (one_setCell (u := .slice A3 n3 c3) hl3)
  have n32 : ∀ (x : Array Value) cs, Obj.cells x 32 (0, 0) ≠ .cells cs 104 (0, 0) := fun x cs e => by injection e; rename_i e1 e2 e3; exact absurd e2 (by decide)
  have HA : Hid ((w3.setCell ⟨w.heap.size, 0, none⟩ (.slice A3 n3 c3)).ownsRow w.heap.size 104 2 (.slice A3 n3 c3) n3 (flat qs)) := Lib.hid (own_base (ownsRow_setCell_other ho3 (own_other ho3 hl3 (n32 _)) _) HAL.out.size)
  have HB : Hid (Below w.heap.size w (w3.setCell ⟨w.heap.size, 0, none⟩ (.slice A3 n3 c3))) := Lib.hid ((below_then HAL.out hb3).setCell (Nat.le_refl _) _)
  clear hl3 hb3 ho3 n32 C37
  go_wp2_with (fail)
  exact bodyPost_ret (v := .tuple #[.agg #[.slice A3 n3 c3], .int .i64 0]) (by simp [results, Tryz.results36, go_sem, q0]) rfl ⟨A3, n3, c3, rfl, HA.out, HB.out⟩
end Go.Proofs.YtpncejdamjbnlaaGreatDoor
end
section
namespace Go.Proofs.YtpncejdamjbnlaaGreatDoor
open Go.RowKit Jour
theorem zero_func (w : World) : (zeroValue 113).run Tryz.prog w = .ok .nilFunc w := by kernel_rfl
set_option maxRecDepth 100000 in
theorem kinds_made (W : World) (M C : Nat) : ∃ w1 w2, (Instr.mapUpdate 116 (.map (some W.heap.size)) (.int .i64 1) (.func (.func 35) #[] #[.pointer (some ⟨M, 0, none⟩)])).run Tryz.prog (W.alloc (.map #[] 0)) = .ok () w1 ∧
    (Instr.mapUpdate 116 (.map (some W.heap.size)) (.int .i64 2) (.func (.func 36) #[] #[.pointer (some ⟨M, 0, none⟩), .pointer (some ⟨C, 0, none⟩)])).run Tryz.prog w1 = .ok () w2 ∧ Below W.heap.size W w2 ∧
    (Instr.lookup 116 (.map (some W.heap.size)) (.int .i64 1) true).run Tryz.prog w2 = .ok (.tuple #[.func (.func 35) #[] #[.pointer (some ⟨M, 0, none⟩)], .bool true]) w2 ∧
    (Instr.lookup 116 (.map (some W.heap.size)) (.int .i64 2) true).run Tryz.prog w2 = .ok (.tuple #[.func (.func 36) #[] #[.pointer (some ⟨M, 0, none⟩), .pointer (some ⟨C, 0, none⟩)], .bool true]) w2 := by
  obtain ⟨w1, hrun1, hv1, hg1⟩ := (VMap.made W).update (t := 116) Tryz.underlying116 (by simp [maxLen]) (k := 1) (by decide) (.func (.func 35) #[] #[.pointer (some ⟨M, 0, none⟩)])
  obtain ⟨w2, hrun2, hv2, hg2⟩ := hv1.update (t := 116) Tryz.underlying116 (by simp [maxLen]) (k := 2) (by decide) (.func (.func 36) #[] #[.pointer (some ⟨M, 0, none⟩), .pointer (some ⟨C, 0, none⟩)])
  refine ⟨w1, w2, hrun1, hrun2, ?_, ?_, ?_⟩
  · exact ((alloc_lt _).grown hg1 (by simp) (fun k e => by injection e with e; omega)).grown hg2 (Nat.le_trans (by simp) hg1.size) (fun k e => by injection e with e; omega)
  · exact hv2.lookup_ok Tryz.underlying116 (zero_func _) (by decide) (by simp [upd])
  · exact hv2.lookup_ok Tryz.underlying116 (zero_func _) (by decide) (by simp [upd])
abbrev take0 (w : World) (cno : Int) (A : Option Addr) (n c : Nat) (mv : Array Value) : World := ((w.alloc (Obj.cells #[.int .i64 cno, .slice A n c] 42)).alloc (Obj.cells mv 46)).alloc (Obj.cells #[.int .i64 0, .slice none 0 0] 42)
theorem take0_boxes (w : World) (cno : Int) (A : Option Addr) (n c : Nat) (mv : Array Value) : (take0 w cno A n c mv).heap[w.heap.size]? = some (.cells #[.int .i64 cno, .slice A n c] 42 (0, 0)) ∧ (take0 w cno A n c mv).heap[w.heap.size + 1]? = some (.cells mv 46 (0, 0)) ∧
    (take0 w cno A n c mv).heap[w.heap.size + 2]? = some (.cells #[.int .i64 0, .slice none 0 0] 42 (0, 0)) ∧ Below w.heap.size w (take0 w cno A n c mv) := by
  refine ⟨alloc_keep (alloc_keep (heap_alloc_new _ _) _) _, ?_, ?_, below_then (below_then (alloc_lt _) (alloc_lt _)) (alloc_lt _)⟩
  · have := heap_alloc_new (w.alloc (Obj.cells #[.int .i64 cno, .slice A n c] 42)) (Obj.cells mv 46)
    rw [World.size_alloc] at this
    exact alloc_keep this _
  · have := heap_alloc_new ((w.alloc (Obj.cells #[.int .i64 cno, .slice A n c] 42)).alloc (Obj.cells mv 46)) (Obj.cells #[.int .i64 0, .slice none 0 0] 42)
    rw [World.size_alloc, World.size_alloc] at this
    exact this
def RetTake (w : World) (no : Int) (ps : List Pl) (e : Ending) (w' : World) : Prop := ∃ A n c, e = .returned (.tuple #[.agg #[.int .i64 no, .slice A n c], .int .i64 0]) ∧ Arr w' A n c ps ∧ Below w.heap.size w w'
def RetOld (w : World) (e : Ending) (w' : World) : Prop := e = .returned (.tuple #[.agg #[.int .i64 0, .slice none 0 0], .int .i64 341]) ∧ Below w.heap.size w w'
set_option maxHeartbeats 1000000 in
set_option maxRecDepth 100000 in
theorem take_whole (w : World) (n c : Nat) (A : Option Addr) (ps : List Pl) (cno no : Int) (n1 c1 : Nat) (A1 : Option Addr) (qs : List Pl) (hP : Arr w A n c ps) (hn : n ≤ 64) (hcn : 0 ≤ cno ∧ cno ≤ 1099511627776) (hmn : 1 ≤ no ∧ no ≤ 1099511627776) (hQ : Arr w A1 n1 c1 qs) (hn1 : n1 ≤ 64) (hlt : cno < no) :
    Calls Tryz.prog 13 #[.agg #[.int .i64 cno, .slice A n c], .agg (msgV 1 0 0 no (.slice A1 n1 c1) (.slice none 0 0))] w (RetTake w no qs) := by
  obtain ⟨hb0, hb1, hb2, hal⟩ := take0_boxes w cno A n c (msgV 1 0 0 no (.slice A1 n1 c1) (.slice none 0 0))
  obtain ⟨W0, hW0⟩ : ∃ W0, W0 = take0 w cno A n c (msgV 1 0 0 no (.slice A1 n1 c1) (.slice none 0 0)) := ⟨_, rfl⟩
  rw [← hW0] at hb0 hb1 hb2 hal
  obtain ⟨w1, w2, r1, r2, hbm, r3, r4⟩ := kinds_made W0 (w.heap.size + 1) w.heap.size
  have hb0' := (hbm.block _ (Array.getElem?_eq_some_iff.1 hb0).1).trans hb0
  have hb1' := (hbm.block _ (Array.getElem?_eq_some_iff.1 hb1).1).trans hb1
  have hb2' := (hbm.block _ (Array.getElem?_eq_some_iff.1 hb2).1).trans hb2
  have hal' := below_then hal hbm
  have hlt : w.heap.size + 2 < w2.heap.size := (Array.getElem?_eq_some_iff.1 hb2').1
  have C1 : Hid (∀ W, Calls Tryz.prog 30 #[.int .i64 cno, .int .i64 0, .int .i64 1099511627776] W (RetBoolSame W true)) := Lib.hid (fun W => by
    have := fwithin_any cno 0 1099511627776 W
    rwa [show (decide ((0 : Int) ≤ cno) && decide (cno ≤ 1099511627776)) = true by simp; omega] at this)
  have C2 : Hid (∀ W, Calls Tryz.prog 30 #[.int .i64 no, .int .i64 1, .int .i64 1099511627776] W (RetBoolSame W true)) := Lib.hid (fun W => by
    have := fwithin_any no 1 1099511627776 W
    rwa [show (decide ((1 : Int) ≤ no) && decide (no ≤ 1099511627776)) = true by simp; omega] at this)
  have hd : decide (no ≤ cno) = false := by simp; omega
  have CS := Lib.hid (take1_any w2 (w.heap.size + 1) n1 c1 A1 qs 1 0 0 no (.slice none 0 0) hb1' (hQ.belowLt hal') hn1)
  obtain ⟨⟨y0, y1⟩, hy⟩ := pair_cells hb0'
  obtain ⟨⟨z0, z1, z2, z3, z4, z5⟩, hz⟩ := six_cells hb1'
  obtain ⟨⟨x0, x1⟩, hx⟩ := pair_cells hb2'
  have g0 := hx 0
  have g1 := hx 1
  have HW0 := Lib.hid hW0
  have HAL := Lib.hid hal'
  have HR1 := Lib.hid r1
  have HR2 := Lib.hid r2
  have HR3 := Lib.hid r3
  have HR4 := Lib.hid r4
  have HB2 := Lib.hid hb2'
  have HB1 := Lib.hid hb1'
  have HLT := Lib.hid hlt
  clear hW0 r1 r2 r3 r4 hb0 hb1 hb2 hb0' hb1' hb2' hal hal' hbm hP hx hy hz hlt hQ
  go_enter Tryz.func13, Tryz.ntmps13
  go_upto_region 1 with (fail)
  rw [show (((w.alloc (Obj.cells #[.int .i64 cno, .slice A n c] 42)).alloc (Obj.cells #[.int .i64 1, .int .i64 0, .int .i64 0, .int .i64 no, .slice A1 n1 c1, .slice none 0 0] 46)).alloc (Obj.cells #[.int .i64 0, .slice none 0 0] 42)) = W0 from HW0.out.symm]
  have r0 : (Instr.makeMap 116 none).run Tryz.prog W0 = .ok (.map (some W0.heap.size)) (W0.alloc (.map #[] 0)) := rfl
  have r1 := HR1.out
  have r2 := HR2.out
  have r3 := HR3.out
  have r4 := HR4.out
  go_upto_region 4 with (fail)
  clear r0 r1 r2 r3 r4
  go_wp2_with (fail)
  (with_reducible refine (C1.out _).mono ?_)
  rintro e w3 ⟨rfl, rfl⟩
  go_wp2_with (fail)
  (with_reducible refine (C2.out _).mono ?_)
  rintro e w3 ⟨rfl, rfl⟩
  go_wp2_with (fail)
  (with_reducible refine CS.out.mono ?_)
  rintro e w4 ⟨A4, n4, c4, rfl, ha4, hb4⟩
  have hw4 := hb4.alloc hb4.size (Obj.cells #[.slice A4 n4 c4] 32)
  have HA4 := Lib.hid (own_below ha4 (alloc_lt (w := w4) (Obj.cells #[.slice A4 n4 c4] 32)) (Nat.le_refl _))
  have k1 := (hw4.block _ (by have := HLT.out; omega)).trans HB1.out
  have k2 := (hw4.block _ HLT.out).trans HB2.out
  have k3 := cell_of_one (heap_alloc_new w4 (Obj.cells #[.slice A4 n4 c4] 32))
  have HBW := Lib.hid (below_then HAL.out hw4)
  have K1 := Lib.hid k1
  have K2 := Lib.hid k2
  clear ha4 hb4 hw4 k1 k2 CS x0 x1 y0 y1 z0 z1 z2 z3 z4 z5 g0 g1
  go_upto_region 10 with (fail)
  obtain ⟨X, hX⟩ : ∃ X, X = w4.heap.size := ⟨_, rfl⟩
  rw [← hX] at k3 ⊢
  clear hX
  generalize (w4.alloc (Obj.cells #[.slice A4 n4 c4] 32)) = W5 at *
  obtain ⟨⟨z0, z1, z2, z3, z4, z5⟩, _⟩ := six_cells K1.out
  obtain ⟨⟨x0, x1⟩, hx⟩ := pair_cells K2.out
  have g0 := hx 0
  have g1 := hx 1
  have f1 := one_put (i := 0) (u := .int .i64 no) K2.out
  have f2 := one_put (i := 1) (u := .slice A4 n4 c4) f1
  obtain ⟨⟨q0, q1⟩, _⟩ := pair_cells f2
  have FIN : Hid (Below w.heap.size w ((W5.setCell ⟨w.heap.size + 2, 0, none⟩ (.int .i64 no)).setCell ⟨w.heap.size + 2, 1, none⟩ (.slice A4 n4 c4))) := Lib.hid ((HBW.out.setCell (by show w.heap.size ≤ w.heap.size + 2; omega) _).setCell (by show w.heap.size ≤ w.heap.size + 2; omega) _)
  have n42 : ∀ (x : Array Value) cs, Obj.cells x 42 (0, 0) ≠ .cells cs 104 (0, 0) := fun x cs e => by injection e; rename_i e1 e2 e3; exact absurd e2 (by decide)
  have hx5 := own_other HA4.out K2.out (n42 _)
  have HA5 : Hid (Arr ((W5.setCell ⟨w.heap.size + 2, 0, none⟩ (.int .i64 no)).setCell ⟨w.heap.size + 2, 1, none⟩ (.slice A4 n4 c4)) A4 n4 c4 qs) := Lib.hid (Arr.of_own (ownsRow_setCell_other (ownsRow_setCell_other HA4.out hx5 _) hx5 _))
  clear f1 f2 hx hx5 n42
  go_wp2_with (fail)
  exact bodyPost_ret (v := .tuple #[.agg #[.int .i64 no, .slice A4 n4 c4], .int .i64 0]) (by simp [results, Tryz.results13, go_sem, q0, q1]) rfl ⟨A4, n4, c4, rfl, HA5.out, FIN.out⟩
end Go.Proofs.YtpncejdamjbnlaaGreatDoor
end
section
namespace Go.Proofs.YtpncejdamjbnlaaGreatDoor
open Go.RowKit Jour
set_option maxHeartbeats 1000000 in
set_option maxRecDepth 100000 in
theorem take_moves (w : World) (n c : Nat) (A : Option Addr) (ps : List Pl) (cno no : Int) (n1 c1 : Nat) (A1 : Option Addr) (ms : List Mv) (qs : List Pl) (hP : Arr w A n c ps) (hn : n ≤ 64) (hcn : 0 ≤ cno ∧ cno ≤ 1099511627776) (hmn : 1 ≤ no ∧ no ≤ 1099511627776) (hQ : Arr w A1 n1 c1 ms) (hn1 : n1 ≤ 64) (hap : Feed.apply (-1) ps ms = some qs) (hlt : cno < no) :
    Calls Tryz.prog 13 #[.agg #[.int .i64 cno, .slice A n c], .agg (msgV 2 0 cno no (.slice none 0 0) (.slice A1 n1 c1))] w (RetTake w no qs) := by
  obtain ⟨hb0, hb1, hb2, hal⟩ := take0_boxes w cno A n c (msgV 2 0 cno no (.slice none 0 0) (.slice A1 n1 c1))
  obtain ⟨W0, hW0⟩ : ∃ W0, W0 = take0 w cno A n c (msgV 2 0 cno no (.slice none 0 0) (.slice A1 n1 c1)) := ⟨_, rfl⟩
  rw [← hW0] at hb0 hb1 hb2 hal
  obtain ⟨w1, w2, r1, r2, hbm, r3, r4⟩ := kinds_made W0 (w.heap.size + 1) w.heap.size
  have hb0' := (hbm.block _ (Array.getElem?_eq_some_iff.1 hb0).1).trans hb0
  have hb1' := (hbm.block _ (Array.getElem?_eq_some_iff.1 hb1).1).trans hb1
  have hb2' := (hbm.block _ (Array.getElem?_eq_some_iff.1 hb2).1).trans hb2
  have hal' := below_then hal hbm
  have hlt : w.heap.size + 2 < w2.heap.size := (Array.getElem?_eq_some_iff.1 hb2').1
  have C1 : Hid (∀ W, Calls Tryz.prog 30 #[.int .i64 cno, .int .i64 0, .int .i64 1099511627776] W (RetBoolSame W true)) := Lib.hid (fun W => by
    have := fwithin_any cno 0 1099511627776 W
    rwa [show (decide ((0 : Int) ≤ cno) && decide (cno ≤ 1099511627776)) = true by simp; omega] at this)
  have C2 : Hid (∀ W, Calls Tryz.prog 30 #[.int .i64 no, .int .i64 1, .int .i64 1099511627776] W (RetBoolSame W true)) := Lib.hid (fun W => by
    have := fwithin_any no 1 1099511627776 W
    rwa [show (decide ((1 : Int) ≤ no) && decide (no ≤ 1099511627776)) = true by simp; omega] at this)
  have hd : decide (no ≤ cno) = false := by simp; omega
  have CS := Lib.hid (take2_any w2 (w.heap.size + 1) w.heap.size n c n1 c1 A A1 ps qs ms 2 0 no cno (.slice none 0 0) hb1' hb0' (hP.belowLt hal') (hQ.belowLt hal') hn hn1 hap)
  obtain ⟨⟨y0, y1⟩, hy⟩ := pair_cells hb0'
  obtain ⟨⟨z0, z1, z2, z3, z4, z5⟩, hz⟩ := six_cells hb1'
  obtain ⟨⟨x0, x1⟩, hx⟩ := pair_cells hb2'
  have g0 := hx 0
  have g1 := hx 1
  have HW0 := Lib.hid hW0
  have HAL := Lib.hid hal'
  have HR1 := Lib.hid r1
  have HR2 := Lib.hid r2
  have HR3 := Lib.hid r3
  have HR4 := Lib.hid r4
  have HB2 := Lib.hid hb2'
  have HB1 := Lib.hid hb1'
  have HLT := Lib.hid hlt
  clear hW0 r1 r2 r3 r4 hb0 hb1 hb2 hb0' hb1' hb2' hal hal' hbm hP hx hy hz hlt hQ hap
  go_enter Tryz.func13, Tryz.ntmps13
  go_upto_region 1 with (fail)
  rw [show (((w.alloc (Obj.cells #[.int .i64 cno, .slice A n c] 42)).alloc (Obj.cells #[.int .i64 2, .int .i64 0, .int .i64 cno, .int .i64 no, .slice none 0 0, .slice A1 n1 c1] 46)).alloc (Obj.cells #[.int .i64 0, .slice none 0 0] 42)) = W0 from HW0.out.symm]
  have r0 : (Instr.makeMap 116 none).run Tryz.prog W0 = .ok (.map (some W0.heap.size)) (W0.alloc (.map #[] 0)) := rfl
  have r1 := HR1.out
  have r2 := HR2.out
  have r3 := HR3.out
  have r4 := HR4.out
  go_upto_region 4 with (fail)
  clear r0 r1 r2 r3 r4
  go_wp2_with (fail)
  (with_reducible refine (C1.out _).mono ?_)
  rintro e w3 ⟨rfl, rfl⟩
  go_wp2_with (fail)
  (with_reducible refine (C2.out _).mono ?_)
  rintro e w3 ⟨rfl, rfl⟩
  go_wp2_with (fail)
  (with_reducible refine CS.out.mono ?_)
  rintro e w4 ⟨A4, n4, c4, rfl, ha4, hb4⟩
  have hw4 := hb4.alloc hb4.size (Obj.cells #[.slice A4 n4 c4] 32)
  have HA4 := Lib.hid (own_below ha4 (alloc_lt (w := w4) (Obj.cells #[.slice A4 n4 c4] 32)) (Nat.le_refl _))
  have k1 := (hw4.block _ (by have := HLT.out; omega)).trans HB1.out
  have k2 := (hw4.block _ HLT.out).trans HB2.out
  have k3 := cell_of_one (heap_alloc_new w4 (Obj.cells #[.slice A4 n4 c4] 32))
  have HBW := Lib.hid (below_then HAL.out hw4)
  have K1 := Lib.hid k1
  have K2 := Lib.hid k2
  clear ha4 hb4 hw4 k1 k2 CS x0 x1 y0 y1 z0 z1 z2 z3 z4 z5 g0 g1
  go_upto_region 10 with (fail)
  obtain ⟨X, hX⟩ : ∃ X, X = w4.heap.size := ⟨_, rfl⟩
  rw [← hX] at k3 ⊢
  clear hX
  generalize (w4.alloc (Obj.cells #[.slice A4 n4 c4] 32)) = W5 at *
  obtain ⟨⟨z0, z1, z2, z3, z4, z5⟩, _⟩ := six_cells K1.out
  obtain ⟨⟨x0, x1⟩, hx⟩ := pair_cells K2.out
  have g0 := hx 0
  have g1 := hx 1
  have f1 := one_put (i := 0) (u := .int .i64 no) K2.out
  have f2 := one_put (i := 1) (u := .slice A4 n4 c4) f1
  obtain ⟨⟨q0, q1⟩, _⟩ := pair_cells f2
  have FIN : Hid (Below w.heap.size w ((W5.setCell ⟨w.heap.size + 2, 0, none⟩ (.int .i64 no)).setCell ⟨w.heap.size + 2, 1, none⟩ (.slice A4 n4 c4))) := Lib.hid ((HBW.out.setCell (by show w.heap.size ≤ w.heap.size + 2; omega) _).setCell (by show w.heap.size ≤ w.heap.size + 2; omega) _)
  have n42 : ∀ (x : Array Value) cs, Obj.cells x 42 (0, 0) ≠ .cells cs 104 (0, 0) := fun x cs e => by injection e; rename_i e1 e2 e3; exact absurd e2 (by decide)
  have hx5 := own_other HA4.out K2.out (n42 _)
  have HA5 : Hid (Arr ((W5.setCell ⟨w.heap.size + 2, 0, none⟩ (.int .i64 no)).setCell ⟨w.heap.size + 2, 1, none⟩ (.slice A4 n4 c4)) A4 n4 c4 qs) := Lib.hid (Arr.of_own (ownsRow_setCell_other (ownsRow_setCell_other HA4.out hx5 _) hx5 _))
  clear f1 f2 hx hx5 n42
  go_wp2_with (fail)
  exact bodyPost_ret (v := .tuple #[.agg #[.int .i64 no, .slice A4 n4 c4], .int .i64 0]) (by simp [results, Tryz.results13, go_sem, q0, q1]) rfl ⟨A4, n4, c4, rfl, HA5.out, FIN.out⟩
set_option maxHeartbeats 1000000 in
set_option maxRecDepth 100000 in
theorem take_old1 (w : World) (n c : Nat) (A : Option Addr) (ps : List Pl) (cno no : Int) (n1 c1 : Nat) (A1 : Option Addr) (hP : Arr w A n c ps) (hn : n ≤ 64) (hcn : 0 ≤ cno ∧ cno ≤ 1099511627776) (hmn : 1 ≤ no ∧ no ≤ 1099511627776) (hle : no ≤ cno) :
    Calls Tryz.prog 13 #[.agg #[.int .i64 cno, .slice A n c], .agg (msgV 1 0 0 no (.slice A1 n1 c1) (.slice none 0 0))] w (RetOld w) := by
  obtain ⟨hb0, hb1, hb2, hal⟩ := take0_boxes w cno A n c (msgV 1 0 0 no (.slice A1 n1 c1) (.slice none 0 0))
  obtain ⟨W0, hW0⟩ : ∃ W0, W0 = take0 w cno A n c (msgV 1 0 0 no (.slice A1 n1 c1) (.slice none 0 0)) := ⟨_, rfl⟩
  rw [← hW0] at hb0 hb1 hb2 hal
  obtain ⟨w1, w2, r1, r2, hbm, r3, r4⟩ := kinds_made W0 (w.heap.size + 1) w.heap.size
  have hb0' := (hbm.block _ (Array.getElem?_eq_some_iff.1 hb0).1).trans hb0
  have hb1' := (hbm.block _ (Array.getElem?_eq_some_iff.1 hb1).1).trans hb1
  have hb2' := (hbm.block _ (Array.getElem?_eq_some_iff.1 hb2).1).trans hb2
  have hal' := below_then hal hbm
  have hlt : w.heap.size + 2 < w2.heap.size := (Array.getElem?_eq_some_iff.1 hb2').1
  have C1 : Hid (∀ W, Calls Tryz.prog 30 #[.int .i64 cno, .int .i64 0, .int .i64 1099511627776] W (RetBoolSame W true)) := Lib.hid (fun W => by
    have := fwithin_any cno 0 1099511627776 W
    rwa [show (decide ((0 : Int) ≤ cno) && decide (cno ≤ 1099511627776)) = true by simp; omega] at this)
  have C2 : Hid (∀ W, Calls Tryz.prog 30 #[.int .i64 no, .int .i64 1, .int .i64 1099511627776] W (RetBoolSame W true)) := Lib.hid (fun W => by
    have := fwithin_any no 1 1099511627776 W
    rwa [show (decide ((1 : Int) ≤ no) && decide (no ≤ 1099511627776)) = true by simp; omega] at this)
  have hd : decide (no ≤ cno) = true := by simp; omega
  obtain ⟨⟨y0, y1⟩, hy⟩ := pair_cells hb0'
  obtain ⟨⟨z0, z1, z2, z3, z4, z5⟩, hz⟩ := six_cells hb1'
  obtain ⟨⟨x0, x1⟩, hx⟩ := pair_cells hb2'
  have g0 := hx 0
  have g1 := hx 1
  have HW0 := Lib.hid hW0
  have HAL := Lib.hid hal'
  have HR1 := Lib.hid r1
  have HR2 := Lib.hid r2
  have HR3 := Lib.hid r3
  have HR4 := Lib.hid r4
  have HB2 := Lib.hid hb2'
  have HB1 := Lib.hid hb1'
  have HLT := Lib.hid hlt
  clear hW0 r1 r2 r3 r4 hb0 hb1 hb2 hb0' hb1' hb2' hal hal' hbm hP hx hy hz hlt
  go_enter Tryz.func13, Tryz.ntmps13
  go_upto_region 1 with (fail)
  rw [show (((w.alloc (Obj.cells #[.int .i64 cno, .slice A n c] 42)).alloc (Obj.cells #[.int .i64 1, .int .i64 0, .int .i64 0, .int .i64 no, .slice A1 n1 c1, .slice none 0 0] 46)).alloc (Obj.cells #[.int .i64 0, .slice none 0 0] 42)) = W0 from HW0.out.symm]
  have r0 : (Instr.makeMap 116 none).run Tryz.prog W0 = .ok (.map (some W0.heap.size)) (W0.alloc (.map #[] 0)) := rfl
  have r1 := HR1.out
  have r2 := HR2.out
  have r3 := HR3.out
  have r4 := HR4.out
  go_upto_region 4 with (fail)
  clear r0 r1 r2 r3 r4
  go_wp2_with (fail)
  (with_reducible refine (C1.out _).mono ?_)
  rintro e w3 ⟨rfl, rfl⟩
  go_wp2_with (fail)
  (with_reducible refine (C2.out _).mono ?_)
  rintro e w3 ⟨rfl, rfl⟩
  have k2 := HB2.out
  have f1 := one_put (i := 0) (u := .int .i64 0) k2
  have f2 := one_put (i := 1) (u := .slice none 0 0) f1
  obtain ⟨⟨q0, q1⟩, _⟩ := pair_cells f2
  have FIN : Hid (Below w.heap.size w ((w2.setCell ⟨w.heap.size + 2, 0, none⟩ (.int .i64 0)).setCell ⟨w.heap.size + 2, 1, none⟩ (.slice none 0 0))) := Lib.hid ((HAL.out.setCell (by show w.heap.size ≤ w.heap.size + 2; omega) _).setCell (by show w.heap.size ≤ w.heap.size + 2; omega) _)
  clear f1 f2 k2
  go_wp2_with (fail)
  exact bodyPost_ret (v := .tuple #[.agg #[.int .i64 0, .slice none 0 0], .int .i64 341]) (by simp [results, Tryz.results13, go_sem, q0, q1]) rfl ⟨rfl, FIN.out⟩
set_option maxHeartbeats 1000000 in
set_option maxRecDepth 100000 in
theorem take_old2 (w : World) (n c : Nat) (A : Option Addr) (ps : List Pl) (cno no : Int) (n1 c1 : Nat) (A1 : Option Addr) (from_ : Int) (hP : Arr w A n c ps) (hn : n ≤ 64) (hcn : 0 ≤ cno ∧ cno ≤ 1099511627776) (hmn : 1 ≤ no ∧ no ≤ 1099511627776) (hle : no ≤ cno) :
    Calls Tryz.prog 13 #[.agg #[.int .i64 cno, .slice A n c], .agg (msgV 2 0 from_ no (.slice none 0 0) (.slice A1 n1 c1))] w (RetOld w) := by
  obtain ⟨hb0, hb1, hb2, hal⟩ := take0_boxes w cno A n c (msgV 2 0 from_ no (.slice none 0 0) (.slice A1 n1 c1))
  obtain ⟨W0, hW0⟩ : ∃ W0, W0 = take0 w cno A n c (msgV 2 0 from_ no (.slice none 0 0) (.slice A1 n1 c1)) := ⟨_, rfl⟩
  rw [← hW0] at hb0 hb1 hb2 hal
  obtain ⟨w1, w2, r1, r2, hbm, r3, r4⟩ := kinds_made W0 (w.heap.size + 1) w.heap.size
  have hb0' := (hbm.block _ (Array.getElem?_eq_some_iff.1 hb0).1).trans hb0
  have hb1' := (hbm.block _ (Array.getElem?_eq_some_iff.1 hb1).1).trans hb1
  have hb2' := (hbm.block _ (Array.getElem?_eq_some_iff.1 hb2).1).trans hb2
  have hal' := below_then hal hbm
  have hlt : w.heap.size + 2 < w2.heap.size := (Array.getElem?_eq_some_iff.1 hb2').1
  have C1 : Hid (∀ W, Calls Tryz.prog 30 #[.int .i64 cno, .int .i64 0, .int .i64 1099511627776] W (RetBoolSame W true)) := Lib.hid (fun W => by
    have := fwithin_any cno 0 1099511627776 W
    rwa [show (decide ((0 : Int) ≤ cno) && decide (cno ≤ 1099511627776)) = true by simp; omega] at this)
  have C2 : Hid (∀ W, Calls Tryz.prog 30 #[.int .i64 no, .int .i64 1, .int .i64 1099511627776] W (RetBoolSame W true)) := Lib.hid (fun W => by
    have := fwithin_any no 1 1099511627776 W
    rwa [show (decide ((1 : Int) ≤ no) && decide (no ≤ 1099511627776)) = true by simp; omega] at this)
  have hd : decide (no ≤ cno) = true := by simp; omega
  obtain ⟨⟨y0, y1⟩, hy⟩ := pair_cells hb0'
  obtain ⟨⟨z0, z1, z2, z3, z4, z5⟩, hz⟩ := six_cells hb1'
  obtain ⟨⟨x0, x1⟩, hx⟩ := pair_cells hb2'
  have g0 := hx 0
  have g1 := hx 1
  have HW0 := Lib.hid hW0
  have HAL := Lib.hid hal'
  have HR1 := Lib.hid r1
  have HR2 := Lib.hid r2
  have HR3 := Lib.hid r3
  have HR4 := Lib.hid r4
  have HB2 := Lib.hid hb2'
  have HB1 := Lib.hid hb1'
  have HLT := Lib.hid hlt
  clear hW0 r1 r2 r3 r4 hb0 hb1 hb2 hb0' hb1' hb2' hal hal' hbm hP hx hy hz hlt
  go_enter Tryz.func13, Tryz.ntmps13
  go_upto_region 1 with (fail)
  rw [show (((w.alloc (Obj.cells #[.int .i64 cno, .slice A n c] 42)).alloc (Obj.cells #[.int .i64 2, .int .i64 0, .int .i64 from_, .int .i64 no, .slice none 0 0, .slice A1 n1 c1] 46)).alloc (Obj.cells #[.int .i64 0, .slice none 0 0] 42)) = W0 from HW0.out.symm]
  have r0 : (Instr.makeMap 116 none).run Tryz.prog W0 = .ok (.map (some W0.heap.size)) (W0.alloc (.map #[] 0)) := rfl
  have r1 := HR1.out
  have r2 := HR2.out
  have r3 := HR3.out
  have r4 := HR4.out
  go_upto_region 4 with (fail)
  clear r0 r1 r2 r3 r4
  go_wp2_with (fail)
  (with_reducible refine (C1.out _).mono ?_)
  rintro e w3 ⟨rfl, rfl⟩
  go_wp2_with (fail)
  (with_reducible refine (C2.out _).mono ?_)
  rintro e w3 ⟨rfl, rfl⟩
  have k2 := HB2.out
  have f1 := one_put (i := 0) (u := .int .i64 0) k2
  have f2 := one_put (i := 1) (u := .slice none 0 0) f1
  obtain ⟨⟨q0, q1⟩, _⟩ := pair_cells f2
  have FIN : Hid (Below w.heap.size w ((w2.setCell ⟨w.heap.size + 2, 0, none⟩ (.int .i64 0)).setCell ⟨w.heap.size + 2, 1, none⟩ (.slice none 0 0))) := Lib.hid ((HAL.out.setCell (by show w.heap.size ≤ w.heap.size + 2; omega) _).setCell (by show w.heap.size ≤ w.heap.size + 2; omega) _)
  clear f1 f2 k2
  go_wp2_with (fail)
  exact bodyPost_ret (v := .tuple #[.agg #[.int .i64 0, .slice none 0 0], .int .i64 341]) (by simp [results, Tryz.results13, go_sem, q0, q1]) rfl ⟨rfl, FIN.out⟩
end Go.Proofs.YtpncejdamjbnlaaGreatDoor
end
