/-
  A MAP WITH KEYS OF TYPE int, WHATEVER ITS ELEMENTS: block b of the world is a map that holds f.
-/
import Derived.Test.YtelgabamdhaplaaAppend
import Derived.Maps.Own
import Derived.Maps.OwnOps
import Derived.Maps.Views
namespace Go.Proofs.Ytelgabamdhaplaa
open Go.RowKit Go.Maps

/-- How an element reads: as itself. -/
def asIs (v : Value) : Option (DataW Value × List MemPlace) := some (.held v, [])
/-- Block b of w is a map of at most n entries; key k holds f k. -/
def VMap (w : World) (b n : Nat) (f : Int → Option Value) : Prop :=
  ∃ D : DataW Value, w.ownsMap Try.prog 3 asIs b n D ∧ IsMap D ∧ ∀ (k : Int) (z : Value), (Lit.int .i64 k).wf = true → D.atKey (.int .i64 k) (.held z) = .held ((f k).getD z)
def upd (f : Int → Option Value) (k : Int) (v : Value) : Int → Option Value := fun j => if j = k then some v else f j

theorem ikey : Keyed Try.prog 3 := int_keyed Try.underlying3
theorem VMap.made (w : World) : VMap (w.alloc (.map #[] 0)) w.heap.size 0 (fun _ => none) :=
  ⟨.map [], World.ownsMap_made w _ _ _, isMap_empty, fun _ _ _ => rfl⟩
theorem VMap.mono {w : World} {b n n' : Nat} {f : Int → Option Value} (h : VMap w b n f) (hn : n ≤ n') : VMap w b n' f := by
  obtain ⟨D, h1, h2, h3⟩ := h
  exact ⟨D, h1.mono hn, h2, h3⟩
theorem VMap.lt {w : World} {b n : Nat} {f : Int → Option Value} (h : VMap w b n f) : b < w.heap.size := by
  obtain ⟨D, h1, _⟩ := h
  exact h1.lt
theorem VMap.keep {w w' : World} {b n : Nat} {f : Int → Option Value} (h : VMap w b n f) (hk : w'.heap[b]? = w.heap[b]?) : VMap w' b n f := by
  obtain ⟨D, ⟨es, clock, hb, h1⟩, h2⟩ := h
  exact ⟨D, ⟨es, clock, hk.trans hb, h1⟩, h2⟩
theorem VMap.ext {w : World} {b n : Nat} {f g : Int → Option Value} (h : VMap w b n f) (hfg : ∀ k, f k = g k) : VMap w b n g := by
  obtain rfl : f = g := funext hfg
  exact h
theorem int_key {k : Int} (h : (Lit.int .i64 k).wf = true) : keyOf Try.prog 3 (.int .i64 k) = some (.int .i64 k) := keyOf_int_mk Try.underlying3 h
theorem VMap.lookup {w : World} {b n : Nat} {f : Int → Option Value} (h : VMap w b n f) {t e : TypeId} (ht : Try.prog.underlying t = some (.map 3 e)) {z : Value} (hz : (zeroValue e).run Try.prog w = .ok z w)
    {k : Int} (hk : (Lit.int .i64 k).wf = true) : (Instr.lookup t (.map (some b)) (.int .i64 k) false).run Try.prog w = .ok ((f k).getD z) w := by
  obtain ⟨D, h1, _, h3⟩ := h
  obtain ⟨v, ps, hrun, hv⟩ := h1.lookup ikey ht hz (zd := .held z) (zp := []) rfl (int_key hk)
  rw [h3 k z hk] at hv
  simp only [asIs, Option.some.injEq, Prod.mk.injEq, DataW.held.injEq] at hv
  rw [hrun, hv.1]
theorem VMap.update {w : World} {b n : Nat} {f : Int → Option Value} (h : VMap w b n f) {t e : TypeId} (ht : Try.prog.underlying t = some (.map 3 e)) (hn : n < maxLen) {k : Int} (hk : (Lit.int .i64 k).wf = true) (v : Value) :
    ∃ w', (Instr.mapUpdate t (.map (some b)) (.int .i64 k) v).run Try.prog w = .ok () w' ∧ VMap w' b (n + 1) (upd f k v) ∧ w.grownBy w' (some b) := by
  obtain ⟨D, h1, h2, h3⟩ := h
  obtain ⟨w', hrun, ho, hg⟩ := h1.update ikey ht hn (d := .held v) (ps := []) (int_key hk) rfl
  refine ⟨w', hrun, ⟨_, ho, h2.put _ _, fun j z hj => ?_⟩, hg⟩
  unfold upd
  by_cases hjk : j = k
  · subst hjk
    rw [if_pos rfl, atKey_put_same h2 (by simp [WideAt.IsKeyLit])]; rfl
  · rw [if_neg hjk, atKey_put_other (by simpa using hjk)]
    exact h3 j z hj
/-- 'm[k] = v' at the operation, for the walk. -/
theorem wpList_vmap_update (w : World) {ops : Array Oper} {rest : List Oper} {o : Oper} {a : Act} {Q : Exit → Act → World → Prop}
    (hg : o.guard = none) (m x y : Operand) (t : TypeId) (hop : o.op = Op.mapUpdate t m x y ∨ o.op = Op.insert t m x y) (e : TypeId) (ht : Try.prog.underlying t = some (.map 3 e))
    (b n : Nat) (f : Int → Option Value) (h : VMap w b n f) (hn : n < maxLen) (k : Int) (v : Value) (hm : a.eval m = .map (some b)) (hx : a.eval x = .int .i64 k) (hy : a.eval y = v) (hk : (Lit.int .i64 k).wf = true)
    (hK : ∀ w', VMap w' b (n + 1) (upd f k v) → w.grownBy w' (some b) → wpList Try.prog ops Q rest (a.put o.dst undef) w') : wpList Try.prog ops Q (o :: rest) a w := by
  refine wpList_plain hg fun K' hK' => ?_
  obtain ⟨w', hrun, r1, r2⟩ := h.update ht hn hk v
  unfold Oper.wp
  rcases hop with hop | hop <;> simp [execOp, hop, hm, hx, hy, hrun, Result.andThen] <;> exact hK' _ _ (hK w' r1 r2)
theorem bool_zero (w : World) : (zeroValue 4).run Try.prog w = .ok (.bool false) w := by kernel_rfl
end Go.Proofs.Ytelgabamdhaplaa
