/-
  append of one element onto a row of the call's own: the source is a literal of one (a new block).
-/
import Derived.Test.YtelgabamdhaplaaBase
namespace Go.Proofs.Ytelgabamdhaplaa
open Go.RowKit

theorem one_reads (w : World) (e' : TypeId) (u : Value) : Reads (w.alloc (.cells #[u] e')) (fun k => k < w.heap.size + 1) 1 (some ⟨w.heap.size, 0, none⟩) 1 [u] :=
  ⟨by simp, fun _ => ⟨_, rfl, by simp, fun j x hx => by
    match j, hx with
    | 0, hx => simp at hx; subst hx; simp [Addr.add]⟩⟩
theorem grown_alloc_then {w w' : World} {o : Obj} {row : Option Nat} (h : (w.alloc o).grownBy w' row) : w.grownBy w' row :=
  (World.grownBy_alloc w o row).trans h

theorem wpList_append_one {P : Program} (w : World) {ops : Array Oper} {rest : List Oper} {o : Oper} {a : Act} {Q : Exit → Act → World → Prop} (hgd : o.guard = none) (s x : Operand) (t : TypeId)
    (ho : o.op = .call { callee := .builtin .append, args := #[s, x], argTypes := #[t, t] })
    (base : Nat) (e : TypeId) (i : TypeInfo) (z : Value) (bytes : Nat) (ht : P.underlying t = some (.slice e)) (hi : P.info? e = some i) (hz : i.zero = some z)
    (hsize : i.size = 1) (hby : i.bytes = bytes) (hzs : z.cells.size = 1)
    (v : Value) (n : Nat) (xs : List Value) (hs : a.eval s = v) (hown : w.ownsRow base e 1 v n xs) (e' : TypeId) (u : Value) (c : Nat) (h1 : u.oneCell' = true)
    (hx : a.eval x = .slice (some ⟨w.heap.size, 0, none⟩) 1 c)
    (h63 : n + 1 ≤ maxLen) (hbytes : (n + 1) * bytes ≤ 140737488355328) (hbase : base ≤ w.heap.size)
    (h : ∀ A' c' w', w'.ownsRow base e 1 (.slice A' (n + 1) c') (n + 1) (xs ++ [u]) → w.grownBy w' v.ownBlock → (∀ g, (Value.slice A' (n + 1) c').ownBlock = some g → v.ownBlock = some g ∨ w.heap.size ≤ g) → wpList P ops Q rest (a.put o.dst (.slice A' (n + 1) c')) w') :
    wpList P ops Q (o :: rest) a (w.alloc (.cells #[u] e')) := by
  refine wpList_append_any _ hgd s x t ho base e i z 1 bytes ht hi hz hsize hby hzs (by omega) v n xs hs (hown.alloc _) _ _ 1 c [u] hx (one_reads w e' u) (fun y hy => by simp at hy; subst hy; exact h1) h63 hbytes (by simp; omega) ?_
  intro v' w' ho' hg hb
  obtain ⟨A', c', rfl⟩ := own_form ho'
  refine h A' c' w' ho' (grown_alloc_then hg) fun g hgb => ?_
  rcases hb with hb | hb
  · exact .inl (hb ▸ hgb)
  · rw [hb] at hgb
    injection hgb with hgb
    simp at hgb
    exact .inr (by omega)
theorem step_append_one {P : Program} (w : World) {ops : Array Oper} {o : Oper} {a : Act} {K : Act → World → Prop} {Q : Exit → Act → World → Prop} {E : Prop} (hgd : o.guard = none) (s x : Operand) (t : TypeId)
    (ho : o.op = .call { callee := .builtin .append, args := #[s, x], argTypes := #[t, t] })
    (base : Nat) (e : TypeId) (i : TypeInfo) (z : Value) (bytes : Nat) (ht : P.underlying t = some (.slice e)) (hi : P.info? e = some i) (hz : i.zero = some z)
    (hsize : i.size = 1) (hby : i.bytes = bytes) (hzs : z.cells.size = 1)
    (v : Value) (n : Nat) (xs : List Value) (hs : a.eval s = v) (hown : w.ownsRow base e 1 v n xs) (e' : TypeId) (u : Value) (c : Nat) (h1 : u.oneCell' = true)
    (hx : a.eval x = .slice (some ⟨w.heap.size, 0, none⟩) 1 c)
    (h63 : n + 1 ≤ maxLen) (hbytes : (n + 1) * bytes ≤ 140737488355328) (hbase : base ≤ w.heap.size)
    (h : ∀ A' c' w', w'.ownsRow base e 1 (.slice A' (n + 1) c') (n + 1) (xs ++ [u]) → w.grownBy w' v.ownBlock → (∀ g, (Value.slice A' (n + 1) c').ownBlock = some g → v.ownBlock = some g ∨ w.heap.size ≤ g) → K (a.put o.dst (.slice A' (n + 1) c')) w') :
    if Region.wanted o (yielded ops a.tmps) = true then Oper.wp P o a (w.alloc (.cells #[u] e')) K Q else E := by
  refine step_append_any _ hgd s x t ho base e i z 1 bytes ht hi hz hsize hby hzs (by omega) v n xs hs (hown.alloc _) _ _ 1 c [u] hx (one_reads w e' u) (fun y hy => by simp at hy; subst hy; exact h1) h63 hbytes (by simp; omega) ?_
  intro v' w' ho' hg hb
  obtain ⟨A', c', rfl⟩ := own_form ho'
  refine h A' c' w' ho' (grown_alloc_then hg) fun g hgb => ?_
  rcases hb with hb | hb
  · exact .inl (hb ▸ hgb)
  · rw [hb] at hgb
    injection hgb with hgb
    simp at hgb
    exact .inr (by omega)
end Go.Proofs.Ytelgabamdhaplaa
