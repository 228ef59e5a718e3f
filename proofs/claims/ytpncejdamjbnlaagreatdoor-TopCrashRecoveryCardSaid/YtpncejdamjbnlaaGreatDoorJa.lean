/-
  A part of the proof of TopCrashRecovery: walks of the functions that the law calls.
-/
import Derived.Test.YtpncejdamjbnlaaGreatDoorYa
import Derived.Test.YtpncejdamjbnlaaGreatDoorProg
import Derived.WalkKit
import Derived.WalkSpells
import Derived.ProofKit
import Derived.OpenShut
import Derived.Lib.Hide
import Derived.Lib.SliceRun
import Derived.Below
import Derived.Laws.OwnMore
import Derived.Laws.Rows
import Derived.Laws.BitsAllLaws
import Derived.Deep.AppendLies
import Derived.Deep.Draws
import Derived.Maps.AppendAt
import Derived.RegionTactic
import Derived.OwnWalk
import Derived.Outline
import Derived.OneCell
import Derived.LoopN
import Derived.BigQuiet
import Derived.Deep.QuietTactic
import Derived.Deep.RegionHeld3
import Derived.Deep.DeepMust
import Derived.Deep.CutRange
import Derived.Deep.DeepCutAuto
import Derived.Lib.AppendZeros
set_option linter.all false
section
namespace Go.Proofs.YtpncejdamjbnlaaGreatDoor
open Go.RowKit
theorem block_of_add (a : Addr) (n : Nat) : (a.add n).block = a.block := by unfold Addr.add; split <;> rfl
theorem add_of_add (a : Addr) (i j : Nat) : (a.add i).add j = a.add (i + j) := by
  unfold Addr.add
  by_cases hi : i = 0 <;> by_cases hj : j = 0 <;> simp [hi, hj, Nat.add_assoc]
theorem add_zero (a : Addr) : a.add 0 = a := by simp [Addr.add]
theorem ret_bool {a b : Bool} (h : a = b) : Ending.returned (.bool a) = .returned (.bool b) := by rw [h]
def Reads (w : World) (S : Nat → Prop) (size : Nat) (A : Option Addr) (n : Nat) (xs : List Value) : Prop :=
  xs.length = n * size ∧ (0 < n → ∃ ad, A = some ad ∧ S ad.block ∧ ∀ j u, xs[j]? = some u → w.cell? (ad.add j) = some u)
section
variable {w w' : World} {S S' : Nat → Prop} {size n : Nat} {A : Option Addr} {xs : List Value}
theorem Reads.none_ : Reads w S size A 0 [] := ⟨by simp, fun h => absurd h (by omega)⟩
theorem Reads.at_ {k : Nat} (h : Reads w S 1 A n xs) (hk : k < n) : ∃ ad u, A = some ad ∧ S ad.block ∧ xs[k]? = some u ∧ w.cell? (ad.add k) = some u := by
  obtain ⟨ad, e, hb, hc⟩ := h.2 (by omega)
  have hl : k < xs.length := by have := h.1; omega
  exact ⟨ad, xs[k], e, hb, List.getElem?_eq_getElem hl, hc k _ (List.getElem?_eq_getElem hl)⟩
theorem Reads.keep' (h : Reads w S size A n xs) (hk : ∀ p : Addr, S p.block → w'.cell? p = w.cell? p) (hS : ∀ k, S k → S' k) : Reads w' S' size A n xs :=
  ⟨h.1, fun hn => by
    obtain ⟨ad, e, hb, hc⟩ := h.2 hn
    exact ⟨ad, e, hS _ hb, fun j u hu => (hk _ (by rw [block_of_add]; exact hb)).trans (hc j u hu)⟩⟩
theorem Reads.keep (h : Reads w S size A n xs) (hk : ∀ p : Addr, S p.block → w'.cell? p = w.cell? p) : Reads w' S size A n xs := h.keep' hk fun _ h => h
theorem Reads.more (h : Reads w S size A n xs) (hS : ∀ k, S k → S' k) : Reads w S' size A n xs := h.keep' (fun _ _ => rfl) hS
theorem Reads.of_own {base : Nat} {e : TypeId} {c : Nat} (h : w.ownsRow base e size (.slice A n c) n xs) : Reads w (fun k => base ≤ k ∧ k < w.heap.size) size A n xs := by
  refine ⟨h.1, fun hn => ?_⟩
  obtain ⟨g, cap, hv, hb, hlt⟩ := h.form hn
  have hA : A = some ⟨g, 0, none⟩ := by injection hv
  subst hA
  exact ⟨_, rfl, ⟨hb, hlt⟩, h.cells (g := g) rfl⟩
end
section
variable {P : Program} (w : World)
theorem run_append_of_nil (base : Nat) (t ty e : TypeId) (i : TypeInfo) (size : Nat) (ht : P.underlying t = some (.slice e)) (hi : P.info? e = some i)
    (v : Value) (n : Nat) (xs : List Value) (hown : w.ownsRow base e size v n xs) (c : Nat) : (Builtin.append_ #[t, t] ty #[v, .slice none 0 c]).run P w = .ok v w := by
  rcases hown.2 with ⟨rfl, rfl⟩ | ⟨g, cap, cur, rfl, _, _, hnc, _⟩
  · simp [Builtin.append_, run_underlying ht, sizeOf, typeInfo, hi, Builtin.lenOf, Builtin.firstCells]
  · simp [Builtin.append_, run_underlying ht, sizeOf, typeInfo, hi, Builtin.lenOf, Builtin.firstCells, hnc, storeCells]
theorem run_append_any (base : Nat) (t ty e : TypeId) (i : TypeInfo) (z : Value) (size bytes : Nat) (ht : P.underlying t = some (.slice e)) (hi : P.info? e = some i) (hz : i.zero = some z)
    (hsize : i.size = size) (hby : i.bytes = bytes) (hzs : z.cells.size = size) (hsz : 0 < size)
    (v : Value) (n : Nat) (xs : List Value) (hown : w.ownsRow base e size v n xs)
    (S : Nat → Prop) (A : Option Addr) (m c : Nat) (news : List Value) (hr : Reads w S size A m news) (h1 : ∀ u ∈ news, u.oneCell' = true)
    (h63 : n + m ≤ maxLen) (hbytes : (n + m) * bytes ≤ 140737488355328) (hbase : base ≤ w.heap.size) :
    ∃ v' w', (Builtin.append_ #[t, t] ty #[v, .slice A m c]).run P w = .ok v' w' ∧ w'.ownsRow base e size v' (n + m) (xs ++ news) ∧ w.grownBy w' v.ownBlock ∧
      (v'.ownBlock = v.ownBlock ∨ v'.ownBlock = some w.heap.size) := by
  rcases A with _ | ad
  · have hm : m = 0 := by
      rcases Nat.eq_zero_or_pos m with h0 | h0
      · exact h0
      · obtain ⟨ad, h, _⟩ := hr.2 h0
        cases h
    subst hm
    have hn : news = [] := List.eq_nil_of_length_eq_zero (by simpa using hr.1)
    subst hn
    exact ⟨v, w, run_append_of_nil w base t ty e i size ht hi v n xs hown c, by simpa using hown, World.grownBy.refl w _, .inl rfl⟩
  · have hcells : ∀ j u, news[j]? = some u → w.cell? (ad.add j) = some u := by
      intro j u hu
      rcases Nat.eq_zero_or_pos m with h0 | h0
      · subst h0
        have hn : news = [] := List.eq_nil_of_length_eq_zero (by simpa using hr.1)
        subst hn
        simp at hu
      · obtain ⟨ad', h, _, hc⟩ := hr.2 h0
        injection h with h
        subst h
        exact hc j u hu
    obtain ⟨v', w', hrun, h2, h3, _, h5⟩ := run_append_own_at (P := P) w base t ty e i z size bytes ht hi hz hsize hby hzs hsz v n xs hown ad m c news hr.1 hcells h1 h63 hbytes hbase
    exact ⟨v', w', hrun, h2, h3, h5⟩
theorem wp_append_any {o : Oper} {a : Act} {K : Act → World → Prop} {Q : Exit → Act → World → Prop} (s x : Operand) (t : TypeId)
    (ho : o.op = .call { callee := .builtin .append, args := #[s, x], argTypes := #[t, t] })
    (base : Nat) (e : TypeId) (i : TypeInfo) (z : Value) (size bytes : Nat) (ht : P.underlying t = some (.slice e)) (hi : P.info? e = some i) (hz : i.zero = some z)
    (hsize : i.size = size) (hby : i.bytes = bytes) (hzs : z.cells.size = size) (hsz : 0 < size)
    (v : Value) (n : Nat) (xs : List Value) (hs : a.eval s = v) (hown : w.ownsRow base e size v n xs)
    (S : Nat → Prop) (A : Option Addr) (m c : Nat) (news : List Value) (hx : a.eval x = .slice A m c) (hr : Reads w S size A m news) (h1 : ∀ u ∈ news, u.oneCell' = true)
    (h63 : n + m ≤ maxLen) (hbytes : (n + m) * bytes ≤ 140737488355328) (hbase : base ≤ w.heap.size)
    (h : ∀ v' w', w'.ownsRow base e size v' (n + m) (xs ++ news) → w.grownBy w' v.ownBlock → (v'.ownBlock = v.ownBlock ∨ v'.ownBlock = some w.heap.size) → K (a.put o.dst v') w') : o.wp P a w K Q := by
  obtain ⟨v', w', hrun, h2, h3, h4⟩ := run_append_any (P := P) w base t o.type e i z size bytes ht hi hz hsize hby hzs hsz v n xs hown S A m c news hr h1 h63 hbytes hbase
  unfold Oper.wp execOp
  simp only [ho, resolve, invoke, builtin, Sem.run_bind, Sem.run_pure, Result.andThen_ok, List.map_toArray, List.map_cons, List.map_nil, hs, hx, hrun]
  exact h v' w' h2 h3 h4
theorem wpList_append_any {ops : Array Oper} {rest : List Oper} {o : Oper} {a : Act} {Q : Exit → Act → World → Prop} (hgd : o.guard = none) (s x : Operand) (t : TypeId)
    (ho : o.op = .call { callee := .builtin .append, args := #[s, x], argTypes := #[t, t] })
    (base : Nat) (e : TypeId) (i : TypeInfo) (z : Value) (size bytes : Nat) (ht : P.underlying t = some (.slice e)) (hi : P.info? e = some i) (hz : i.zero = some z)
    (hsize : i.size = size) (hby : i.bytes = bytes) (hzs : z.cells.size = size) (hsz : 0 < size)
    (v : Value) (n : Nat) (xs : List Value) (hs : a.eval s = v) (hown : w.ownsRow base e size v n xs)
    (S : Nat → Prop) (A : Option Addr) (m c : Nat) (news : List Value) (hx : a.eval x = .slice A m c) (hr : Reads w S size A m news) (h1 : ∀ u ∈ news, u.oneCell' = true)
    (h63 : n + m ≤ maxLen) (hbytes : (n + m) * bytes ≤ 140737488355328) (hbase : base ≤ w.heap.size)
    (h : ∀ v' w', w'.ownsRow base e size v' (n + m) (xs ++ news) → w.grownBy w' v.ownBlock → (v'.ownBlock = v.ownBlock ∨ v'.ownBlock = some w.heap.size) → wpList P ops Q rest (a.put o.dst v') w') : wpList P ops Q (o :: rest) a w :=
  wpList_plain hgd fun _ hK => wp_append_any w s x t ho base e i z size bytes ht hi hz hsize hby hzs hsz v n xs hs hown S A m c news hx hr h1 h63 hbytes hbase fun v' w' h2 h3 h4 => hK _ _ (h v' w' h2 h3 h4)
theorem step_append_any {ops : Array Oper} {o : Oper} {a : Act} {K : Act → World → Prop} {Q : Exit → Act → World → Prop} {E : Prop} (hgd : o.guard = none) (s x : Operand) (t : TypeId)
    (ho : o.op = .call { callee := .builtin .append, args := #[s, x], argTypes := #[t, t] })
    (base : Nat) (e : TypeId) (i : TypeInfo) (z : Value) (size bytes : Nat) (ht : P.underlying t = some (.slice e)) (hi : P.info? e = some i) (hz : i.zero = some z)
    (hsize : i.size = size) (hby : i.bytes = bytes) (hzs : z.cells.size = size) (hsz : 0 < size)
    (v : Value) (n : Nat) (xs : List Value) (hs : a.eval s = v) (hown : w.ownsRow base e size v n xs)
    (S : Nat → Prop) (A : Option Addr) (m c : Nat) (news : List Value) (hx : a.eval x = .slice A m c) (hr : Reads w S size A m news) (h1 : ∀ u ∈ news, u.oneCell' = true)
    (h63 : n + m ≤ maxLen) (hbytes : (n + m) * bytes ≤ 140737488355328) (hbase : base ≤ w.heap.size)
    (h : ∀ v' w', w'.ownsRow base e size v' (n + m) (xs ++ news) → w.grownBy w' v.ownBlock → (v'.ownBlock = v.ownBlock ∨ v'.ownBlock = some w.heap.size) → K (a.put o.dst v') w') :
    if Region.wanted o (yielded ops a.tmps) = true then Oper.wp P o a w K Q else E := by
  have hw : Region.wanted o (yielded ops a.tmps) = true := by simp [Region.wanted, hgd]
  rw [if_pos hw]
  exact wp_append_any w s x t ho base e i z size bytes ht hi hz hsize hby hzs hsz v n xs hs hown S A m c news hx hr h1 h63 hbytes hbase h
end
theorem own_form {w : World} {base size n : Nat} {e : TypeId} {v : Value} {xs : List Value} (h : w.ownsRow base e size v n xs) : ∃ A c, v = .slice A n c := by
  rcases h.2 with ⟨rfl, rfl⟩ | ⟨g, cap, cur, rfl, _⟩
  · exact ⟨_, _, rfl⟩
  · exact ⟨_, _, rfl⟩
theorem own_ne {w : World} {base base' size size' n n' : Nat} {e e' : TypeId} {v v' : Value} {xs xs' : List Value} (h : w.ownsRow base e size v n xs) (h' : w.ownsRow base' e' size' v' n' xs') (hne : e ≠ e') :
    v.ownBlock = none ∨ v.ownBlock ≠ v'.ownBlock := by
  rcases h.2 with ⟨rfl, _⟩ | ⟨g, cap, cur, rfl, _, hh, _⟩
  · exact .inl rfl
  · refine .inr fun he => ?_
    rcases h'.2 with ⟨rfl, _⟩ | ⟨g', cap', cur', rfl, _, hh', _⟩
    · simp [Value.ownBlock] at he
    · have : g = g' := by simpa [Value.ownBlock] using he
      subst this
      rw [hh] at hh'
      injection hh' with hh'
      injection hh' with _ ht
      exact hne ht
theorem own_base {w : World} {base base' size n : Nat} {e : TypeId} {v : Value} {xs : List Value} (h : w.ownsRow base e size v n xs) (hb : base' ≤ base) : w.ownsRow base' e size v n xs := by
  refine ⟨h.1, ?_⟩
  rcases h.2 with hn | ⟨g, cap, cur, hv, hg, r⟩
  · exact .inl hn
  · exact .inr ⟨g, cap, cur, hv, by omega, r⟩
theorem own_below {w w' : World} {B base size n : Nat} {e : TypeId} {v : Value} {xs : List Value} (h : w.ownsRow base e size v n xs) (hb : Below B w w') (hB : w.heap.size ≤ B) : w'.ownsRow base e size v n xs := by
  refine ⟨h.1, ?_⟩
  rcases h.2 with hn | ⟨g, cap, cur, hv, hg, hh, r⟩
  · exact .inl hn
  · exact .inr ⟨g, cap, cur, hv, hg, (hb.block g (by have := (Array.getElem?_eq_some_iff.1 hh).1; omega)).trans hh, r⟩
theorem one_reads (w : World) (e' : TypeId) (u : Value) : Reads (w.alloc (.cells #[u] e')) (fun k => k < w.heap.size + 1) 1 (some ⟨w.heap.size, 0, none⟩) 1 [u] :=
  ⟨by simp, fun _ => ⟨_, rfl, by simp, fun j x hx => by
    match j, hx with
    | 0, hx => simp at hx; subst hx; simp [Addr.add]⟩⟩
theorem grown_alloc_then {w w' : World} {o : Obj} {row : Option Nat} (h : (w.alloc o).grownBy w' row) : w.grownBy w' row :=
  (World.grownBy_alloc w o row).trans h
theorem wpList_append_one {P : Program} (w : World) {ops : Array Oper} {rest : List Oper} {o : Oper} {a : Act} {Q : Exit → Act → World → Prop} (hgd : o.guard = none) (s x : Operand) (t : TypeId)
    (ho : o.op = .call { callee := .builtin .append, args := #[s, x], argTypes := #[t, t] })
    (base : Nat) (e : TypeId) (i : TypeInfo) (z : Value) (bytes : Nat) (ht : P.underlying t = some (.slice e)) (hi : P.info? e = some i) (hz : i.zero = some z)
    (hsize : i.size = 1) (hby : i.bytes = bytes) (hzs : z.cells.size = 1)
    (v : Value) (n : Nat) (xs : List Value) (hs : a.eval s = v) (hown : w.ownsRow base e 1 v n xs) (e' : TypeId) (u : Value) (c : Nat) (h1 : u.oneCell' = true)
    (hx : a.eval x = .slice (some ⟨w.heap.size, 0, none⟩) 1 c)
    (h63 : n + 1 ≤ maxLen) (hbytes : (n + 1) * bytes ≤ 140737488355328) (hbase : base ≤ w.heap.size)
    (h : ∀ A' c' w', w'.ownsRow base e 1 (.slice A' (n + 1) c') (n + 1) (xs ++ [u]) → w.grownBy w' v.ownBlock → (∀ g, (Value.slice A' (n + 1) c').ownBlock = some g → v.ownBlock = some g ∨ w.heap.size ≤ g) → wpList P ops Q rest (a.put o.dst (.slice A' (n + 1) c')) w') :
    wpList P ops Q (o :: rest) a (w.alloc (.cells #[u] e')) := by
  refine wpList_append_any _ hgd s x t ho base e i z 1 bytes ht hi hz hsize hby hzs (by omega) v n xs hs (hown.alloc _) _ _ 1 c [u] hx (one_reads w e' u) (fun y hy => by simp at hy; subst hy; exact h1) h63 hbytes (by simp; omega) ?_
  intro v' w' ho' hg hb
  obtain ⟨A', c', rfl⟩ := own_form ho'
  refine h A' c' w' ho' (grown_alloc_then hg) fun g hgb => ?_
  rcases hb with hb | hb
  · exact .inl (hb ▸ hgb)
  · rw [hb] at hgb
    injection hgb with hgb
    simp at hgb
    exact .inr (by omega)
theorem step_append_one {P : Program} (w : World) {ops : Array Oper} {o : Oper} {a : Act} {K : Act → World → Prop} {Q : Exit → Act → World → Prop} {E : Prop} (hgd : o.guard = none) (s x : Operand) (t : TypeId)
    (ho : o.op = .call { callee := .builtin .append, args := #[s, x], argTypes := #[t, t] })
    (base : Nat) (e : TypeId) (i : TypeInfo) (z : Value) (bytes : Nat) (ht : P.underlying t = some (.slice e)) (hi : P.info? e = some i) (hz : i.zero = some z)
    (hsize : i.size = 1) (hby : i.bytes = bytes) (hzs : z.cells.size = 1)
    (v : Value) (n : Nat) (xs : List Value) (hs : a.eval s = v) (hown : w.ownsRow base e 1 v n xs) (e' : TypeId) (u : Value) (c : Nat) (h1 : u.oneCell' = true)
    (hx : a.eval x = .slice (some ⟨w.heap.size, 0, none⟩) 1 c)
    (h63 : n + 1 ≤ maxLen) (hbytes : (n + 1) * bytes ≤ 140737488355328) (hbase : base ≤ w.heap.size)
    (h : ∀ A' c' w', w'.ownsRow base e 1 (.slice A' (n + 1) c') (n + 1) (xs ++ [u]) → w.grownBy w' v.ownBlock → (∀ g, (Value.slice A' (n + 1) c').ownBlock = some g → v.ownBlock = some g ∨ w.heap.size ≤ g) → K (a.put o.dst (.slice A' (n + 1) c')) w') :
    if Region.wanted o (yielded ops a.tmps) = true then Oper.wp P o a (w.alloc (.cells #[u] e')) K Q else E := by
  refine step_append_any _ hgd s x t ho base e i z 1 bytes ht hi hz hsize hby hzs (by omega) v n xs hs (hown.alloc _) _ _ 1 c [u] hx (one_reads w e' u) (fun y hy => by simp at hy; subst hy; exact h1) h63 hbytes (by simp; omega) ?_
  intro v' w' ho' hg hb
  obtain ⟨A', c', rfl⟩ := own_form ho'
  refine h A' c' w' ho' (grown_alloc_then hg) fun g hgb => ?_
  rcases hb with hb | hb
  · exact .inl (hb ▸ hgb)
  · rw [hb] at hgb
    injection hgb with hgb
    simp at hgb
    exact .inr (by omega)
abbrev Lt (w : World) : Nat → Prop := fun k => k < w.heap.size
theorem alloc_lt {w : World} (o : Obj) : Below w.heap.size w (w.alloc o) := (Below.refl _ _).alloc (Nat.le_refl _) _
theorem below_then {w a b : World} (h : Below w.heap.size w a) (k : Below a.heap.size a b) : Below w.heap.size w b := h.trans (k.mono h.size)
theorem info_parts' {P : Program} {t : TypeId} {z : Value} {s b : Nat} (h : (P.info? t).map (fun i => (i.zero, i.size, i.bytes)) = some (some z, s, b)) : ∃ i, P.info? t = some i ∧ i.zero = some z ∧ i.size = s ∧ i.bytes = b := by
  cases hi : P.info? t with
  | none => rw [hi] at h; cases h
  | some i =>
    rw [hi] at h
    simp at h
    exact ⟨i, rfl, h.1, h.2.1, h.2.2⟩
theorem own_caps {w : World} {base size n c : Nat} {e : TypeId} {A : Option Addr} {xs : List Value} (h : w.ownsRow base e size (.slice A n c) n xs) : n ≤ c ∧ c ≤ maxLen := by
  rcases h.2 with ⟨hv, hn⟩ | ⟨g, cap, cur, hv, _, _, hc, hm, _⟩
  · injection hv with _ _ hcap; subst hn hcap; simp [maxLen]
  · injection hv with _ _ hcap; subst hcap; exact ⟨hc, hm⟩
theorem own_none {w : World} {base size n c : Nat} {e : TypeId} {A : Option Addr} {xs : List Value} (h : w.ownsRow base e size (.slice A n c) n xs) : A = none → c = 0 := by
  rintro rfl
  rcases h.2 with ⟨hv, hn⟩ | ⟨g, cap, cur, hv, _⟩
  · injection hv
  · injection hv with e1; cases e1
class Flat (α : Type) where
  size : Nat
  cells : α → List Value
  len : ∀ x, (cells x).length = size
  pos : 0 < size
  one : ∀ x, ∀ u ∈ cells x, u.oneCell' = true
def flat {α : Type} [Flat α] (xs : List α) : List Value := xs.flatMap Flat.cells
section
variable {α : Type} [Flat α]
theorem flat_append (xs ys : List α) : flat (xs ++ ys) = flat xs ++ flat ys := by simp [flat]
theorem flat_len (xs : List α) : (flat xs).length = xs.length * Flat.size α := by
  induction xs with
  | nil => simp [flat]
  | cons x r ih =>
    have : flat (x :: r) = Flat.cells x ++ flat r := rfl
    rw [this, List.length_append, ih, Flat.len]
    simp only [List.length_cons, Nat.succ_mul]; omega
theorem flat_get {xs : List α} {k : Nat} {x : α} (h : xs[k]? = some x) {j : Nat} (hj : j < Flat.size α) : (flat xs)[k * Flat.size α + j]? = (Flat.cells x)[j]? := by
  induction xs generalizing k with
  | nil => simp at h
  | cons y r ih =>
    have e : flat (y :: r) = Flat.cells y ++ flat r := rfl
    rw [e]
    cases k with
    | zero =>
      simp at h
      subst h
      rw [Nat.zero_mul, Nat.zero_add, List.getElem?_append_left (by rw [Flat.len]; exact hj)]
    | succ k =>
      simp at h
      rw [List.getElem?_append_right (by rw [Flat.len, Nat.succ_mul]; omega), Flat.len, ← ih h]
      congr 1
      rw [Nat.succ_mul]; omega
theorem flat_oneCell (xs : List α) : ∀ u ∈ flat xs, u.oneCell' = true := by
  intro u hu
  obtain ⟨x, _, hx⟩ := List.mem_flatMap.1 hu
  exact Flat.one x u hx
theorem flat_take (xs : List α) (k : Nat) : flat (xs.take k) = (flat xs).take (k * Flat.size α) := by
  induction xs generalizing k with
  | nil => simp [flat]
  | cons x r ih =>
    have e : flat (x :: r) = Flat.cells x ++ flat r := rfl
    cases k with
    | zero => simp [flat]
    | succ k =>
      have e2 : flat ((x :: r).take (k + 1)) = Flat.cells x ++ flat (r.take k) := rfl
      have e3 : k * Flat.size α + Flat.size α - Flat.size α = k * Flat.size α := by omega
      rw [e, e2, ih, List.take_append, Flat.len, Nat.succ_mul, e3, List.take_of_length_le (l := Flat.cells x) (by rw [Flat.len]; omega)]
theorem flat_drop (xs : List α) (k : Nat) : flat (xs.drop k) = (flat xs).drop (k * Flat.size α) := by
  induction xs generalizing k with
  | nil => simp [flat]
  | cons x r ih =>
    have e : flat (x :: r) = Flat.cells x ++ flat r := rfl
    cases k with
    | zero => simp
    | succ k =>
      have e3 : k * Flat.size α + Flat.size α - Flat.size α = k * Flat.size α := by omega
      rw [List.drop_succ_cons, ih, e, List.drop_append, Flat.len, Nat.succ_mul, e3, List.drop_of_length_le (l := Flat.cells x) (by rw [Flat.len]; omega), List.nil_append]
structure Arr (w : World) (A : Option Addr) (n c : Nat) (xs : List α) : Prop where
  len : n = xs.length
  cap : n ≤ c
  max : c ≤ maxLen
  reads : Reads w (Lt w) (Flat.size α) A n (flat xs)
  none_ : A = none → c = 0
variable {w w' : World} {n c : Nat} {A : Option Addr} {xs : List α}
theorem Arr.nil_ : Arr w none 0 0 ([] : List α) := ⟨rfl, by omega, by simp [maxLen], ⟨by simp [flat], fun h => absurd h (by omega)⟩, fun _ => rfl⟩
theorem Arr.belowLt (h : Arr w A n c xs) (hb : Below w.heap.size w w') : Arr w' A n c xs :=
  ⟨h.len, h.cap, h.max, h.reads.keep' (fun _ hp => hb.cell hp) fun _ hk => Nat.lt_of_lt_of_le hk hb.size, h.none_⟩
theorem Arr.of_own {base : Nat} {e : TypeId} (h : w.ownsRow base e (Flat.size α) (.slice A n c) n (flat xs)) : Arr w A n c xs := by
  have hx := own_caps h
  have hl := h.1
  rw [flat_len] at hl
  exact ⟨by have := Flat.pos (α := α); exact (Nat.eq_of_mul_eq_mul_right this hl).symm, hx.1, hx.2, (Reads.of_own h).more fun _ h => h.2, own_none h⟩
theorem Arr.at_ {k : Nat} {x : α} (h : Arr w A n c xs) (hx : xs[k]? = some x) : ∃ ad, A = some ad ∧ ad.block < w.heap.size ∧ ∀ j u, (Flat.cells x)[j]? = some u → w.cell? (ad.add (k * Flat.size α + j)) = some u := by
  have hk : k < xs.length := (List.getElem?_eq_some_iff.1 hx).1
  obtain ⟨ad, e, hb, hc⟩ := h.reads.2 (by have := h.len; omega)
  refine ⟨ad, e, hb, fun j u hu => hc _ _ ?_⟩
  rw [flat_get hx, hu]
  have := (List.getElem?_eq_some_iff.1 hu).1
  rwa [Flat.len] at this
theorem Arr.lt {ad : Addr} (h : Arr w (some ad) n c xs) (hn : 0 < n) : ad.block < w.heap.size := by
  obtain ⟨ad', e, hb, _⟩ := h.reads.2 hn
  cases e
  exact hb
theorem Arr.nil_of_none (h : Arr w none n c xs) : n = 0 ∧ xs = [] := by
  have : n = 0 := by
    rcases Nat.eq_zero_or_pos n with h0 | h0
    · exact h0
    · obtain ⟨ad, e, _⟩ := h.reads.2 h0; cases e
  exact ⟨this, List.eq_nil_of_length_eq_zero (by have := h.len; omega)⟩
theorem Arr.piece (h : Arr w A n c xs) {ad : Addr} (hA : A = some ad) {i j c' : Nat} (hi : i ≤ j) (hj : j ≤ n) (hc : j - i ≤ c') (hm : c' ≤ maxLen) :
    Arr w (some (ad.add (i * Flat.size α))) (j - i) c' ((xs.drop i).take (j - i)) := by
  have hl := h.len
  have hlen : ((xs.drop i).take (j - i)).length = j - i := by simp; omega
  refine ⟨hlen.symm, hc, hm, ⟨by rw [flat_len, hlen], fun hn => ?_⟩, fun e => by cases e⟩
  obtain ⟨ad', e, hb, hcell⟩ := h.reads.2 (by omega)
  rw [hA] at e
  cases e
  refine ⟨_, rfl, by rw [block_of_add]; exact hb, fun q u hu => ?_⟩
  rw [add_of_add]
  refine hcell _ u ?_
  rw [flat_take, flat_drop, List.getElem?_take, List.getElem?_drop] at hu
  split at hu
  · exact hu
  · cases hu
end
def RetArr {α : Type} [Flat α] (t : TypeId) (w : World) (xs : List α) (e : Ending) (w' : World) : Prop := ∃ A n c, e = .returned (.slice A n c) ∧ w'.ownsRow w.heap.size t (Flat.size α) (.slice A n c) n (flat xs) ∧ Below w.heap.size w w'
structure Byte where
  n : Nat
  lt : n < 256
deriving DecidableEq
instance : Flat Byte := ⟨1, fun b => [.int .u8 (b.n : Int)], fun _ => rfl, by decide, fun _ u hu => by simp at hu; subst hu; rfl⟩
abbrev Pl := Int × Int
instance : Flat Pl := ⟨2, fun p => [.int .i64 p.1, .int .i64 p.2], fun _ => rfl, by decide, fun _ u hu => by simp at hu; rcases hu with rfl | rfl <;> rfl⟩
theorem byte_size : Flat.size Byte = 1 := rfl
theorem pl_size : Flat.size Pl = 2 := rfl
theorem Arr.byte {w : World} {A : Option Addr} {n c k : Nat} {bs : List Byte} {x : Byte} (h : Arr w A n c bs) (hx : bs[k]? = some x) : ∃ ad, A = some ad ∧ ad.block < w.heap.size ∧ w.cell? (ad.add k) = some (.int .u8 (x.n : Int)) := by
  obtain ⟨ad, e, hb, hc⟩ := h.at_ hx
  refine ⟨ad, e, hb, ?_⟩
  have := hc 0 _ rfl
  rwa [byte_size, Nat.mul_one, Nat.add_zero] at this
theorem Arr.pl {w : World} {A : Option Addr} {n c k : Nat} {ps : List Pl} {p : Pl} (h : Arr w A n c ps) (hx : ps[k]? = some p) : ∃ ad, A = some ad ∧ ad.block < w.heap.size ∧ w.cell? (ad.add (k * 2)) = some (.int .i64 p.1) ∧ w.cell? ⟨(ad.add (k * 2)).block, (ad.add (k * 2)).off + 1, none⟩ = some (.int .i64 p.2) := by
  obtain ⟨ad, e, hb, hc⟩ := h.at_ hx
  refine ⟨ad, e, hb, hc 0 _ rfl, ?_⟩
  have e1 : (⟨(ad.add (k * 2)).block, (ad.add (k * 2)).off + 1, none⟩ : Addr) = (ad.add (k * 2)).add 1 := rfl
  rw [e1, add_of_add]
  exact hc 1 _ rfl
def B (n : Nat) (h : n < 256) : Byte := ⟨n, h⟩
def nat8 (bs : List Byte) : List Nat := bs.map Byte.n
theorem byte_info : (Tryz.prog.info? 5).map (fun i => (i.zero, i.size, i.bytes)) = some (some (.int .u8 0), 1, 1) := by kernel_rfl
theorem pl_info : (Tryz.prog.info? 104).map (fun i => (i.zero, i.size, i.bytes)) = some (some (.agg #[.int .i64 0, .int .i64 0]), 2, 16) := by kernel_rfl
theorem ret_int {k : IntKind} {a b : Int} (h : a = b) : Ending.returned (.int k a) = .returned (.int k b) := by rw [h]
end Go.Proofs.YtpncejdamjbnlaaGreatDoor
end
section
namespace Go.Proofs.YtpncejdamjbnlaaGreatDoor
open Go.RowKit
structure RowsOf {α : Type} [Flat α] (w : World) (A : Option Addr) (n c : Nat) (css : List (List α)) : Prop where
  len : n = css.length
  cap : n ≤ c
  max : c ≤ maxLen
  rows : ∃ rows : List Value, Reads w (Lt w) 1 A n rows ∧ ∀ (i : Nat) (r : Value), rows[i]? = some r → ∃ A' n' c' cs, r = .slice A' n' c' ∧ css[i]? = some cs ∧ Arr w A' n' c' cs
section
variable {α : Type} [Flat α] {w w' : World} {A : Option Addr} {n c : Nat} {css : List (List α)}
theorem RowsOf.belowLt (h : RowsOf w A n c css) (hb : Below w.heap.size w w') : RowsOf w' A n c css := by
  obtain ⟨h1, h2, h3, rows, hr, hrr⟩ := h
  refine ⟨h1, h2, h3, rows, hr.keep' (fun p hp => hb.cell hp) (fun _ hk => Nat.lt_of_lt_of_le hk hb.size), fun i r hi => ?_⟩
  obtain ⟨A', n', c', cs, e, hcs, hI⟩ := hrr i r hi
  exact ⟨A', n', c', cs, e, hcs, hI.belowLt hb⟩
theorem RowsOf.at_ {k : Nat} {cs : List α} (h : RowsOf w A n c css) (hk : css[k]? = some cs) :
    ∃ ad A' n' c', A = some ad ∧ ad.block < w.heap.size ∧ w.cell? (ad.add k) = some (.slice A' n' c') ∧ Arr w A' n' c' cs := by
  obtain ⟨h1, h2, h3, rows, hr, hrr⟩ := h
  obtain ⟨ad, u, e, hb, hu, hc⟩ := hr.at_ (k := k) (by have := (List.getElem?_eq_some_iff.1 hk).1; omega)
  obtain ⟨A', n', c', cs', rfl, hcs, hI⟩ := hrr k u hu
  rw [hk] at hcs
  cases hcs
  exact ⟨ad, A', n', c', e, hb, hc, hI⟩
end
set_option maxHeartbeats 1000000 in
theorem clone_bytes (w : World) (n c : Nat) (A : Option Addr) (bs : List Byte) (hI : Arr w A n c bs) (hn : n ≤ 1073741824) : Calls Tryz.prog 22 #[.slice A n c] w (RetArr 5 w bs) := by
  obtain ⟨i0, hi0, hz0, hz1, hz2⟩ := info_parts' byte_info
  cases A with
  | none =>
    obtain ⟨rfl, rfl⟩ := hI.nil_of_none
    have hq := Lib.run_eql_slice_nil (P := Tryz.prog) w 24 5 none 0 c 0 0 Tryz.underlying24
    clear hI
    go_enter Tryz.func22, Tryz.ntmps22
    go_wp2
    go_ret
    exact ⟨none, 0, 0, rfl, World.ownsRow_nil _ _ _ _, Below.refl _ _⟩
  | some ad =>
    have hq := Lib.run_eql_slice_nil (P := Tryz.prog) w 24 5 (some ad) n c 0 0 Tryz.underlying24
    have hal := alloc_lt (w := w) (.cells #[] 5)
    have hrd := (hI.belowLt hal).reads
    have hown0 : (w.alloc (.cells #[] 5)).ownsRow w.heap.size 5 1 (.slice (some ⟨w.heap.size, 0, none⟩) 0 0) 0 [] := World.ownsRow_lit w #[] 0 (Nat.le_refl _) (by simp [maxLen]) rfl
    have HAL := Lib.hid hal
    rw [byte_size] at hrd
    clear hI hal
    go_enter Tryz.func22, Tryz.ntmps22
    go_wp2_with (first
      | (at_builtin
         go_must (refine wpList_append_any _ rfl (.tmp 5) (.tmp 6) _ rfl w.heap.size 5 i0 _ 1 1 Tryz.underlying24 hi0 hz0 hz1 hz2 rfl (by omega) (.slice (some ⟨w.heap.size, 0, none⟩) 0 0) 0 [] (by rfl) hown0 _ (some ad) n c _ (by rfl) hrd (flat_oneCell _) (by simp only [maxLen]; omega) (by omega) (by simp) ?_)
         intro v1 w1 hown1 hg1 hat1
         obtain ⟨A1, c1, rfl⟩ := own_form hown1))
    go_ret
    have hb : Below w.heap.size w w1 := HAL.out.grown hg1 (by simp) (by simp [Value.ownBlock])
    rw [Nat.zero_add, List.nil_append] at hown1
    exact ⟨A1, n, c1, rfl, hown1, hb⟩
set_option maxHeartbeats 1000000 in
theorem clone_places (w : World) (n c : Nat) (A : Option Addr) (ps : List Pl) (hI : Arr w A n c ps) (hn : n ≤ 1048576) : Calls Tryz.prog 34 #[.slice A n c] w (RetArr 104 w ps) := by
  obtain ⟨i0, hi0, hz0, hz1, hz2⟩ := info_parts' pl_info
  cases A with
  | none =>
    obtain ⟨rfl, rfl⟩ := hI.nil_of_none
    have hq := Lib.run_eql_slice_nil (P := Tryz.prog) w 30 104 none 0 c 0 0 Tryz.underlying30
    clear hI
    go_enter Tryz.func34, Tryz.ntmps34
    go_wp2
    go_ret
    exact ⟨none, 0, 0, rfl, World.ownsRow_nil _ _ _ _, Below.refl _ _⟩
  | some ad =>
    have hq := Lib.run_eql_slice_nil (P := Tryz.prog) w 30 104 (some ad) n c 0 0 Tryz.underlying30
    have hal := alloc_lt (w := w) (.cells #[] 104)
    have hrd := (hI.belowLt hal).reads
    have hown0 : (w.alloc (.cells #[] 104)).ownsRow w.heap.size 104 2 (.slice (some ⟨w.heap.size, 0, none⟩) 0 0) 0 [] := World.ownsRow_lit w #[] 0 (Nat.le_refl _) (by simp [maxLen]) rfl
    have HAL := Lib.hid hal
    rw [pl_size] at hrd
    clear hI hal
    go_enter Tryz.func34, Tryz.ntmps34
    go_wp2_with (first
      | (at_builtin
         go_must (refine wpList_append_any _ rfl (.tmp 5) (.tmp 6) _ rfl w.heap.size 104 i0 _ 2 16 Tryz.underlying30 hi0 hz0 hz1 hz2 rfl (by omega) (.slice (some ⟨w.heap.size, 0, none⟩) 0 0) 0 [] (by rfl) hown0 _ (some ad) n c _ (by rfl) hrd (flat_oneCell _) (by simp only [maxLen]; omega) (by omega) (by simp) ?_)
         intro v1 w1 hown1 hg1 hat1
         obtain ⟨A1, c1, rfl⟩ := own_form hown1))
    go_ret
    have hb : Below w.heap.size w w1 := HAL.out.grown hg1 (by simp) (by simp [Value.ownBlock])
    rw [Nat.zero_add, List.nil_append] at hown1
    exact ⟨A1, n, c1, rfl, hown1, hb⟩
end Go.Proofs.YtpncejdamjbnlaaGreatDoor
end
section
namespace Go.Proofs.YtpncejdamjbnlaaGreatDoor
open Go.RowKit
theorem own_zeros (w : World) (n : Nat) (h0 : 0 < n) (hn : n ≤ 1073741824) :
    (w.drew.alloc (.cells (Builtin.zeroCells (Value.int IntKind.u8 0).cells n ++ Builtin.zeroCells (Value.int IntKind.u8 0).cells (grownCap w n 0 5 - n)) 5)).ownsRow w.heap.size 5 1 (.slice (some ⟨w.heap.size, 0, none⟩) 0 (grownCap w n 0 5)) 0 [] := by
  have h1 := grownCap_ge w n 0 5
  have h2 := grownCap_le_maxLen w n 0 5 (by simp only [maxLen]; omega)
  refine ⟨by simp, .inr ⟨w.heap.size, _, _, rfl, Nat.le_refl _, by simpa using heap_alloc_new w.drew _, by omega, h2, ?_, by simp⟩⟩
  simp [size_zeroCells, Value.cells]
  omega
set_option maxHeartbeats 1000000 in
theorem grow_nil (w : World) (n : Nat) (hn : n ≤ 1073741824) : Calls Tryz.prog 57 #[.slice none 0 0, .int .i64 n] w (RetArr 5 w ([] : List Byte)) := by
  obtain ⟨i0, hi0, hz0, hz1, hz2⟩ := info_parts' byte_info
  by_cases h0 : 0 < n
  · have hlt : ((n : Int) < 0) = False := by simp
    have hrun := Lib.run_append_nil_zeros (P := Tryz.prog) w 24 3 24 5 i0 _ .i64 .i64 Tryz.underlying24 Tryz.underlying3 hi0 hz0 n h0 (by omega) (by omega) (by rw [hz2]; omega)
    have hg : decide ((0 : Int) < (n : Int)) = true := by simp; omega
    have HO := Lib.hid (own_zeros w n h0 hn)
    have HB : Hid (Below w.heap.size w (w.drew.alloc (.cells (Builtin.zeroCells (Value.int IntKind.u8 0).cells n ++ Builtin.zeroCells (Value.int IntKind.u8 0).cells (grownCap w n 0 5 - n)) 5))) :=
      Lib.hid ((Below.refl _ _).drew.alloc (by simp) _)
    have hcg := grownCap_ge w n 0 5
    have hcm := grownCap_le_maxLen w n 0 5 (by simp only [maxLen]; omega)
    generalize grownCap w n 0 5 = C at *
    generalize w.drew.alloc (.cells (Builtin.zeroCells (Value.int IntKind.u8 0).cells n ++ Builtin.zeroCells (Value.int IntKind.u8 0).cells (C - n)) 5) = W at *
    unfold maxLen at hcm
    go_enter Tryz.func57, Tryz.ntmps57
    go_wp2_with (first
      | (at_builtin
         go_must (refine Lib.wpList_append_run _ rfl (.tmp 20) (.tmp 21) _ _ rfl (.slice none 0 0) (.int .i64 n) (by rfl) (by rfl) _ _ hrun ?_)))
    go_ret
    exact ⟨_, 0, C, rfl, HO.out, HB.out⟩
  · obtain rfl : n = 0 := by omega
    go_enter Tryz.func57, Tryz.ntmps57
    go_wp2
    go_ret
    exact ⟨none, 0, 0, rfl, World.ownsRow_nil _ _ _ _, Below.refl _ _⟩
def tot (bss : List (List Byte)) : Nat := bss.flatten.length
theorem tot_take (bss : List (List Byte)) (k : Nat) : tot (bss.take k) ≤ tot bss := by
  unfold tot
  conv => rhs; rw [← List.take_append_drop k bss, List.flatten_append, List.length_append]
  omega
theorem take_flat {bss : List (List Byte)} {k : Nat} {bs : List Byte} (h : bss[k]? = some bs) : (bss.take (k + 1)).flatten = (bss.take k).flatten ++ bs := by
  rw [List.take_succ, h]; simp
theorem tot_snoc {bss : List (List Byte)} {k : Nat} {bs : List Byte} (h : bss[k]? = some bs) : tot (bss.take (k + 1)) = tot (bss.take k) + bs.length := by
  unfold tot; rw [take_flat h, List.length_append]
set_option maxHeartbeats 2000000 in
theorem concat_any (w : World) (A : Option Addr) (n c : Nat) (bss : List (List Byte)) (h : RowsOf w A n c bss) (ht : tot bss ≤ 1073741824) : Calls Tryz.prog 23 #[.slice A n c] w (RetArr 5 w bss.flatten) := by
  obtain ⟨i0, hi0, hz0, hz1, hz2⟩ := info_parts' byte_info
  have hcap := h.cap
  have hmax := h.max
  unfold maxLen at hmax
  have HS := Lib.hid h
  have HL := Lib.hid h.len
  have HT := Lib.hid ht
  clear h ht
  go_enter Tryz.func23, Tryz.ntmps23
  go_wp2
  go_loop [3, 11] (fun s i => ∃ k : Nat, k ≤ n ∧ i = .int .i64 k ∧ s = .int .i64 (tot (bss.take k))) (fun _ i => n - (intOf i).toNat)
  case atStart => exact ⟨0, Nat.zero_le _, rfl, rfl⟩
  case round =>
    obtain ⟨k, hk, rfl, rfl⟩ := hrel
    by_cases hlt : k < n
    · obtain ⟨bs, hbs⟩ : ∃ bs, bss[k]? = some bs := ⟨_, List.getElem?_eq_getElem (by have := HL.out; omega)⟩
      obtain ⟨ad, A', n', c', rfl, hadS, hc1, hI⟩ := HS.out.at_ hbs
      have hsn := tot_snoc hbs
      have hle := tot_take bss (k + 1)
      have hle2 := HT.out
      have hbl := hI.len
      have HSN := Lib.hid hsn
      have HB := Lib.hid hbl
      have hbig : tot (bss.take k) + n' ≤ 1073741824 := by omega
      clear hadS hbs hI hsn hle hle2 hbl
      generalize tot (bss.take k) = P at *
      have hneg : decide (((P : Int) + (n' : Int)) < 0) = false := by simp; omega
      go_wp2
      go_round
      case rel => exact ⟨k + 1, by omega, by go_num, by rw [HSN.out, ← HB.out]; go_num⟩
      case measure => simp [intOf]; omega
    · obtain rfl : n = k := by omega
      have hful : bss.take n = bss := List.take_of_length_le (by have := HL.out; omega)
      rw [hful]
      have ht := HT.out
      have HFUL := Lib.hid hful
      have CALL := Lib.hid (grow_nil w (tot bss) ht)
      clear hful ht
      generalize hP : tot bss = P at *
      have HP := Lib.hid hP
      clear hP
      go_wp2_with (fail)
      (with_reducible refine CALL.out.mono ?_)
      rintro e w1 ⟨A1, n1, c1, rfl, ho1, hb1⟩
      obtain rfl : n1 = 0 := by have := ho1.1; simpa [flat, byte_size] using this.symm
      clear CALL
      go_wp2
      have HB1 := Lib.hid hb1
      go_loopw [6, 8, 27] (fun v _ i wr => ∃ (k m : Nat) (A2 : Option Addr) (c2 : Nat), k ≤ n ∧ i = .int .i64 k ∧ v = .slice A2 m c2 ∧ wr.ownsRow w.heap.size 5 1 (.slice A2 m c2) m (flat (bss.take k).flatten) ∧ Below w.heap.size w wr) (fun _ _ i _ => n - (intOf i).toNat)
      case atStart => exact ⟨0, 0, A1, c1, Nat.zero_le _, rfl, rfl, ho1, hb1⟩
      case round =>
        obtain ⟨k, m, A2, c2, hk, rfl, rfl, hown, hb⟩ := hrel
        by_cases hlt : k < n
        · obtain ⟨bs, hbs⟩ : ∃ bs, bss[k]? = some bs := ⟨_, List.getElem?_eq_getElem (by have := HL.out; omega)⟩
          obtain ⟨ad, A', n', c', rfl, hadS, hc1, hI⟩ := HS.out.at_ hbs
          have e1 := (hb.cell (p := ad.add k) (by rw [block_of_add]; exact hadS)).trans hc1
          have hsn := tot_snoc hbs
          have hle := tot_take bss (k + 1)
          have hle2 := HT.out
          have hle3 := HP.out
          have hbl := hI.len
          have hm : m = tot (bss.take k) := by
            have := hown.1
            rw [flat_len, byte_size] at this
            unfold tot; omega
          have hbig : m + n' ≤ 1073741824 := by omega
          have hrd := (hI.belowLt hb).reads
          rw [byte_size] at hrd
          have HF := Lib.hid (take_flat hbs)
          have hbw := hb.size
          clear hadS hbs hI hsn hle hle2 hle3 hbl hc1 hm
          generalize (bss.take k).flatten = cur at *
          go_wp2_with (first
            | (at_builtin
               go_must (refine wpList_append_any _ rfl (.tmp 31) (.tmp 32) _ rfl w.heap.size 5 i0 _ 1 1 Tryz.underlying24 hi0 hz0 hz1 hz2 rfl (by omega) (.slice A2 m c2) m (flat cur) (by rfl) hown _ A' n' c' _ (by rfl) hrd (flat_oneCell _) (by simp only [maxLen]; omega) (by omega) hbw ?_)
               intro v9 w9 ho9 hg9 hb9
               obtain ⟨A9, c9, rfl⟩ := own_form ho9))
          have HB9 := Lib.hid (hb.grown hg9 hbw (fun g hg => (hown.lt g hg).1))
          have HO9 := Lib.hid ho9
          clear ho9 hg9 hb9 hown hb
          go_roundw
          case rel => exact ⟨k + 1, m + n', A9, c9, by omega, by go_num, rfl, by rw [HF.out, flat_append]; exact HO9.out, HB9.out⟩
          case measure => simp [intOf]; omega
        · obtain rfl : n = k := by omega
          rw [HFUL.out] at hown
          have HO := Lib.hid hown
          have HB := Lib.hid hb
          clear hown hb
          go_wp2
          go_ret
          exact ⟨A2, m, c2, rfl, HO.out, HB.out⟩
end Go.Proofs.YtpncejdamjbnlaaGreatDoor
end
section
namespace Go.Proofs.YtpncejdamjbnlaaGreatDoor
open Go.RowKit
theorem wrap_u64 (n : Int) : IntKind.u64.wrap n = n % 18446744073709551616 := by simp [IntKind.wrap, IntKind.bits, IntKind.signed]
theorem xor_ones (a : Nat) (h : a < 18446744073709551616) : a ^^^ 18446744073709551615 = 18446744073709551615 - a := by
  have e : BitVec.ofNat 64 a ^^^ BitVec.allOnes 64 = ~~~ (BitVec.ofNat 64 a) := BitVec.xor_allOnes
  have e2 := congrArg BitVec.toNat e
  rw [BitVec.toNat_xor, BitVec.toNat_not, BitVec.toNat_allOnes, BitVec.toNat_ofNat, Nat.mod_eq_of_lt (by simpa using h)] at e2
  simpa using e2
theorem zig_bits (n : Int) (h1 : -9223372036854775808 ≤ n) (h2 : n ≤ 9223372036854775807) :
    bits BinOp.xor IntKind.u64 (IntKind.u64.wrap (IntKind.u64.wrap n * 2)) (IntKind.u64.wrap (n / 9223372036854775808)) = (Oct.zig n : Int) := by
  rw [wrap_u64, wrap_u64, wrap_u64]
  unfold Oct.zig
  by_cases h : 0 ≤ n
  · rw [if_pos h]
    have e1 : n % 18446744073709551616 * 2 % 18446744073709551616 = ((2 * n).toNat : Int) := by omega
    have e2 : n / 9223372036854775808 % 18446744073709551616 = ((0 : Nat) : Int) := by omega
    rw [e1, e2, u64_xor_nat _ _ (by omega) (by omega), Nat.xor_zero]
  · rw [if_neg h]
    have e1 : n % 18446744073709551616 * 2 % 18446744073709551616 = ((2 * n + 18446744073709551616).toNat : Int) := by omega
    have e2 : n / 9223372036854775808 % 18446744073709551616 = ((18446744073709551615 : Nat) : Int) := by omega
    rw [e1, e2, u64_xor_nat _ _ (by omega) (by omega), xor_ones _ (by omega)]
    omega
end Go.Proofs.YtpncejdamjbnlaaGreatDoor
end
