/-
  A part of the proof of TopCrashRecovery: an abstract machine that the kernel runs, and its soundness.
-/
import Derived.RangeFuncLeaves
import Derived.RangeFuncCalls
import Derived.OrdersIn
set_option linter.all false
section
namespace Go.Refl
inductive Tr (α : Type) where
  | leaf
  | node (v : Option α) (a b c d : Tr α)
noncomputable def nrec {R : Type} (z : R) (s : Nat → R → R) (n : Nat) : R := Nat.rec (motive := fun _ => R) z s n
noncomputable def lrec {α R : Type} (z : R) (s : α → List α → R → R) (l : List α) : R := List.rec (motive := fun _ => R) z s l
noncomputable def ncase {R : Type} (z : R) (s : Nat → Unit → R) (n : Nat) : R := Nat.rec (motive := fun _ => R) z (fun n _ => s n ()) n
noncomputable def ocase {α R : Type} (z : R) (s : α → R) (o : Option α) : R := Option.rec (motive := fun _ => R) z s o
noncomputable def sw {R : Type} (k : Nat) (a b c d : R) : R :=
  ncase a (fun k _ => ncase b (fun k _ => ncase c (fun _ _ => d) k) k) k
noncomputable def Tr.get {α : Type} (t : Tr α) : Nat → Option α :=
  Tr.rec (motive := fun _ => Nat → Option α) (fun _ => none)
    (fun v _ _ _ _ ia ib ic id k => ncase v (fun k _ => sw (Nat.mod k 4) (ia (Nat.div k 4)) (ib (Nat.div k 4)) (ic (Nat.div k 4)) (id (Nat.div k 4))) k) t
noncomputable def Tr.one {α : Type} (f : Nat) : Nat → α → (Tr α → Bool) → Bool :=
  nrec (fun _ _ _ => false)
    (fun _ ih k x g => ncase (g (.node (some x) .leaf .leaf .leaf .leaf))
      (fun k _ => ih (Nat.div k 4) x fun t => sw (Nat.mod k 4) (g (.node none t .leaf .leaf .leaf)) (g (.node none .leaf t .leaf .leaf)) (g (.node none .leaf .leaf t .leaf)) (g (.node none .leaf .leaf .leaf t))) k) f
noncomputable def Tr.set {α : Type} (t : Tr α) : Nat → α → (Tr α → Bool) → Bool :=
  Tr.rec (motive := fun _ => Nat → α → (Tr α → Bool) → Bool) (fun k x g => Tr.one 20 k x g)
    (fun v a b c d ia ib ic id k x g => ncase (g (.node (some x) a b c d))
      (fun k _ => sw (Nat.mod k 4) (ia (Nat.div k 4) x fun t => g (.node v t b c d)) (ib (Nat.div k 4) x fun t => g (.node v a t c d))
        (ic (Nat.div k 4) x fun t => g (.node v a b t d)) (id (Nat.div k 4) x fun t => g (.node v a b c t))) k) t
section tries
variable {α : Type}
theorem sw_spec {R : Type} (k : Nat) (a b c d : R) (h : k < 4) : sw k a b c d = if k = 0 then a else if k = 1 then b else if k = 2 then c else d := by
  match k, h with
  | 0, _ => rfl
  | 1, _ => rfl
  | 2, _ => rfl
  | 3, _ => rfl
theorem Tr.get_leaf (k : Nat) : (Tr.leaf : Tr α).get k = none := rfl
theorem Tr.get_zero (v : Option α) (a b c d : Tr α) : (Tr.node v a b c d).get 0 = v := rfl
theorem Tr.get_succ (v : Option α) (a b c d : Tr α) (k : Nat) : (Tr.node v a b c d).get (k + 1) = sw (k % 4) (a.get (k / 4)) (b.get (k / 4)) (c.get (k / 4)) (d.get (k / 4)) := rfl
def Tr.Put (t : Tr α) (k : Nat) (x : α) (t' : Tr α) : Prop := ∀ i, t'.get i = if i = k then some x else t.get i
theorem get_leaf_node (v : Option α) (k : Nat) : (Tr.node v .leaf .leaf .leaf .leaf : Tr α).get k = if k = 0 then v else none := by
  cases k with
  | zero => rfl
  | succ k => rw [Tr.get_succ, sw_spec _ _ _ _ _ (Nat.mod_lt _ (by omega))]; simp [Tr.get_leaf]
theorem div_mod_eq {i k : Nat} (h1 : i / 4 = k / 4) (h2 : i % 4 = k % 4) : i = k := by omega
theorem Tr.one_spec (f : Nat) : ∀ (k : Nat) (x : α) (g : Tr α → Bool), Tr.one f k x g = true → ∃ t', g t' = true ∧ Tr.Put .leaf k x t' := by
  induction f with
  | zero => intro k x g h; exact absurd (show false = true from h) (by decide)
  | succ f ih =>
    intro k x g h
    cases k with
    | zero => exact ⟨_, h, fun i => by rw [get_leaf_node]; rfl⟩
    | succ k =>
      have h' : Tr.one f (k / 4) x (fun t => sw (k % 4) (g (.node none t .leaf .leaf .leaf)) (g (.node none .leaf t .leaf .leaf)) (g (.node none .leaf .leaf t .leaf)) (g (.node none .leaf .leaf .leaf t))) = true := h
      obtain ⟨t', ht, hp⟩ := ih _ _ _ h'
      have hk : k % 4 < 4 := Nat.mod_lt _ (by omega)
      have hm : k % 4 = 0 ∨ k % 4 = 1 ∨ k % 4 = 2 ∨ k % 4 = 3 := by omega
      have hput : ∀ i, t'.get i = if i = k / 4 then some x else none := hp
      rcases hm with hm | hm | hm | hm <;> rw [hm] at ht
      · refine ⟨_, (show g (.node none t' .leaf .leaf .leaf) = true from ht), fun i => ?_⟩
        cases i with
        | zero => rfl
        | succ i =>
          rw [Tr.get_succ, sw_spec _ _ _ _ _ (Nat.mod_lt _ (by omega)), hput]
          simp only [Tr.get_leaf, Nat.add_right_cancel_iff]
          by_cases e : i = k
          · subst e; simp [hm]
          · have := fun h1 h2 => e (div_mod_eq (i := i) (k := k) h1 h2)
            by_cases e2 : i % 4 = 0
            · simp [e, e2]; exact fun h1 => absurd (by omega) (this h1)
            · simp [e, e2]
      · refine ⟨_, (show g (.node none .leaf t' .leaf .leaf) = true from ht), fun i => ?_⟩
        cases i with
        | zero => rfl
        | succ i =>
          rw [Tr.get_succ, sw_spec _ _ _ _ _ (Nat.mod_lt _ (by omega)), hput]
          simp only [Tr.get_leaf, Nat.add_right_cancel_iff]
          by_cases e : i = k
          · subst e; simp [hm]
          · have := fun h1 h2 => e (div_mod_eq (i := i) (k := k) h1 h2)
            by_cases e2 : i % 4 = 1
            · simp [e, e2]; exact fun h1 => absurd (by omega) (this h1)
            · simp [e, e2]
      · refine ⟨_, (show g (.node none .leaf .leaf t' .leaf) = true from ht), fun i => ?_⟩
        cases i with
        | zero => rfl
        | succ i =>
          rw [Tr.get_succ, sw_spec _ _ _ _ _ (Nat.mod_lt _ (by omega)), hput]
          simp only [Tr.get_leaf, Nat.add_right_cancel_iff]
          by_cases e : i = k
          · subst e; simp [hm]
          · have := fun h1 h2 => e (div_mod_eq (i := i) (k := k) h1 h2)
            by_cases e2 : i % 4 = 2
            · simp [e, e2]; exact fun h1 => absurd (by omega) (this h1)
            · simp [e, e2]
      · refine ⟨_, (show g (.node none .leaf .leaf .leaf t') = true from ht), fun i => ?_⟩
        cases i with
        | zero => rfl
        | succ i =>
          rw [Tr.get_succ, sw_spec _ _ _ _ _ (Nat.mod_lt _ (by omega)), hput]
          simp only [Tr.get_leaf, Nat.add_right_cancel_iff]
          by_cases e : i = k
          · subst e; simp [hm]
          · have := fun h1 h2 => e (div_mod_eq (i := i) (k := k) h1 h2)
            have h3 : i % 4 = 0 ∨ i % 4 = 1 ∨ i % 4 = 2 ∨ i % 4 = 3 := by omega
            rcases h3 with h3 | h3 | h3 | h3 <;> simp [e, h3]
            exact fun h1 => absurd (by omega) (this h1)
theorem Tr.set_spec : ∀ (t : Tr α) (k : Nat) (x : α) (g : Tr α → Bool), t.set k x g = true → ∃ t', g t' = true ∧ t.Put k x t' := by
  intro t
  induction t with
  | leaf => intro k x g h; exact Tr.one_spec 20 k x g h
  | node v a b c d iha ihb ihc ihd =>
    intro k x g h
    cases k with
    | zero =>
      refine ⟨_, h, fun i => ?_⟩
      cases i with
      | zero => rfl
      | succ i => simp [Tr.get_succ]
    | succ k =>
      have h' : sw (k % 4) (a.set (k / 4) x fun t => g (.node v t b c d)) (b.set (k / 4) x fun t => g (.node v a t c d))
        (c.set (k / 4) x fun t => g (.node v a b t d)) (d.set (k / 4) x fun t => g (.node v a b c t)) = true := h
      have hm : k % 4 = 0 ∨ k % 4 = 1 ∨ k % 4 = 2 ∨ k % 4 = 3 := by omega
      rcases hm with hm | hm | hm | hm <;> rw [hm] at h'
      · obtain ⟨t', hg, hp⟩ := iha _ _ _ (show a.set (k / 4) x (fun t => g (.node v t b c d)) = true from h')
        refine ⟨_, hg, fun i => ?_⟩
        cases i with
        | zero => rfl
        | succ i =>
          rw [Tr.get_succ, Tr.get_succ, sw_spec _ _ _ _ _ (Nat.mod_lt _ (by omega)), sw_spec _ _ _ _ _ (Nat.mod_lt _ (by omega)), hp]
          simp only [Nat.add_right_cancel_iff]
          by_cases e : i = k
          · subst e; simp [hm]
          · have := fun h1 h2 => e (div_mod_eq (i := i) (k := k) h1 h2)
            by_cases e2 : i % 4 = 0
            · have e3 : ¬ i / 4 = k / 4 := fun h1 => this h1 (by omega)
              simp [e, e2, e3]
            · simp [e, e2]
      · obtain ⟨t', hg, hp⟩ := ihb _ _ _ (show b.set (k / 4) x (fun t => g (.node v a t c d)) = true from h')
        refine ⟨_, hg, fun i => ?_⟩
        cases i with
        | zero => rfl
        | succ i =>
          rw [Tr.get_succ, Tr.get_succ, sw_spec _ _ _ _ _ (Nat.mod_lt _ (by omega)), sw_spec _ _ _ _ _ (Nat.mod_lt _ (by omega)), hp]
          simp only [Nat.add_right_cancel_iff]
          by_cases e : i = k
          · subst e; simp [hm]
          · have := fun h1 h2 => e (div_mod_eq (i := i) (k := k) h1 h2)
            by_cases e2 : i % 4 = 1
            · have e3 : ¬ i / 4 = k / 4 := fun h1 => this h1 (by omega)
              simp [e, e2, e3]
            · simp [e, e2]
      · obtain ⟨t', hg, hp⟩ := ihc _ _ _ (show c.set (k / 4) x (fun t => g (.node v a b t d)) = true from h')
        refine ⟨_, hg, fun i => ?_⟩
        cases i with
        | zero => rfl
        | succ i =>
          rw [Tr.get_succ, Tr.get_succ, sw_spec _ _ _ _ _ (Nat.mod_lt _ (by omega)), sw_spec _ _ _ _ _ (Nat.mod_lt _ (by omega)), hp]
          simp only [Nat.add_right_cancel_iff]
          by_cases e : i = k
          · subst e; simp [hm]
          · have := fun h1 h2 => e (div_mod_eq (i := i) (k := k) h1 h2)
            by_cases e2 : i % 4 = 2
            · have e3 : ¬ i / 4 = k / 4 := fun h1 => this h1 (by omega)
              simp [e, e2, e3]
            · simp [e, e2]
      · obtain ⟨t', hg, hp⟩ := ihd _ _ _ (show d.set (k / 4) x (fun t => g (.node v a b c t)) = true from h')
        refine ⟨_, hg, fun i => ?_⟩
        cases i with
        | zero => rfl
        | succ i =>
          rw [Tr.get_succ, Tr.get_succ, sw_spec _ _ _ _ _ (Nat.mod_lt _ (by omega)), sw_spec _ _ _ _ _ (Nat.mod_lt _ (by omega)), hp]
          simp only [Nat.add_right_cancel_iff]
          by_cases e : i = k
          · subst e; simp [hm]
          · have := fun h1 h2 => e (div_mod_eq (i := i) (k := k) h1 h2)
            have h3 : i % 4 = 0 ∨ i % 4 = 1 ∨ i % 4 = 2 ∨ i % 4 = 3 := by omega
            rcases h3 with h3 | h3 | h3 | h3 <;> simp [e, h3]
            have e3 : ¬ i / 4 = k / 4 := fun h1 => this h1 (by omega)
            simp [e3]
end tries
end Go.Refl
end
section
namespace Go.Refl
open Go.RowKit
structure Loc where
  blk : Nat
  shift : Nat
  extra : Nat
structure Sig where
  f : Nat → Option Loc
  nx : Nat
instance : CoeFun Sig (fun _ => Nat → Option Loc) := ⟨Sig.f⟩
inductive AV where
  | bad
  | bool (b : Bool)
  | int (k : IntKind) (n : Int)
  | str (s : List Nat)
  | pnil
  | ptr (b o : Nat)
  | snil
  | sl (b o len cap : Nat) (opened : Bool)
  | mnil
  | map (b : Nat)
  | fn (f : FuncId) (first captured : List AV)
  | yield (b : Nat)
  | fnil
  | iface (t : TypeId) (v : AV)
  | inil
  | agg (cs : List AV)
  | tup (vs : List AV)
def byteOk : List Nat → Bool
  | [] => true
  | n :: s => Nat.ble n 255 && byteOk s
def bytesOf (s : List Nat) : ByteArray := ⟨(s.map UInt8.ofNat).toArray⟩
mutual
def conc (σ : Sig) : AV → Option Value
  | .bad => none
  | .bool b => some (.bool b)
  | .int k n => some (.int k n)
  | .str s => if byteOk s then some (.string (bytesOf s)) else none
  | .pnil => some (.pointer none)
  | .ptr b o => (σ b).map fun x => .pointer (some ⟨x.blk, x.shift + o, none⟩)
  | .snil => some (.slice none 0 0)
  | .sl b o len cap opened => (σ b).map fun x => .slice (some ⟨x.blk, x.shift + o, none⟩) len (if opened then cap + x.extra else cap)
  | .mnil => some (.map none)
  | .map b => (σ b).map fun x => .map (some x.blk)
  | .fn f first captured => (concL σ first).bind fun a => (concL σ captured).map fun c => .func (.func f) a.toArray c.toArray
  | .yield b => (σ b).map fun x => .func (.yield x.blk) #[] #[]
  | .fnil => some .nilFunc
  | .iface t v => (conc σ v).map fun v => .iface t v
  | .inil => some .nilIface
  | .agg cs => (concL σ cs).map fun l => .agg l.toArray
  | .tup cs => (concL σ cs).map fun l => .tuple l.toArray
def concL (σ : Sig) : List AV → Option (List Value)
  | [] => some []
  | v :: vs => (conc σ v).bind fun x => (concL σ vs).map fun l => x :: l
end
def Sig.sub (σ σ' : Sig) : Prop := ∀ b x, σ b = some x → σ' b = some x
theorem Sig.sub.refl (σ : Sig) : σ.sub σ := fun _ _ h => h
structure Sig.le (σ σ' : Sig) : Prop where
  get : ∀ b x, σ b = some x → σ' b = some x
  nx : σ.nx ≤ σ'.nx
  not : ∀ b, b < σ.nx → σ b = none → σ' b = none
instance {σ σ' : Sig} : Coe (σ.le σ') (σ.sub σ') := ⟨Sig.le.get⟩
instance {σ σ' : Sig} : CoeFun (σ.le σ') (fun _ => ∀ b x, σ b = some x → σ' b = some x) := ⟨Sig.le.get⟩
theorem Sig.le.refl (σ : Sig) : σ.le σ := ⟨fun _ _ h => h, Nat.le_refl _, fun _ _ h => h⟩
theorem Sig.le.trans {a b c : Sig} (h : a.le b) (k : b.le c) : a.le c :=
  ⟨fun i x e => k.get i x (h.get i x e), Nat.le_trans h.nx k.nx, fun i hi e => k.not i (Nat.lt_of_lt_of_le hi h.nx) (h.not i hi e)⟩
mutual
theorem conc_mono {σ σ' : Sig} (h : σ.sub σ') : ∀ (v : AV) (x : Value), conc σ v = some x → conc σ' v = some x
  | .bad, x, e => by simp [conc] at e
  | .bool _, x, e => by simpa [conc] using e
  | .int _ _, x, e => by simpa [conc] using e
  | .str _, x, e => by simpa only [conc] using e
  | .pnil, x, e => by simpa [conc] using e
  | .ptr b o, x, e => by
    simp only [conc] at e ⊢
    cases hb : σ b with
    | none => rw [hb] at e; cases e
    | some y => rw [hb] at e; rw [h b y hb]; exact e
  | .snil, x, e => by simpa [conc] using e
  | .sl b o l c k, x, e => by
    simp only [conc] at e ⊢
    cases hb : σ b with
    | none => rw [hb] at e; cases e
    | some y => rw [hb] at e; rw [h b y hb]; exact e
  | .mnil, x, e => by simpa [conc] using e
  | .map b, x, e => by
    simp only [conc] at e ⊢
    cases hb : σ b with
    | none => rw [hb] at e; cases e
    | some y => rw [hb] at e; rw [h b y hb]; exact e
  | .fn f a c, x, e => by
    simp only [conc] at e ⊢
    cases ha : concL σ a with
    | none => rw [ha] at e; cases e
    | some la =>
      cases hc : concL σ c with
      | none => rw [ha, hc] at e; cases e
      | some lc => rw [ha, hc] at e; rw [concL_mono h a la ha, concL_mono h c lc hc]; exact e
  | .yield b, x, e => by
    simp only [conc] at e ⊢
    cases hb : σ b with
    | none => rw [hb] at e; cases e
    | some y => rw [hb] at e; rw [h b y hb]; exact e
  | .fnil, x, e => by simpa [conc] using e
  | .iface t v, x, e => by
    simp only [conc] at e ⊢
    cases hv : conc σ v with
    | none => rw [hv] at e; cases e
    | some y => rw [hv] at e; rw [conc_mono h v y hv]; exact e
  | .inil, x, e => by simpa [conc] using e
  | .agg cs, x, e => by
    simp only [conc] at e ⊢
    cases hv : concL σ cs with
    | none => rw [hv] at e; cases e
    | some y => rw [hv] at e; rw [concL_mono h cs y hv]; exact e
  | .tup cs, x, e => by
    simp only [conc] at e ⊢
    cases hv : concL σ cs with
    | none => rw [hv] at e; cases e
    | some y => rw [hv] at e; rw [concL_mono h cs y hv]; exact e
theorem concL_mono {σ σ' : Sig} (h : σ.sub σ') : ∀ (v : List AV) (x : List Value), concL σ v = some x → concL σ' v = some x
  | [], x, e => by simpa [concL] using e
  | v :: vs, x, e => by
    simp only [concL] at e ⊢
    cases hv : conc σ v with
    | none => rw [hv] at e; cases e
    | some y =>
      cases hc : concL σ vs with
      | none => rw [hv, hc] at e; cases e
      | some l => rw [hv, hc] at e; rw [conc_mono h v y hv, concL_mono h vs l hc]; exact e
end
def VR (σ : Sig) (v : AV) (x : Value) : Prop := v = .bad ∨ conc σ v = some x
theorem VR.mono {σ σ' : Sig} (h : σ.sub σ') {v : AV} {x : Value} (e : VR σ v x) : VR σ' v x := e.imp id (conc_mono h v x)
theorem concL_append {σ : Sig} : ∀ {a b : List AV} {x y : List Value}, concL σ a = some x → concL σ b = some y → concL σ (a ++ b) = some (x ++ y)
  | [], b, x, y, h, k => by simp [concL] at h; subst h; exact k
  | v :: a, b, x, y, h, k => by
    simp only [concL] at h
    cases hv : conc σ v with
    | none => rw [hv] at h; cases h
    | some z =>
      cases hc : concL σ a with
      | none => rw [hv, hc] at h; cases h
      | some l =>
        rw [hv, hc] at h; cases h
        simp [concL, hv, concL_append hc k]
theorem concL_length {σ : Sig} : ∀ {a : List AV} {x : List Value}, concL σ a = some x → x.length = a.length
  | [], x, h => by simp [concL] at h; subst h; rfl
  | v :: a, x, h => by
    simp only [concL] at h
    cases hv : conc σ v with
    | none => rw [hv] at h; cases h
    | some z =>
      cases hc : concL σ a with
      | none => rw [hv, hc] at h; cases h
      | some l => rw [hv, hc] at h; cases h; simp [concL_length hc]
theorem concL_get {σ : Sig} : ∀ {a : List AV} {x : List Value}, concL σ a = some x → ∀ (i : Nat) v, a[i]? = some v → ∃ z, x[i]? = some z ∧ conc σ v = some z
  | [], x, h, i, v, e => by simp at e
  | u :: a, x, h, i, v, e => by
    simp only [concL] at h
    cases hv : conc σ u with
    | none => rw [hv] at h; cases h
    | some z =>
      cases hc : concL σ a with
      | none => rw [hv, hc] at h; cases h
      | some l =>
        rw [hv, hc] at h; cases h
        cases i with
        | zero => simp at e; subst e; exact ⟨z, by simp, hv⟩
        | succ i => simp at e; simpa using concL_get hc i v e
theorem concL_of_get {σ : Sig} : ∀ {a : List AV} {x : List Value}, a.length = x.length → (∀ (i : Nat) v, a[i]? = some v → ∃ z, x[i]? = some z ∧ conc σ v = some z) → concL σ a = some x
  | [], [], _, _ => rfl
  | [], _ :: _, h, _ => by simp at h
  | _ :: _, [], h, _ => by simp at h
  | u :: a, y :: x, h, k => by
    obtain ⟨z, hz, hc⟩ := k 0 u (by simp)
    simp at hz; subst hz
    have := concL_of_get (a := a) (x := x) (by simpa using h) (fun i v e => by simpa using k (i + 1) v (by simpa using e))
    simp [concL, hc, this]
inductive AO where
  | cells (cs : List AV) (elem : TypeId) (esz : Nat) (ro : Bool)
  | map (es : List (AV × AV × Nat)) (clock : Nat) (ro : Bool)
  | lmap (es : List (AV × AV))
  | iter (s : List Nat) (pos : Nat)
  | loop (st : LoopState) (pending : Option Code) (tm : Tr AV) (n : Nat) (params : Array Tmp) (assign body : Code) (dfr : Nat)
  | dfr (taken : Bool)
  | tail (b L : Nat)
  | dead
def AO.owns : AO → Bool
  | .tail _ _ | .dead => false
  | _ => true
def AO.ro : AO → Bool
  | .cells _ _ _ r => r
  | .map _ _ r => r
  | .lmap _ => true
  | _ => false
structure AH where
  m : Tr AO
  nx : Nat
noncomputable def tget (tm : Tr AV) (t : Nat) : AV := (tm.get t).getD (.tup [])
def TmR (σ : Sig) (tm : Tr AV) (n : Nat) (tmps : Array Value) : Prop :=
  tmps.size = n ∧ ∀ i, VR σ (tget tm i) (tmps.getD i undef)
def concE (σ : Sig) : List (AV × AV × Nat) → Option (List MapEntry)
  | [] => some []
  | (k, v, n) :: es => (conc σ k).bind fun k => (conc σ v).bind fun v => (concE σ es).map fun l => { key := k, val := v, born := n } :: l
def OR (σ : Sig) (x : Loc) (w : World) : AO → Prop
  | .cells cs e esz ro => ∃ (arr : Array Value) (fz : Nat × Nat), w.heap[x.blk]? = some (.cells arr e fz) ∧ x.shift + cs.length + x.extra * esz ≤ arr.size ∧
      (∀ i v, cs[i]? = some v → v = .bad ∨ ∃ z, arr[x.shift + i]? = some z ∧ conc σ v = some z) ∧
      (ro = false → fz.1 = fz.2 ∨ arr.size ≤ fz.1) ∧ (esz = 0 → x.shift = 0 ∧ arr.size = cs.length)
  | .map es clock _ => ∃ es', w.heap[x.blk]? = some (.map es' clock) ∧ concE σ es = some es'.toList
  | .lmap es => ∃ es' clock es2, w.heap[x.blk]? = some (.map es' clock) ∧ (es2.map fun e : AV × AV × Nat => (e.1, e.2.1)).Perm es ∧ (es.map Prod.fst).Nodup ∧
      ((∀ e ∈ es, ∃ s, e.1 = .str s) ∨ (∃ k, ∀ e ∈ es, ∃ n, e.1 = .int k n)) ∧ concE σ es2 = some es'.toList
  | .iter s pos => x.shift = 0 ∧ byteOk s = true ∧ w.heap[x.blk]? = some (.stringIter (bytesOf s) pos)
  | .loop st pending tm n params assign body d => ∃ fn tmps D y, w.heap[x.blk]? = some (.loop { state := st, pending, fn, tmps, params, assign, body, defers := D }) ∧
      TmR σ tm n tmps ∧ σ d = some y ∧ y.blk = D
  | .dfr taken => w.heap[x.blk]? = some (.deferred (if taken then none else some []))
  | .tail b L => ∃ y, σ b = some y ∧ x.blk = y.blk ∧ (0 < x.extra → x.shift = y.shift + L ∧ x.extra ≤ y.extra)
  | .dead => True
structure Ctx where
  G : Nat
  B : Nat
  w0 : World
structure HRel (C : Ctx) (σ : Sig) (h : AH) (w : World) : Prop where
  below : Below C.B C.w0 w
  base : C.B ≤ w.heap.size
  glob : ∀ n, n < C.G → σ n = some ⟨n, 0, 0⟩
  fresh : ∀ b, h.nx ≤ b → σ b = none
  nx : σ.nx = h.nx
  obj : ∀ b o x, h.m.get b = some o → σ b = some x → OR σ x w o
  own : ∀ b o x, h.m.get b = some o → σ b = some x → o.owns = true → o.ro = false → C.B ≤ x.blk
  apart : ∀ b c o p x y, h.m.get b = some o → h.m.get c = some p → σ b = some x → σ c = some y → b ≠ c → o.owns = true → p.owns = true → x.blk ≠ y.blk
theorem unmarked {fz : Nat × Nat} {n : Nat} (h : fz.1 = fz.2 ∨ n ≤ fz.1) (i : Nat) (hi : i < n) : (decide (fz.1 ≤ i) && decide (i < fz.2)) = false := by
  rcases h with h | h
  · rw [h]; by_cases e : fz.2 ≤ i
    · simp
    · simp [e]
  · have : ¬ fz.1 ≤ i := by omega
    simp [this]
theorem TmR.mono {σ σ' : Sig} (h : σ.sub σ') {tm : Tr AV} {n : Nat} {tmps : Array Value} (k : TmR σ tm n tmps) : TmR σ' tm n tmps :=
  ⟨k.1, fun i => (k.2 i).mono h⟩
theorem concE_mono {σ σ' : Sig} (h : σ.sub σ') : ∀ (es : List (AV × AV × Nat)) (x : List MapEntry), concE σ es = some x → concE σ' es = some x
  | [], x, e => by simpa [concE] using e
  | (k, v, n) :: es, x, e => by
    simp only [concE] at e ⊢
    cases hk : conc σ k with
    | none => rw [hk] at e; cases e
    | some y =>
      cases hv : conc σ v with
      | none => rw [hk, hv] at e; cases e
      | some z =>
        cases he : concE σ es with
        | none => rw [hk, hv, he] at e; cases e
        | some l => rw [hk, hv, he] at e; rw [conc_mono h k y hk, conc_mono h v z hv, concE_mono h es l he]; exact e
theorem OR.mono {σ σ' : Sig} (h : σ.sub σ') {x : Loc} {w w' : World} (hw : w'.heap[x.blk]? = w.heap[x.blk]?) : ∀ {o : AO}, OR σ x w o → OR σ' x w' o
  | .cells cs e esz ro, ⟨arr, fz, h1, h2, h3, h4⟩ => ⟨arr, fz, hw.trans h1, h2, fun i v hv => (h3 i v hv).imp id fun ⟨z, hz, hc⟩ => ⟨z, hz, conc_mono h v z hc⟩, h4⟩
  | .map es clock _, ⟨es', h1, h2⟩ => ⟨es', hw.trans h1, concE_mono h es _ h2⟩
  | .lmap es, ⟨es', clock, es2, h1, h2, h3, h4, h5⟩ => ⟨es', clock, es2, hw.trans h1, h2, h3, h4, concE_mono h es2 _ h5⟩
  | .iter s pos, ⟨h0, h1, h2⟩ => ⟨h0, h1, hw.trans h2⟩
  | .loop .., ⟨fn, tmps, D, y, h1, h2, h3, h4⟩ => ⟨fn, tmps, D, y, hw.trans h1, h2.mono h, h _ _ h3, h4⟩
  | .dfr _, h1 => hw.trans h1
  | .tail .., ⟨y, h1, h2⟩ => ⟨y, h _ _ h1, h2⟩
  | .dead, _ => trivial
theorem OR.lt {σ : Sig} {x : Loc} {w : World} : ∀ {o : AO}, o.owns = true → OR σ x w o → x.blk < w.heap.size
  | .cells .., _, ⟨_, _, h1, _⟩ => (Array.getElem?_eq_some_iff.1 h1).1
  | .map .., _, ⟨_, h1, _⟩ => (Array.getElem?_eq_some_iff.1 h1).1
  | .lmap .., _, ⟨_, _, _, h1, _⟩ => (Array.getElem?_eq_some_iff.1 h1).1
  | .iter .., _, ⟨_, _, h1⟩ => (Array.getElem?_eq_some_iff.1 h1).1
  | .loop .., _, ⟨_, _, _, _, h1, _⟩ => (Array.getElem?_eq_some_iff.1 h1).1
  | .dfr _, _, h1 => (Array.getElem?_eq_some_iff.1 h1).1
  | .tail .., h, _ => absurd h (by simp [AO.owns])
  | .dead, h, _ => absurd h (by simp [AO.owns])
theorem OR.ownless {σ σ' : Sig} (h : σ.sub σ') {x : Loc} {w w' : World} : ∀ {o : AO}, o.owns = false → OR σ x w o → OR σ' x w' o
  | .tail .., _, ⟨y, h1, h2⟩ => ⟨y, h _ _ h1, h2⟩
  | .dead, _, _ => trivial
  | .cells .., h, _ => absurd h (by simp [AO.owns])
  | .map .., h, _ => absurd h (by simp [AO.owns])
  | .lmap .., h, _ => absurd h (by simp [AO.owns])
  | .iter .., h, _ => absurd h (by simp [AO.owns])
  | .loop .., h, _ => absurd h (by simp [AO.owns])
  | .dfr .., h, _ => absurd h (by simp [AO.owns])
def Sig.put (σ : Sig) (b : Nat) (x : Loc) : Sig := ⟨fun c => if c = b then some x else σ c, max σ.nx (b + 1)⟩
theorem Sig.le_put {σ : Sig} {b : Nat} (x : Loc) (h : σ b = none) (hb : σ.nx ≤ b) : σ.le (σ.put b x) := ⟨fun c y e => by
  unfold Sig.put
  by_cases hc : c = b
  · subst hc; rw [h] at e; cases e
  · simp [hc, e], Nat.le_max_left _ _, fun c hc e => by
  unfold Sig.put
  have : c ≠ b := by omega
  simp [this, e]⟩
theorem Sig.sub_put {σ : Sig} {b : Nat} (x : Loc) (h : σ b = none) : σ.sub (σ.put b x) := fun c y e => by
  unfold Sig.put
  by_cases hc : c = b
  · subst hc; rw [h] at e; cases e
  · simp [hc, e]
def Sig.bump (σ : Sig) : Sig := ⟨σ.f, σ.nx + 1⟩
theorem Sig.put_same (σ : Sig) (b : Nat) (x : Loc) : σ.put b x b = some x := by simp [Sig.put]
theorem Sig.put_other {σ : Sig} {b c : Nat} (x : Loc) (h : c ≠ b) : σ.put b x c = σ c := by simp [Sig.put, h]
theorem HRel.drew {C : Ctx} {σ : Sig} {h : AH} {w : World} (k : HRel C σ h w) : HRel C σ h { w with drawn := w.drawn + 1 } :=
  ⟨k.below.drew, k.base, k.glob, k.fresh, k.nx, fun b o x hb hx => (k.obj b o x hb hx).mono (Sig.le.refl σ) rfl, k.own, k.apart⟩
theorem HRel.new_at {C : Ctx} {σ : Sig} {h : AH} {w : World} (k : HRel C σ h w) {b : Nat} {ao : AO} (hb : h.m.get b = some ao) (hlt : b < h.nx) (hn : σ b = none) (shift extra : Nat) (o : Obj)
    (hor : OR (σ.put b ⟨w.heap.size, shift, extra⟩) ⟨w.heap.size, shift, extra⟩ (w.alloc o) ao) : HRel C (σ.put b ⟨w.heap.size, shift, extra⟩) h (w.alloc o) := by
  have hle := Sig.sub_put (b := b) ⟨w.heap.size, shift, extra⟩ hn
  have old : ∀ c p y, h.m.get c = some p → σ c = some y → p.owns = true → y.blk < w.heap.size := fun c p y h1 h2 h3 => (k.obj c p y h1 h2).lt h3
  refine ⟨k.below.alloc k.base o, by simp; exact Nat.le_succ_of_le k.base, fun n hn' => hle n _ (k.glob n hn'), fun c hc => ?_, (by have := k.nx; simp only [Sig.put]; omega), fun c p y h1 h2 => ?_, fun c p y h1 h2 h3 h4 => ?_, fun c d p q y z h1 h2 h3 h4 hne h5 h6 => ?_⟩
  · rw [Sig.put_other _ (by omega)]; exact k.fresh c hc
  · by_cases e : c = b
    · subst e; rw [Sig.put_same] at h2; cases h2; rw [hb] at h1; cases h1; exact hor
    · rw [Sig.put_other _ e] at h2
      by_cases hd : p.owns = true
      · exact (k.obj c p y h1 h2).mono hle (Below.heap_alloc w o y.blk (old c p y h1 h2 hd))
      · exact (k.obj c p y h1 h2).ownless hle (by simpa using hd)
  · by_cases e : c = b
    · subst e; rw [Sig.put_same] at h2; cases h2; exact k.base
    · rw [Sig.put_other _ e] at h2; exact k.own c p y h1 h2 h3 h4
  · by_cases e : c = b
    · subst e; rw [Sig.put_same] at h3; cases h3
      rw [Sig.put_other _ (Ne.symm hne)] at h4
      have := old d q z h2 h4 h6
      simp; omega
    · rw [Sig.put_other _ e] at h3
      by_cases e2 : d = b
      · subst e2; rw [Sig.put_same] at h4; cases h4
        have := old c p y h1 h3 h5
        simp; omega
      · rw [Sig.put_other _ e2] at h4; exact k.apart c d p q y z h1 h2 h3 h4 hne h5 h6
theorem HRel.more {C : Ctx} {σ : Sig} {h : AH} {w : World} (k : HRel C σ h w) {m : Tr AO} {ao : AO} (hm : h.m.Put h.nx ao m) : HRel C σ.bump ⟨m, h.nx + 1⟩ w := by
  have hold : ∀ c p x, m.get c = some p → σ c = some x → h.m.get c = some p := fun c p x h1 h2 => by
    have hne : c ≠ h.nx := fun e => by subst e; rw [k.fresh _ (Nat.le_refl _)] at h2; cases h2
    rw [hm c, if_neg hne] at h1; exact h1
  exact ⟨k.below, k.base, k.glob, fun b hb => k.fresh b (by simp at hb; omega), (by simp [Sig.bump, k.nx]), fun b o x h1 h2 => OR.mono (σ := σ) (σ' := σ.bump) (fun _ _ h => h) rfl (k.obj b o x (hold b o x h1 h2) h2),
    fun b o x h1 h2 => k.own b o x (hold b o x h1 h2) h2, fun b c o p x y h1 h2 h3 h4 => k.apart b c o p x y (hold b o x h1 h3) (hold c p y h2 h4) h3 h4⟩
theorem HRel.bump_put {C : Ctx} {σ : Sig} {h : AH} {w : World} (k : HRel C σ h w) (x : Loc) : σ.bump.put h.nx x = σ.put h.nx x := by simp [Sig.put, Sig.bump, k.nx]
theorem HRel.lp {C : Ctx} {σ : Sig} {h : AH} {w : World} (k : HRel C σ h w) (x : Loc) : σ.le (σ.put h.nx x) := Sig.le_put x (k.fresh _ (Nat.le_refl _)) (by rw [k.nx]; exact Nat.le_refl _)
theorem HRel.new {C : Ctx} {σ : Sig} {h : AH} {w : World} (k : HRel C σ h w) {m : Tr AO} {ao : AO} (hm : h.m.Put h.nx ao m) (shift extra : Nat) (o : Obj)
    (hor : ∀ σ', σ.le σ' → OR σ' ⟨w.heap.size, shift, extra⟩ (w.alloc o) ao) : HRel C (σ.put h.nx ⟨w.heap.size, shift, extra⟩) ⟨m, h.nx + 1⟩ (w.alloc o) :=
  have e := k.bump_put ⟨w.heap.size, shift, extra⟩
  e ▸ (k.more hm).new_at (by rw [hm]; simp) (by simp) (k.fresh _ (Nat.le_refl _)) shift extra o (e ▸ hor _ (k.lp _))
theorem HRel.turn {C : Ctx} {σ : Sig} {h : AH} {w w' : World} (k : HRel C σ h w) {b : Nat} {ao ao' : AO} {x : Loc} (hb : h.m.get b = some ao) (hx : σ b = some x) (hd : ao.owns = true) (hro : ao.ro = false)
    {m : Tr AO} (hm : h.m.Put b ao' m) (hbelow : C.B ≤ x.blk → Below C.B w w') (hsize : w'.heap.size = w.heap.size) (hoth : ∀ j, j ≠ x.blk → w'.heap[j]? = w.heap[j]?) (hro' : ao'.ro = false) (hor : OR σ x w' ao') : HRel C σ ⟨m, h.nx⟩ w' := by
  have hB := k.own b ao x hb hx hd hro
  refine ⟨k.below.trans (hbelow hB), by rw [hsize]; exact k.base, k.glob, k.fresh, k.nx, fun c p y h1 h2 => ?_, fun c p y h1 h2 h3 h4 => ?_, fun c d p q y z h1 h2 h3 h4 hne h5 h6 => ?_⟩
  · by_cases e : c = b
    · subst e; rw [hm c, if_pos rfl] at h1; cases h1; rw [hx] at h2; cases h2; exact hor
    · rw [hm c, if_neg e] at h1
      by_cases hp : p.owns = true
      · exact (k.obj c p y h1 h2).mono (Sig.le.refl σ) (hoth _ (k.apart c b p ao y x h1 hb h2 hx e hp hd))
      · exact (k.obj c p y h1 h2).ownless (Sig.le.refl σ) (by simpa using hp)
  · by_cases e : c = b
    · subst e; rw [hx] at h2; cases h2; exact hB
    · rw [hm c, if_neg e] at h1; exact k.own c p y h1 h2 h3 h4
  · by_cases e : c = b
    · subst e
      rw [hx] at h3; cases h3
      by_cases e2 : d = c
      · exact absurd e2.symm hne
      · rw [hm d, if_neg e2] at h2; exact k.apart c d ao q x z hb h2 hx h4 hne hd h6
    · rw [hm c, if_neg e] at h1
      by_cases e2 : d = b
      · subst e2; rw [hx] at h4; cases h4; exact k.apart c d p ao y x h1 hb h3 hx hne h5 hd
      · rw [hm d, if_neg e2] at h2; exact k.apart c d p q y z h1 h2 h3 h4 hne h5 h6
theorem HRel.kill {C : Ctx} {σ : Sig} {h : AH} {w : World} (k : HRel C σ h w) {b : Nat} {m : Tr AO} (hm : h.m.Put b .dead m) : HRel C σ ⟨m, h.nx⟩ w := by
  have hold : ∀ c p, m.get c = some p → p ≠ .dead → h.m.get c = some p := fun c p h1 h2 => by
    rw [hm c] at h1
    by_cases e : c = b
    · rw [if_pos e] at h1; cases h1; exact absurd rfl h2
    · rw [if_neg e] at h1; exact h1
  have ne : ∀ {p : AO}, p.owns = true → p ≠ .dead := fun h e => by subst e; simp [AO.owns] at h
  refine ⟨k.below, k.base, k.glob, k.fresh, k.nx, fun c p y h1 h2 => ?_, fun c p y h1 h2 h3 h4 => k.own c p y (hold c p h1 (ne h3)) h2 h3 h4,
    fun c d p q y z h1 h2 h3 h4 hne h5 h6 => k.apart c d p q y z (hold c p h1 (ne h5)) (hold d q h2 (ne h6)) h3 h4 hne h5 h6⟩
  by_cases hp : p = .dead
  · subst hp; trivial
  · exact k.obj c p y (hold c p h1 hp) h2
end Go.Refl
end
section
namespace Go.Refl
structure ATy where
  d : TypeDesc
  size : Nat
  bytes : Nat
  zero : AV
inductive ADef where
  | mark (b : Nat)
  | call (f : FuncId) (args captured : List AV)
structure AF where
  tm : Tr AV
  n : Nat
  df : List ADef
structure Env where
  ty : Tr ATy
  fn : Tr Func
  ng : Nat
  hook : FuncId → List AV → AH → (AV → AH → Bool) → Option Bool
  dhook : FuncId → List AV → Bool
noncomputable section
def fn_ (x : Nat) (g : Nat → Bool) : Bool := ncase (g 0) (fun n _ => g (Nat.succ n)) x
def fi (n : Int) (g : Int → Bool) : Bool := match n with | .ofNat m => fn_ m fun m => g (.ofNat m) | .negSucc m => fn_ m fun m => g (.negSucc m)
theorem fn_eq (x : Nat) (g : Nat → Bool) : fn_ x g = g x := by cases x <;> rfl
theorem fi_eq (n : Int) (g : Int → Bool) : fi n g = g n := by cases n <;> (unfold fi; exact fn_eq _ _)
def both (a b : Bool) : Bool := cond a b false
theorem both_eq (a b : Bool) : both a b = true ↔ a = true ∧ b = true := by cases a <;> simp [both]
def strK (l : List UInt8) : (List Nat → Bool) → Bool :=
  lrec (fun g => g []) (fun c _ ih g => ih fun s => fn_ c.toNat fun n => g (n :: s)) l
def nth {α : Type} (l : List α) : Nat → Option α :=
  lrec (fun _ => none) (fun x _ ih n => ncase (some x) (fun n _ => ih n) n) l
theorem nth_eq {α : Type} : ∀ (l : List α) (n : Nat), nth l n = l[n]?
  | [], _ => rfl
  | _ :: _, 0 => rfl
  | _ :: l, n + 1 => nth_eq l n
def cst1 (v : Value) (g : AV → Bool) : Bool :=
  match v with
  | .bool b => g (.bool b)
  | .int k n => fi n fun n => g (.int k n)
  | .string s => strK s.data.toList fun s => g (.str s)
  | .pointer none => g .pnil
  | .slice none l c => ncase (ncase (g .snil) (fun _ _ => false) c) (fun _ _ => false) l
  | .map none => g .mnil
  | .nilFunc => g .fnil
  | .nilIface => g .inil
  | .func (.func f) a c => match a.toList, c.toList with | [], [] => g (.fn f [] []) | _, _ => false
  | .tuple vs => match vs.toList with | [] => g (.tup []) | _ => false
  | _ => false
def cstL (l : List Value) : (List AV → Bool) → Bool :=
  lrec (fun g => g []) (fun v _ ih g => cst1 v fun v => ih fun l => g (v :: l)) l
def cst (v : Value) (g : AV → Bool) : Bool :=
  match v with
  | .agg cs => cstL cs.toList fun l => g (.agg l)
  | v => cst1 v g
def ev (E : Env) (o : Operand) (tm : Tr AV) (g : AV → Bool) : Bool :=
  match o with
  | .tmp t => ocase (g (.tup [])) (fun v => g v) (tm.get t)
  | .const v => cst v g
  | .global n => cond (Nat.ble (Nat.succ n) E.ng) (g (.ptr n 0)) false
  | .func f => g (.fn f [] [])
def evL (E : Env) (l : List Operand) (tm : Tr AV) : (List AV → Bool) → Bool :=
  lrec (fun g => g []) (fun o _ ih g => ev E o tm fun v => ih fun l => g (v :: l)) l
def put (a : AF) (dst : Option Tmp) (v : AV) (k : AF → Bool) : Bool :=
  match dst with
  | none => k a
  | some d => cond (Nat.ble (Nat.succ d) a.n) (a.tm.set d v fun tm => k ⟨tm, a.n, a.df⟩) false
def lim : IntKind → Nat
  | .i8 => 0x80 | .u8 => 0x100 | .i16 => 0x8000 | .u16 => 0x10000 | .i32 => 0x80000000 | .u32 => 0x100000000 | .i64 => 0x8000000000000000 | .u64 => 0x10000000000000000
def inR (k : IntKind) (n : Int) : Bool :=
  match n with
  | .ofNat m => Nat.ble (Nat.succ m) (lim k)
  | .negSucc m => cond k.signed (Nat.ble (Nat.succ m) (lim k)) false
def wr (k : IntKind) (n : Int) (g : AV → Bool) : Bool :=
  fi n fun n => cond (inR k n) (g (.int k n)) (fi (k.wrap n) fun n => g (.int k n))
def ltI (a b : Int) : Bool :=
  match a, b with
  | .ofNat a, .ofNat b => Nat.ble (Nat.succ a) b
  | .ofNat _, .negSucc _ => false
  | .negSucc _, .ofNat _ => true
  | .negSucc a, .negSucc b => Nat.ble (Nat.succ b) a
def eqI (a b : Int) : Bool :=
  match a, b with
  | .ofNat a, .ofNat b => Nat.beq a b
  | .negSucc a, .negSucc b => Nat.beq a b
  | _, _ => false
def eqK (a b : IntKind) : Bool :=
  match a, b with
  | .i8, .i8 | .i16, .i16 | .i32, .i32 | .i64, .i64 | .u8, .u8 | .u16, .u16 | .u32, .u32 | .u64, .u64 => true
  | _, _ => false
def binI (op : BinOp) (k : IntKind) (x y : Int) (g : AV → Bool) : Bool :=
  match op with
  | .add => wr k (Int.add x y) g
  | .sub => wr k (Int.sub x y) g
  | .mul => wr k (Int.mul x y) g
  | .quo => cond (eqI y 0) false (wr k (Int.tdiv x y) g)
  | .rem => cond (eqI y 0) false (fi (Int.tmod x y) fun n => g (.int k n))
  | .and => wr k (((BitVec.ofInt k.bits x) &&& (BitVec.ofInt k.bits y)).toNat : Nat) g
  | .or => wr k (((BitVec.ofInt k.bits x) ||| (BitVec.ofInt k.bits y)).toNat : Nat) g
  | .xor => wr k (((BitVec.ofInt k.bits x) ^^^ (BitVec.ofInt k.bits y)).toNat : Nat) g
  | .eql => g (.bool (eqI x y))
  | .neq => g (.bool (not (eqI x y)))
  | .lss => g (.bool (ltI x y))
  | .leq => g (.bool (not (ltI y x)))
  | .gtr => g (.bool (ltI y x))
  | .geq => g (.bool (not (ltI x y)))
  | _ => false
def shI (op : BinOp) (k : IntKind) (x : Int) (y : Int) (g : AV → Bool) : Bool :=
  match y with
  | .ofNat n =>
    match op with
    | .shl => fn_ (min n k.bits) fun n => fn_ (Nat.pow 2 n) fun p => wr k (Int.mul x (.ofNat p)) g
    | .shr => fn_ (min n k.bits) fun n => fn_ (Nat.pow 2 n) fun p => fi (Int.fdiv x (.ofNat p)) fun n => g (.int k n)
    | _ => false
  | _ => false
def eqS (a : List Nat) : List Nat → Bool :=
  lrec (fun b => match b with | [] => true | _ => false)
    (fun x _ ih b => match b with | [] => false | y :: b => cond (Nat.beq x y) (ih b) false) a
def appS (a b : List Nat) : (List Nat → Bool) → Bool :=
  lrec (fun g => g b) (fun x _ ih g => ih fun l => g (x :: l)) a
def bBool (b : Bool) (g : Bool → Bool) : Bool := cond b (g true) (g false)
def eqV (E : Env) (t : TypeId) (x y : AV) (g : Bool → Bool) : Bool :=
  match E.ty.get t with
  | none => false
  | some a =>
    match a.d, x, y with
    | .bool, .bool p, .bool q => bBool (cond p q (not q)) g
    | .pointer _, .pnil, .pnil => g true
    | .pointer _, .pnil, .ptr _ _ => g false
    | .pointer _, .ptr _ _, .pnil => g false
    | .pointer e, .ptr b o, .ptr c p => match E.ty.get e with
      | some e => cond (both (Nat.beq b c) (Nat.ble 1 e.size)) (bBool (Nat.beq o p) g) false
      | none => false
    | .interface _, .inil, .iface _ _ => g false
    | .interface _, .iface _ _, .inil => g false
    | .slice _, .snil, .snil => g true
    | .slice _, .snil, .sl .. => g false
    | .slice _, .sl .., .snil => g false
    | .map _ _, .mnil, .mnil => g true
    | .map _ _, .mnil, .map _ => g false
    | .map _ _, .map _, .mnil => g false
    | .func _ _ _, .fnil, .fnil => g true
    | .func _ _ _, .fnil, .fn .. => g false
    | .func _ _ _, .fn .., .fnil => g false
    | _, _, _ => false
def binV (E : Env) (op : BinOp) (t : TypeId) (xo yo : Operand) (x y : AV) (g : AV → Bool) : Bool :=
  match x, y with
  | .int k a, .int k' b =>
    match op with
    | .shl | .shr => shI op k a b g
    | op => cond (eqK k k') (binI op k a b g) false
  | .str a, .str b =>
    match op with
    | .add => cond (Nat.ble (Nat.add a.length b.length) 0x100000000) (appS a b fun s => g (.str s)) false
    | .eql => bBool (eqS a b) fun r => g (.bool r)
    | .neq => bBool (eqS a b) fun r => g (.bool (not r))
    | _ => false
  | .inil, .inil =>
    match xo, yo with
    | .const _, _ | _, .const _ => match E.ty.get t with
      | some { d := .interface _, .. } => match op with
        | .eql => g (.bool true)
        | .neq => g (.bool false)
        | _ => false
      | _ => false
    | _, _ => false
  | x, y =>
    match op with
    | .eql => eqV E t x y fun r => g (.bool r)
    | .neq => eqV E t x y fun r => g (.bool (not r))
    | _ => false
def unV (op : UnOp) (x : AV) (g : AV → Bool) : Bool :=
  match op, x with
  | .neg, .int k n => wr k (Int.sub 0 n) g
  | .xor, .int k n => wr k (((BitVec.ofInt k.bits (if k.signed then -1 else k.max)) ^^^ (BitVec.ofInt k.bits n)).toNat : Nat) g
  | .not, .bool b => g (.bool (not b))
  | _, _ => false
def isBad : AV → Bool
  | .bad => true
  | _ => false
def scal : AV → Bool
  | .bad | .agg _ | .tup _ => false
  | _ => true
def dropK {α : Type} (n : Nat) : List α → (List α → Bool) → Bool :=
  nrec (fun l g => g l) (fun _ ih l g => match l with | [] => g [] | _ :: l => ih l g) n
def takeK (n : Nat) : List AV → (List AV → Bool) → Bool :=
  nrec (fun _ g => g [])
    (fun _ ih l g => match l with | [] => false | v :: l => cond (isBad v) false (ih l fun r => g (v :: r))) n
def takeA (n : Nat) : List AV → (List AV → Bool) → Bool :=
  nrec (fun _ g => g [])
    (fun _ ih l g => match l with | [] => false | v :: l => ih l fun r => g (v :: r)) n
def overK (vs : List AV) : List AV → (List AV → Bool) → Bool :=
  lrec (fun l g => g l)
    (fun v _ ih l g => match l with | [] => false | _ :: l => cond (scal v) (ih l fun r => g (v :: r)) false) vs
def spliceK (o : Nat) (vs : List AV) : List AV → (List AV → Bool) → Bool :=
  nrec (fun l g => overK vs l g)
    (fun _ ih l g => match l with | [] => false | u :: l => ih l fun r => g (u :: r)) o
def cellsOf (v : AV) : List AV :=
  match v with
  | .agg cs => cs
  | v => [v]
def rdK (h : AH) (b o n : Nat) (g : List AV → Bool) : Bool :=
  match h.m.get b with
  | some (.cells cs _ _ _) => dropK o cs fun l => takeK n l g
  | _ => false
def wrK (h : AH) (b o : Nat) (vs : List AV) (g : AH → Bool) : Bool :=
  match h.m.get b with
  | some (.cells cs e z false) => spliceK o vs cs fun cs => h.m.set b (.cells cs e z false) fun m => g ⟨m, h.nx⟩
  | _ => false
def newK (h : AH) (o : AO) (g : Nat → AH → Bool) : Bool :=
  h.m.set h.nx o fun m => fn_ (Nat.succ h.nx) fun n => g h.nx ⟨m, n⟩
def isAggD : TypeDesc → Bool
  | .struct _ | .array .. => true
  | _ => false
def loadK (E : Env) (t : TypeId) (b o : Nat) (h : AH) (g : AV → Bool) : Bool :=
  match E.ty.get t with
  | none => false
  | some a => cond (isAggD a.d) (rdK h b o a.size fun cs => g (.agg cs)) (rdK h b o 1 fun cs => match cs with | [v] => g v | _ => false)
def storeK (E : Env) (t : TypeId) (b o : Nat) (v : AV) (h : AH) (g : AH → Bool) : Bool :=
  match E.ty.get t with
  | none => false
  | some a => cond (Nat.beq (cellsOf v).length a.size) (wrK h b o (cellsOf v) g) false
def varK (E : Env) (t : TypeId) (v : AV) (h : AH) (g : AV → AH → Bool) : Bool :=
  match E.ty.get t with
  | none => false
  | some a => newK h (.cells (cellsOf v) t 0 false) fun b h => g (.ptr b 0) h
def partK (E : Env) (t : TypeId) (cs : List AV) (o : Nat) (g : AV → Bool) : Bool :=
  match E.ty.get t with
  | none => false
  | some a => dropK o cs fun l => cond (isAggD a.d) (takeK a.size l fun l => g (.agg l)) (match l with | v :: _ => g v | [] => false)
def fillK (E : Env) (place : Nat → (Nat → Nat → Bool) → Bool) (tm : Tr AV) (ps : List (Nat × Operand)) : List AV → (List AV → Bool) → Bool :=
  lrec (fun cs g => g cs)
    (fun p _ ih cs g => ev E p.2 tm fun v => place p.1 fun off size => cond (Nat.beq (cellsOf v).length size) (spliceK off (cellsOf v) cs fun cs => ih cs g) false) ps
def repK (z : List AV) (n : Nat) : (List AV → Bool) → Bool :=
  nrec (fun g => g []) (fun _ ih g => ih fun l => g (z ++ l)) n
def u8s (s : List Nat) : (List AV → Bool) → Bool :=
  lrec (fun g => g []) (fun n _ ih g => ih fun l => g (.int .u8 (.ofNat n) :: l)) s
def ofU8s (l : List AV) : (List Nat → Bool) → Bool :=
  lrec (fun g => g []) (fun v _ ih g => match v with | .int .u8 (.ofNat n) => cond (Nat.ble n 255) (ih fun s => g (n :: s)) false | _ => false) l
def okL (vs : List AV) : Bool := lrec true (fun v _ ih => cond (isBad v) false ih) vs
def allTy (E : Env) (fs : List Field) : Bool := lrec true (fun f _ ih => match E.ty.get f.type with | some _ => ih | none => false) fs
def srcK (h : AH) (size : Nat) (x : AV) (g : List AV → Nat → Bool) : Bool :=
  match x with
  | .snil => g [] 0
  | .sl b o len _ _ => fn_ (Nat.mul len size) fun n => rdK h b o n fun cs => g cs len
  | .str s => cond (Nat.beq size 1) (u8s s fun l => fn_ s.length fun n => g l n) false
  | _ => false
def scalL (vs : List AV) : Bool := lrec true (fun v _ ih => cond (scal v) ih false) vs
def appendK (E : Env) (st xt : TypeId) (s x : AV) (h : AH) (g : AV → AH → Bool) : Bool :=
  match E.ty.get st, E.ty.get xt with
  | some { d := .slice e, .. }, some x' =>
    match E.ty.get e with
    | none => false
    | some a =>
      cond (both (both (Nat.ble 1 a.size) (Nat.ble 1 a.bytes)) (both (both (Nat.ble a.bytes 65536) (both (not (isBad a.zero)) (Nat.beq (cellsOf a.zero).length a.size))) (match x'.d with | .int _ => false | _ => true)))
        (srcK h a.size x fun xs n =>
          match s with
          | .snil => ncase (g .snil h) (fun _ _ => cond (Nat.ble n 1048576) (newK h (.cells xs e a.size false) fun b h => g (.sl b 0 n n true) h) false) n
          | .sl b o len cap opened =>
            fn_ (Nat.add len n) fun need =>
            cond (Nat.ble need cap)
              (ncase (g (.sl b o need cap opened) h) (fun _ _ => fn_ (Nat.add o (Nat.mul len a.size)) fun at_ => wrK h b at_ xs fun h => g (.sl b o need cap opened) h) n)
              (cond (Nat.ble need 1048576)
                (match h.m.get b with
                | some (.tail b' L) => cond (both opened (both (scalL xs) (both (Nat.beq (Nat.add cap len) 0) (Nat.beq o 0)))) (match h.m.get b' with
                  | some (.cells cs e' z false) => cond (both (Nat.beq cs.length L) (both (Nat.beq z a.size) (Nat.beq e' e)))
                    (h.m.set b' .dead fun m => m.set b .dead fun m => newK ⟨m, h.nx⟩ (.cells xs e a.size false) fun b h => g (.sl b 0 need need true) h) false
                  | _ => false) false
                | _ =>
                fn_ (Nat.mul len a.size) fun m => rdK h b o m fun old =>
                  cond opened
                    (match h.m.get b with
                     | some (.cells cs e' z false) =>
                       cond (both (both (Nat.beq len cap) (both (scalL xs) (Nat.beq (Nat.add o m) cs.length))) (both (Nat.beq z a.size) (Nat.beq e' e)))
                         (h.m.set b .dead fun m => newK ⟨m, h.nx⟩ (.cells (old ++ xs) e a.size false) fun b h => g (.sl b 0 need need true) h) false
                     | _ => false)
                    (newK h (.cells (old ++ xs) e a.size false) fun b h => g (.sl b 0 need need true) h)) false)
          | _ => false)
        false
  | _, _ => false
def intN (v : AV) (g : Nat → Bool) : Bool :=
  match v with
  | .int _ (.ofNat n) => g n
  | _ => false
def takeS (n : Nat) : List Nat → (List Nat → Bool) → Bool :=
  nrec (fun _ g => g [])
    (fun _ ih l g => match l with | [] => false | v :: l => ih l fun r => g (v :: r)) n
def bndK (o : Option AV) (d : Nat) (f : Nat → Bool) : Bool :=
  match o with
  | none => f d
  | some v => intN v f
def sliceK (E : Env) (t : TypeId) (x : AV) (lo hi mx : Option AV) (h : AH) (g : AV → AH → Bool) : Bool :=
  match E.ty.get t with
  | none => false
  | some a =>
    match a.d, x with
    | .string, .str s =>
      match mx with
      | some _ => false
      | none => fn_ s.length fun L => bndK hi L fun hh => bndK lo 0 fun l =>
          cond (both (Nat.ble l hh) (Nat.ble hh L)) (dropK l s fun s => fn_ (Nat.sub hh l) fun n => takeS n s fun s => g (.str s) h) false
    | .slice e, .snil =>
      match E.ty.get e with
      | none => false
      | some _ =>
      match mx with
      | some _ => false
      | none => bndK hi 0 fun hh => bndK lo 0 fun l => cond (both (Nat.beq hh 0) (Nat.beq l 0)) (g .snil h) false
    | .slice e, .sl b o len cap opened =>
      match E.ty.get e with
      | none => false
      | some ea =>
        match mx with
        | none =>
          bndK hi len fun hh => bndK lo 0 fun l =>
            cond (both (Nat.ble l hh) (Nat.ble hh cap))
              (cond (Nat.beq l cap)
                (cond opened (cond (Nat.beq l 0) (g (.sl b o 0 0 true) h) (match h.m.get b with
                 | some (.cells cs _ z false) => cond (both (Nat.beq (Nat.add o (Nat.mul cap ea.size)) cs.length) (Nat.beq z ea.size)) (fn_ cs.length fun L => newK h (.tail b L) fun b h => g (.sl b 0 0 0 true) h) false
                 | _ => false)) (g (.sl b o 0 0 false) h))
                (fn_ (Nat.add o (Nat.mul l ea.size)) fun o => fn_ (Nat.sub hh l) fun n => fn_ (Nat.sub cap l) fun c => g (.sl b o n c opened) h)) false
        | some m =>
          match hi with
          | none => false
          | some v =>
            intN m fun m => intN v fun hh => bndK lo 0 fun l =>
              cond (both (both (Nat.ble l hh) (Nat.ble hh m)) (Nat.ble m cap))
                (cond (Nat.beq m l) (g (.sl b o 0 0 false) h)
                  (fn_ (Nat.add o (Nat.mul l ea.size)) fun o => fn_ (Nat.sub hh l) fun n => fn_ (Nat.sub m l) fun c => g (.sl b o n c false) h)) false
    | .array n e, .ptr b o =>
      match E.ty.get e with
      | none => false
      | some _ =>
      match lo, hi, mx with
      | none, none, none => cond (Nat.ble 1 n) (g (.sl b o n n false) h) false
      | _, _, _ => false
    | _, _ => false
def eqL (a : List AV) : List AV → (Bool → Bool) → Bool :=
  lrec (fun b g => match b with | [] => g true | _ => false)
    (fun x _ ih b g => match b with
      | [] => false
      | y :: b => match x, y with
        | .int k m, .int k' n => cond (eqK k k') (cond (eqI m n) (ih b g) (ih b fun _ => g false)) false
        | _, _ => false) a
def eqKey (x y : AV) (g : Bool → Bool) : Bool :=
  match x, y with
  | .int k a, .int k' b => cond (eqK k k') (bBool (eqI a b) g) false
  | .str a, .str b => bBool (eqS a b) g
  | .agg a, .agg b => eqL a b g
  | _, _ => false
def findK (k : AV) (es : List (AV × AV × Nat)) : (Option AV → Bool) → Bool :=
  lrec (fun g => g none)
    (fun e _ ih g => eqKey k e.1 fun r => cond r (g (some e.2.1)) (ih g)) es
def updK (k v : AV) (clock : Nat) (es : List (AV × AV × Nat)) : (List (AV × AV × Nat) → Bool → Bool) → Bool :=
  lrec (fun g => g [(k, v, clock)] true)
    (fun e es ih g => eqKey k e.1 fun r => cond r (g ((e.1, v, e.2.2) :: es) false) (ih fun l new => g (e :: l) new)) es
def intsL (cs : List AV) : Bool := lrec true (fun v _ ih => match v with | .int _ _ => ih | _ => false) cs
def keyKind (E : Env) (d : TypeDesc) (k : AV) : Bool :=
  match d, k with
  | .int _, .int _ _ => true
  | .string, .str _ => true
  | .array n e, .agg cs => match E.ty.get e with
    | some { d := .int _, size := 1, .. } => both (Nat.beq cs.length n) (intsL cs)
    | _ => false
  | _, _ => false
def bornL (es : List (AV × AV)) : List (AV × AV × Nat) := lrec [] (fun e _ ih => (e.1, e.2, 0) :: ih) es
def lookupK (E : Env) (t : TypeId) (x k : AV) (ok : Bool) (h : AH) (g : AV → Bool) : Bool :=
  match E.ty.get t with
  | some { d := .map kt et, .. } =>
    match E.ty.get kt, E.ty.get et with
    | some ka, some ea =>
      cond (keyKind E ka.d k)
        ((match x with
          | .mnil => fun (f : List (AV × AV × Nat) → Bool) => f []
          | .map b => fun f => match h.m.get b with | some (.map es _ _) => f es | some (.lmap es) => f (bornL es) | _ => false
          | _ => fun _ => false) fun es =>
          findK k es fun r => match r with
            | some v => cond (isBad v) false (cond ok (g (.tup [v, .bool true])) (g v))
            | none => cond (isBad ea.zero) false (cond ok (g (.tup [ea.zero, .bool false])) (g ea.zero))) false
    | _, _ => false
  | _ => false
def mapPutK (E : Env) (t : TypeId) (x k v : AV) (h : AH) (g : AH → Bool) : Bool :=
  match E.ty.get t with
  | some { d := .map kt _, .. } =>
    match E.ty.get kt with
    | some ka =>
      cond (both (keyKind E ka.d k) (not (isBad v)))
        (match x with
         | .map b => match h.m.get b with
           | some (.map es clock false) => updK k v clock es fun es new => fn_ (cond new (Nat.succ clock) clock) fun clock => h.m.set b (.map es clock false) fun m => g ⟨m, h.nx⟩
           | _ => false
         | _ => false) false
    | none => false
  | _ => false
end
end Go.Refl
end
section
namespace Go.Refl
inductive AExit where
  | normal
  | exit (id : Nat)
  | goto (l : Nat)
  | ret
inductive Tk where
  | code (c : Code)
  | scope (body rest : Code)
  | loop (body : Code)
noncomputable section
def optK {α β : Type} (o : Option α) (f : α → (β → Bool) → Bool) (g : Option β → Bool) : Bool :=
  match o with
  | none => g none
  | some a => f a fun b => g (some b)
def opK (E : Env) (op : Op) (tm : Tr AV) (h : AH) (g : AV → AH → Bool) : Bool :=
  (match op with
  | .move x => fun E tm h g => ev E x tm fun v => g v h
  | .assign x => fun E tm h g => ev E x tm fun v => g v h
  | .pick c x y => fun E tm h g => ev E c tm fun c => match c with
    | .bool b => cond b (ev E x tm fun v => g v h) (ev E y tm fun v => g v h)
    | _ => false
  | .alloc t => fun E tm h g => match E.ty.get t with
    | some a => cond (isBad a.zero) false (varK E t a.zero h g)
    | none => false
  | .box t x => fun E tm h g => ev E x tm fun v => cond (isBad v) false (varK E t v h g)
  | .build t ps => fun E tm h g => match E.ty.get t with
    | some { d := .struct fs, zero := .agg z, .. } =>
      cond (allTy E fs.toList) (fillK E (fun i f => match nth fs.toList i with | some fd => (match E.ty.get fd.type with | some fa => f fd.offset fa.size | none => false) | none => false) tm ps.toList z fun cs => g (.agg cs) h) false
    | some { d := .array _ e, zero := .agg z, .. } => match E.ty.get e with
      | some ea => fillK E (fun i f => fn_ (Nat.mul i ea.size) fun o => f o ea.size) tm ps.toList z fun cs => g (.agg cs) h
      | none => false
    | _ => false
  | .buildSlice t len ps => fun E tm h g => match E.ty.get t with
    | some { d := .slice e, .. } => match E.ty.get e with
      | some ea => cond (both (Nat.ble (Nat.mul len ea.size) 65536) (both (not (isBad ea.zero)) (Nat.beq (cellsOf ea.zero).length ea.size))) (repK (cellsOf ea.zero) len fun z =>
          fillK E (fun i f => fn_ (Nat.mul i ea.size) fun o => f o ea.size) tm ps.toList z fun cs => newK h (.cells cs e ea.size false) fun b h => g (.sl b 0 len len false) h) false
      | none => false
    | _ => false
  | .insert t m k x => fun E tm h g => ev E m tm fun m => ev E k tm fun k => ev E x tm fun x => mapPutK E t m k x h fun h => g (.tup []) h
  | .load t x => fun E tm h g => ev E x tm fun x => match x with
    | .ptr b o => loadK E t b o h fun v => g v h
    | _ => false
  | .store t x v => fun E tm h g => ev E x tm fun x => ev E v tm fun v => match x with
    | .ptr b o => storeK E t b o v h fun h => g (.tup []) h
    | _ => false
  | .nilCheck x => fun E tm h g => ev E x tm fun x => match x with
    | .ptr _ _ => g x h
    | _ => false
  | .binOp op t x y _ => fun E tm h g => ev E x tm fun a => ev E y tm fun b => binV E op t x y a b fun v => g v h
  | .unOp op _ x => fun E tm h g => ev E x tm fun a => unV op a fun v => g v h
  | .convert s d x => fun E tm h g => ev E x tm fun x => match E.ty.get s, E.ty.get d with
    | some sa, some da => match sa.d, da.d, x with
      | .int _, .int k, .int _ n => wr k n fun v => g v h
      | .string, .slice e, .str s => (match E.ty.get e with
        | some { d := .int .u8, size := 1, .. } => u8s s fun cs => fn_ s.length fun n => newK h (.cells cs e 1 false) fun b h => g (.sl b 0 n n true) h
        | _ => false)
      | .slice e, .string, .snil => (match E.ty.get e with
        | some { d := .int .u8, .. } => g (.str []) h
        | _ => false)
      | .slice e, .string, .sl b o len _ _ => (match E.ty.get e with
        | some { d := .int .u8, .. } => rdK h b o len fun cs => ofU8s cs fun s => g (.str s) h
        | _ => false)
      | .slice _, .slice e, .sl b o len cap opened => (match E.ty.get e with
        | some { d := .int .u8, .. } => cond (Nat.beq s d) (match h.m.get b with
          | some (.cells _ _ _ false) => g (.sl b o len cap opened) h
          | _ => false) false
        | _ => false)
      | _, _, _ => false
    | _, _ => false
  | .makeFunc (.func f) first captured => fun E tm h g => evL E first.toList tm fun a => evL E captured.toList tm fun c => cond (both (okL a) (okL c)) (g (.fn f a c) h) false
  | .makeMap _ none => fun E tm h g => newK h (.map [] 0 false) fun b h => g (.map b) h
  | .makeSlice t l c => fun E tm h g => ev E l tm fun l => ev E c tm fun c => intN l fun l => intN c fun c => match E.ty.get t with
    | some { d := .slice e, .. } => match E.ty.get e with
      | some ea => cond (both (both (Nat.ble l c) (Nat.ble c 65536)) (both (Nat.ble ea.bytes 65536) (both (not (isBad ea.zero)) (Nat.beq (cellsOf ea.zero).length ea.size))))
          (repK (cellsOf ea.zero) c fun z => newK h (.cells z e ea.size false) fun b h => g (.sl b 0 l c false) h) false
      | none => false
    | _ => false
  | .slice t x lo hi mx => fun E tm h g => ev E x tm fun x => optK lo (fun o f => ev E o tm f) fun lo => optK hi (fun o f => ev E o tm f) fun hi => optK mx (fun o f => ev E o tm f) fun mx => sliceK E t x lo hi mx h g
  | .fieldAddr t x f => fun E tm h g => ev E x tm fun x => match E.ty.get t, x with
    | some { d := .struct fs, .. }, .ptr b o => match nth fs.toList f with
      | some fd => match E.ty.get fd.type with
        | some fa => cond (Nat.ble 1 fa.size) (fn_ (Nat.add o fd.offset) fun o => g (.ptr b o) h) false
        | none => false
      | none => false
    | _, _ => false
  | .field t x f => fun E tm h g => ev E x tm fun x => match E.ty.get t, x with
    | some { d := .struct fs, .. }, .agg cs => match nth fs.toList f with
      | some fd => partK E fd.type cs fd.offset fun v => g v h
      | none => false
    | _, _ => false
  | .indexAddr t x i => fun E tm h g => ev E x tm fun x => ev E i tm fun i => intN i fun i => match E.ty.get t with
    | some { d := .array n e, .. } => match x, E.ty.get e with
      | .ptr b o, some ea => cond (Nat.ble (Nat.succ i) n) (fn_ (Nat.add o (Nat.mul i ea.size)) fun o => g (.ptr b o) h) false
      | _, _ => false
    | some { d := .slice e, .. } => match x, E.ty.get e with
      | .sl b o len _ _, some ea => cond (Nat.ble (Nat.succ i) len) (fn_ (Nat.add o (Nat.mul i ea.size)) fun o => g (.ptr b o) h) false
      | _, _ => false
    | _ => false
  | .index t x i => fun E tm h g => ev E x tm fun x => ev E i tm fun i => intN i fun i => match E.ty.get t with
    | some { d := .array n e, .. } => match x, E.ty.get e with
      | .agg cs, some ea => cond (Nat.ble (Nat.succ i) n) (fn_ (Nat.mul i ea.size) fun o => partK E e cs o fun v => g v h) false
      | _, _ => false
    | some { d := .string, .. } => match x with
      | .str s => match nth s i with
        | some c => g (.int .u8 (.ofNat c)) h
        | none => false
      | _ => false
    | _ => false
  | .lookup t x i ok => fun E tm h g => ev E x tm fun x => ev E i tm fun i => lookupK E t x i ok h fun v => g v h
  | .mapUpdate t m k x => fun E tm h g => ev E m tm fun m => ev E k tm fun k => ev E x tm fun x => mapPutK E t m k x h fun h => g (.tup []) h
  | .range t x => fun E tm h g => ev E x tm fun x => match E.ty.get t, x with
    | some { d := .string, .. }, .str s => newK h (.iter s 0) fun b h => g (.ptr b 0) h
    | _, _ => false
  | .next x true => fun E tm h g => ev E x tm fun x => match x with
    | .ptr b 0 => match h.m.get b with
      | some (.iter s pos) => match nth s pos with
        | some c => cond (Nat.ble c 127) (h.m.set b (.iter s (Nat.succ pos)) fun m => fn_ pos fun p => g (.tup [.bool true, .int .i64 (.ofNat p), .int .i32 (.ofNat c)]) ⟨m, h.nx⟩) false
        | none => g (.tup [.bool false]) h
      | _ => false
    | _ => false
  | .extract x i => fun E tm h g => ev E x tm fun x => match x with
    | .tup vs => match nth vs i with
      | some v => cond (isBad v) false (g v h)
      | none => false
    | _ => false
  | .call { callee := .builtin b, args, argTypes } => fun E tm h g =>
    match b, args.toList, argTypes.toList with
    | .len, [x], [t] => ev E x tm fun x => (match E.ty.get t with
      | some a => match a.d, x with
        | .string, .str s => fn_ s.length fun n => g (.int .i64 (.ofNat n)) h
        | .array n _, _ => g (.int .i64 (.ofNat n)) h
        | .slice _, .snil => g (.int .i64 (.ofNat 0)) h
        | .slice _, .sl _ _ n _ _ => g (.int .i64 (.ofNat n)) h
        | .map _ _, .mnil => g (.int .i64 (.ofNat 0)) h
        | .map _ _, .map b => (match h.m.get b with | some (.map es _ _) => fn_ es.length fun n => g (.int .i64 (.ofNat n)) h | _ => false)
        | _, _ => false
      | none => false)
    | .cap, [x], [t] => ev E x tm fun x => (match E.ty.get t with
      | some a => match a.d, x with
        | .slice _, .snil => g (.int .i64 (.ofNat 0)) h
        | .slice _, .sl _ _ _ c false => g (.int .i64 (.ofNat c)) h
        | _, _ => false
      | none => false)
    | .max, [x, y], _ => ev E x tm fun x => ev E y tm fun y => (match x, y with
      | .int k a, .int _ b => g (.int k (cond (ltI a b) b a)) h
      | _, _ => false)
    | .min, [x, y], _ => ev E x tm fun x => ev E y tm fun y => (match x, y with
      | .int k a, .int _ b => g (.int k (cond (ltI b a) b a)) h
      | _, _ => false)
    | .append, [s, x], [st, xt] => ev E s tm fun s => ev E x tm fun x => appendK E st xt s x h g
    | .copy, [d, s], [dt, _] => ev E d tm fun d => ev E s tm fun s => (match E.ty.get dt with
      | some { d := .slice e, .. } => match E.ty.get e with
        | some ea => match d with
          | .sl b o len _ _ => srcK h ea.size s fun cs n =>
            cond (Nat.ble n len) (ncase (g (.int .i64 (.ofNat 0)) h) (fun _ _ => wrK h b o cs fun h => g (.int .i64 (.ofNat n)) h) n) false
          | _ => false
        | none => false
      | _ => false)
    | _, _, _ => false
  | _ => fun _ _ _ _ => false : Env → Tr AV → AH → (AV → AH → Bool) → Bool) E tm h g
def wantV (want : Bool) (v : AV) (g : Bool → Bool) : Bool :=
  match v with
  | .bool b => bBool (cond b want (not want)) g
  | .bad => false
  | _ => g false
def wantK (ops : List Oper) (o : Oper) (tm : Tr AV) (g : Bool → Bool) : Bool :=
  match o.guard with
  | none => g true
  | some (j, want) =>
    match nth ops j with
    | some { dst := some d, .. } => ocase (g false) (fun v => wantV want v g) (tm.get d)
    | _ => g false
abbrev Rec := Option Nat → Tk → AF → AH → (AExit → AF → AH → Bool) → Bool
def initK (args : List AV) : Nat → Tr AV → (Tr AV → Bool) → Bool :=
  lrec (fun _ t g => g t) (fun v _ ih i t g => t.set i v fun t => fn_ (Nat.succ i) fun i => ih i t g) args
def resK (E : Env) (tm : Tr AV) (h : AH) (rs : List ResultVar) : (List AV → Bool) → Bool :=
  lrec (fun g => g [])
    (fun r _ ih g => match r with
      | .tmp t => ev E (.tmp t) tm fun v => cond (isBad v) false (ih fun l => g (v :: l))
      | .cell a t => ev E (.tmp a) tm fun p => match p with
        | .ptr b o => loadK E t b o h fun v => ih fun l => g (v :: l)
        | _ => false) rs
def leaveK (E : Env) (ds : List ADef) : AH → (AH → Bool) → Bool :=
  lrec (fun h g => g h)
    (fun d _ ih h g => match d with
      | .mark b => match h.m.get b with
        | some (.dfr false) => h.m.set b (.dfr true) fun m => ih ⟨m, h.nx⟩ g
        | _ => false
      | .call f args captured => cond (E.dhook f (args ++ captured)) (ih h g) false) ds
def endK (E : Env) (fn : Func) (e : AExit) (a : AF) (h : AH) (g : AV → AH → Bool) : Bool :=
  match e with
  | .normal | .ret => leaveK E a.df h fun h => resK E a.tm h fn.results.toList fun vs => match vs with
    | [v] => g v h
    | vs => g (.tup vs) h
  | _ => false
def callK (E : Env) (rec : Rec) (f : FuncId) (args : List AV) (h : AH) (g : AV → AH → Bool) : Bool :=
  match E.hook f args h g with
  | some r => r
  | none => match E.fn.get f with
    | none => false
    | some fn => match fn.body with
      | none => false
      | some c => cond (Nat.ble args.length fn.ntmps) (initK args 0 .leaf fun tm => rec none (.code c) ⟨tm, fn.ntmps, []⟩ h fun e a h => endK E fn e a h g) false
def jumpOf : AExit → Option Code
  | .normal => none
  | .exit id => some (.exit id)
  | .goto l => some (.goto l)
  | .ret => some .ret
def zipPut (n : Nat) (ps : List Nat) : List AV → Tr AV → (Tr AV → Bool) → Bool :=
  lrec (fun vs t g => match vs with | [] => g t | _ => false)
    (fun p _ ih vs t g => match vs with | [] => false | v :: vs => cond (Nat.ble (Nat.succ p) n) (t.set p v fun t => ih vs t g) false) ps
def yieldK (rec : Rec) (l : Nat) (args : List AV) (h : AH) (g : AV → AH → Bool) : Bool :=
  match h.m.get l with
  | some (.loop .ready none tm n ps assign body d) =>
    zipPut n ps.toList args tm fun tm' => rec (some l) (.code assign) ⟨tm', n, []⟩ h fun e a h => match e with
      | .normal => match h.m.get l with
        | some (.loop .ready none tm n ps assign body' d) => h.m.set l (.loop .busy none tm n ps assign body' d) fun m =>
          rec (some l) (.code body) a ⟨m, h.nx⟩ fun e a h => match h.m.get l with
            | some (.loop .busy none tm n ps assign body d) =>
              match e with
              | .normal => h.m.set l (.loop .ready none tm n ps assign body d) fun m => g (.bool true) ⟨m, h.nx⟩
              | e => h.m.set l (.loop .done (jumpOf e) tm n ps assign body d) fun m => g (.bool false) ⟨m, h.nx⟩
            | _ => false
        | _ => false
      | _ => false
  | _ => false
def applyK (E : Env) (rec : Rec) (f : AV) (args : List AV) (h : AH) (g : AV → AH → Bool) : Bool :=
  match f with
  | .fn f first captured => callK E rec f (first ++ args ++ captured) h g
  | .yield l => yieldK rec l args h g
  | _ => false
def operK (E : Env) (rec : Rec) (rd : Option Nat) (o : Oper) (a : AF) (h : AH) (k : AF → AH → Bool) : Bool :=
  match o.op with
  | .call { callee := .value f, args, .. } => ev E f a.tm fun f => evL E args.toList a.tm fun args => applyK E rec f args h fun v h => put a o.dst v fun a => k a h
  | .defer { callee := .value f, args, .. } => match rd with
    | none => ev E f a.tm fun f => evL E args.toList a.tm fun args => match f with
      | .fn f first captured => put ⟨a.tm, a.n, .call f (first ++ args) captured :: a.df⟩ o.dst (.tup []) fun a => k a h
      | _ => false
    | some _ => false
  | op => opK E op a.tm h fun v h => put a o.dst v fun a => k a h
def opsK (E : Env) (rec : Rec) (rd : Option Nat) (ops : List Oper) (l : List Oper) : AF → AH → (AF → AH → Bool) → Bool :=
  lrec (fun a h k => k a h)
    (fun o _ ih a h k => wantK ops o a.tm fun w => cond w (operK E rec rd o a h fun a h => ih a h k) (put a o.dst (.tup []) fun a => ih a h k)) l
def pendK (rec : Rec) (rd : Option Nat) (pending : Option Code) (a : AF) (h : AH) (k : AExit → AF → AH → Bool) : Bool :=
  match pending with
  | none => k .normal a h
  | some c => rec rd (.code c) a h k
def rangeK (E : Env) (rec : Rec) (rd : Option Nat) (f : Operand) (ps : Array Tmp) (assign body : Code) (a : AF) (h : AH) (k : AExit → AF → AH → Bool) : Bool :=
  (match rd with
   | none => fun (g : Nat → List ADef → AH → Bool) => newK h (.dfr false) fun b h => g b [.mark b] h
   | some l => fun g => match h.m.get l with
     | some (.loop _ _ _ _ _ _ _ d) => g d [] h
     | _ => false) fun d mark h =>
  newK h (.loop .ready none a.tm a.n ps assign body d) fun l h => ev E f a.tm fun f => match f with
    | .fn f first captured => callK E rec f (first ++ [AV.yield l] ++ captured) h fun _ h =>
      match h.m.get l with
      | some (.loop st pending tm n ps assign body d) =>
        match st with
        | .busy => false
        | _ => h.m.set l (.loop .exhausted pending tm n ps assign body d) fun m => pendK rec rd pending ⟨a.tm, a.n, mark ++ a.df⟩ ⟨m, h.nx⟩ k
      | _ => false
    | _ => false
def scopeK (rec : Rec) (rd : Option Nat) (body : Code) (k : AExit → AF → AH → Bool) (e : AExit) (a : AF) (h : AH) : Bool :=
  match e with
  | .goto l => match findLabel body l with
    | some rest => rec rd (.scope body rest) a h k
    | none => k (.goto l) a h
  | e => k e a h
def stepK (E : Env) (drawn : Rec → Option Nat → List Oper → AF → AH → (AF → AH → Bool) → Bool) (rec : Rec) : Rec :=
  fun rd t a h k =>
  match t with
  | .code c =>
    (match c with
    | .skip => k .normal a h
    | .label _ => k .normal a h
    | .region _ ops false => opsK E rec rd ops.toList ops.toList a h fun a h => k .normal a h
    | .region _ ops true => drawn rec rd ops.toList a h fun a h => k .normal a h
    | .seq x y => rec rd (.code x) a h fun e a h => match e with
      | .normal => rec rd (.code y) a h k
      | e => k e a h
    | .cond c x y => ev E c a.tm fun c => match c with
      | .bool b => cond b (rec rd (.code x) a h k) (rec rd (.code y) a h k)
      | _ => false
    | .block id b => rec rd (.code b) a h fun e a h => match e with
      | .exit i => cond (Nat.beq i id) (k .normal a h) (k (.exit i) a h)
      | e => k e a h
    | .loop b => rec rd (.loop b) a h k
    | .rangeFunc f ps assign body => rangeK E rec rd f ps assign body a h k
    | .exit id => k (.exit id) a h
    | .scope b => rec rd (.code b) a h fun e a h => scopeK rec rd b k e a h
    | .goto l => k (.goto l) a h
    | .ret => k .ret a h
    | .refuse _ => false)
  | .scope body rest => rec rd (.code rest) a h fun e a h => scopeK rec rd body k e a h
  | .loop b => rec rd (.code b) a h fun e a h => match e with
    | .normal => rec rd (.loop b) a h k
    | e => k e a h
def run (E : Env) (drawn : Rec → Option Nat → List Oper → AF → AH → (AF → AH → Bool) → Bool) (n : Nat) : Rec :=
  nrec (fun _ _ _ _ _ => false) (fun _ ih => stepK E drawn ih) n
end
end Go.Refl
end
