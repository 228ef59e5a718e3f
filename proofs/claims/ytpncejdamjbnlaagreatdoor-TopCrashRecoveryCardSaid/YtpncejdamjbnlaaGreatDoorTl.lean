/-
  A part of the proof of TopCrashRecovery: the run of awake: tables, contracts, joining.
-/
import Derived.Test.YtpncejdamjbnlaaGreatDoorTh
import Derived.DefersIn
import Derived.KernelRfl
set_option linter.all false
section
namespace Go.Refl
open Go.Proofs Go.RowKit
def SortOk : Prop := ∀ C, Good C → ∀ (b : Nat) (h : AH) (g : AV → AH → Bool), sortK b h g = true → ∃ v h', g v h' = true ∧ CallOk Tryz.prog C 311 [.fn 358 [] [.ptr b 0]] h v h'
theorem some_true {b : Bool} (h : some b = some true) : b = true := by simpa using h
theorem hookT_ok (hS : SortOk) {C : Ctx} (hC : Good C) : ∀ f args h g, hookT f args h g = some true → ∃ v h', g v h' = true ∧ CallOk Tryz.prog C f args h v h' := by
  intro f args h g hk
  unfold hookT at hk
  cases h1 : Nat.beq f 227 with
  | true =>
    rw [h1, cond_true] at hk
    rw [beq_eq h1]
    split at hk
    · exact idx_ok hC (some_true hk)
    · cases hk
  | false =>
  rw [h1, cond_false] at hk
  cases h1 : Nat.beq f 219 with
  | true =>
    rw [h1, cond_true] at hk
    rw [beq_eq h1]
    split at hk
    · exact of_ok (some_true hk)
    · cases hk
  | false =>
  rw [h1, cond_false] at hk
  cases h1 : Nat.beq f 311 with
  | true =>
    rw [h1, cond_true] at hk
    rw [beq_eq h1]
    split at hk
    · obtain ⟨h2, hk⟩ := cond_f (some_true hk)
      rw [beq_eq h2]
      exact hS C hC _ _ _ hk
    · cases hk
  | false =>
  rw [h1, cond_false] at hk
  cases h1 : Nat.beq f 267 with
  | true =>
    rw [h1, cond_true] at hk
    rw [beq_eq h1]
    split at hk
    · exact copy_ok (some_true hk)
    · cases hk
  | false =>
  rw [h1, cond_false] at hk
  cases h1 : Nat.beq f 133 with
  | true =>
    rw [h1, cond_true] at hk
    rw [beq_eq h1]
    split at hk
    · exact bstr_ok (some_true hk)
    · cases hk
  | false =>
  rw [h1, cond_false] at hk
  cases h1 : Nat.beq f 189 with
  | true =>
    rw [h1, cond_true] at hk
    rw [beq_eq h1]
    split at hk
    · exact grow_ok (some_true hk)
    · cases hk
  | false =>
  rw [h1, cond_false] at hk
  cases hk
theorem len1 {σ : Sig} {a : AV} {vals : List Value} (h : ARel σ [a] vals) : ∃ x, vals = [x] := let ⟨x, h, _⟩ := h.one; ⟨x, h⟩
theorem len2 {σ : Sig} {a b : AV} {vals : List Value} (h : ARel σ [a, b] vals) : ∃ x y, vals = [x, y] := let ⟨x, y, h, _⟩ := h.two; ⟨x, y, h⟩
theorem len3 {σ : Sig} {a b c : AV} {vals : List Value} (h : ARel σ [a, b, c] vals) : ∃ x y z, vals = [x, y, z] := by
  obtain ⟨h1, _⟩ := h
  match vals, h1 with
  | [x, y, z], _ => exact ⟨x, y, z, rfl⟩
theorem dhookT_ok {C : Ctx} : ∀ f args, dhookT f args = true → (∀ w xs, (callFunc f xs).run Tryz.prog w = .ok (.enter f xs) w) ∧ ∀ σ h w vals, HRel C σ h w → ARel σ args vals →
    CallsDIn Fence.wide 0 Tryz.prog f vals.toArray .returning w fun e u w' => (∃ x, e = .returned x) ∧ u = .returning ∧ HRel C σ h w' := by
  intro f args hk
  unfold dhookT at hk
  cases h1 : Nat.beq f 62 with
  | true =>
    rw [h1, cond_true] at hk
    rw [beq_eq h1]
    split at hk
    · refine ⟨fun w xs => enters_of Tryz.func62 (by kernel_rfl) rfl _ _, fun σ h w vals k ha => ?_⟩
      obtain ⟨x, y, rfl⟩ := len2 ha
      refine (T.rec62 x y w).mono ?_
      rintro e u w' ⟨h1, h2, rfl⟩
      exact ⟨h1, h2, k⟩
    · cases hk
  | false =>
  rw [h1, cond_false] at hk
  cases h1 : Nat.beq f 242 with
  | true =>
    rw [h1, cond_true] at hk
    rw [beq_eq h1]
    split at hk
    · refine ⟨fun w xs => enters_of Tryz.func242 (by kernel_rfl) rfl _ _, fun σ h w vals k ha => ?_⟩
      obtain ⟨x, rfl⟩ := len1 ha
      refine (T.rec242 x w).mono ?_
      rintro e u w' ⟨h1, h2, rfl⟩
      exact ⟨h1, h2, k⟩
    · cases hk
  | false =>
  rw [h1, cond_false] at hk
  cases h1 : Nat.beq f 258 with
  | true =>
    rw [h1, cond_true] at hk
    rw [beq_eq h1]
    split at hk
    · refine ⟨fun w xs => enters_of Tryz.func258 (by kernel_rfl) rfl _ _, fun σ h w vals k ha => ?_⟩
      obtain ⟨x, y, z, rfl⟩ := len3 ha
      refine (T.rec258 x y z w).mono ?_
      rintro e u w' ⟨h1, h2, rfl⟩
      exact ⟨h1, h2, k⟩
    · cases hk
  | false =>
  rw [h1, cond_false] at hk
  cases hk
theorem hooks0 (hS : SortOk) {C : Ctx} (hC : Good C) : HookOk Tryz.prog E0 C := ⟨hookT_ok hS hC, dhookT_ok⟩
end Go.Refl
end
section
namespace Go.Refl
open Go.Proofs Go.RowKit
noncomputable def trB {α : Type} (p : α → Bool) (t : Tr α) : Bool :=
  Tr.rec (motive := fun _ => Bool) true (fun v _ _ _ _ a b c d => cond (match v with | some x => p x | none => true) (cond a (cond b (cond c d false) false) false) false) t
theorem trB_all {α : Type} {p : α → Bool} : ∀ (t : Tr α), trB p t = true → TrAll (fun _ x => p x = true) t
  | .leaf, _ => trivial
  | .node v a b c d, h => by
    have h' : cond (match (generalizing := false) v with | some x => p x | none => true) (cond (trB p a) (cond (trB p b) (cond (trB p c) (trB p d) false) false) false) false = true := h
    obtain ⟨h0, h1⟩ := cond_f h'
    obtain ⟨h1, h2⟩ := cond_f h1
    obtain ⟨h2, h3⟩ := cond_f h2
    obtain ⟨h3, h4⟩ := cond_f h3
    exact ⟨fun x e => by subst e; exact h0, trB_all a h1, trB_all b h2, trB_all c h3, trB_all d h4⟩
theorem names_ok : trB (fun x : Func => !(x.name == "runtime.NumGoroutine")) Tryz.fnT = true := by kernel_rfl
theorem env0 {C : Ctx} (hC : Good C) : EnvOk Tryz.prog E0 C where
  ng := hC.1.symm
  ty := fun t a h => Tryz.tyT_ok.get t a h
  fn := fun f x h => ⟨Tryz.fnT_ok.get f x h, by
    have := (trB_all _ names_ok).get f x h
    simpa using this⟩
theorem mixed : Tryz.prog.follows .mixedOrders = true := by kernel_rfl
end Go.Refl
end
