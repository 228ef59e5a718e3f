/-
  A part of the proof of TopCrashRecovery: an abstract machine that the kernel runs, and its soundness.
-/
import Derived.Test.YtpncejdamjbnlaaGreatDoorRb
import Derived.Laws.Wrap64
import Derived.Laws.Append
set_option linter.all false
section
namespace Go.Refl
open Go.RowKit
theorem wrap_in (k : IntKind) (n : Int) (h : inR k n = true) : k.wrap n = n := by
  have key : (if k.signed then -((2 ^ (k.bits - 1) : Nat) : Int) ≤ n ∧ n < ((2 ^ (k.bits - 1) : Nat) : Int) else 0 ≤ n ∧ n < ((2 ^ k.bits : Nat) : Int)) := by
    cases n with
    | ofNat m =>
      have := bles_eq h
      cases k <;> simp [lim, IntKind.signed, IntKind.bits] at * <;> omega
    | negSucc m =>
      obtain ⟨h1, h2⟩ := cond_f h
      have := bles_eq h2
      cases k <;> simp [lim, IntKind.signed, IntKind.bits] at * <;> omega
  cases k <;> simp [IntKind.signed, IntKind.bits] at key <;> simp [IntKind.wrap, IntKind.signed, IntKind.bits] <;> omega
theorem wr_spec {k : IntKind} {n : Int} {g : AV → Bool} (h : wr k n g = true) : g (.int k (k.wrap n)) = true := by
  unfold wr at h
  rw [fi_eq] at h
  rcases cond_eq h with ⟨h1, h2⟩ | ⟨h1, h2⟩
  · rw [wrap_in k n h1]; exact h2
  · rw [fi_eq] at h2; exact h2
theorem ltI_eq (a b : Int) : ltI a b = decide (a < b) := by
  cases a <;> cases b <;> simp only [ltI] <;> (rw [Bool.eq_iff_iff]; simp [Nat.ble_eq]) <;> omega
theorem eqI_eq (a b : Int) : eqI a b = (a == b) := by
  cases a <;> cases b <;> simp only [eqI] <;> (rw [Bool.eq_iff_iff]; simp [Nat.beq_eq]) <;> omega
theorem eqK_eq {a b : IntKind} (h : eqK a b = true) : a = b := by cases a <;> cases b <;> simp_all [eqK]
theorem bBool_eq {b : Bool} {g : Bool → Bool} (h : bBool b g = true) : g b = true := by cases b <;> exact h
theorem eqS_eq : ∀ (a b : List Nat), eqS a b = (a == b)
  | [], [] => rfl
  | [], _ :: _ => rfl
  | _ :: _, [] => rfl
  | x :: a, y :: b => by
    have h : eqS (x :: a) (y :: b) = cond (Nat.beq x y) (eqS a b) false := rfl
    have e : Nat.beq x y = (x == y) := by rw [Bool.eq_iff_iff]; simp [Nat.beq_eq]
    rw [h, eqS_eq a b, List.cons_beq_cons, e]
    cases (x == y) <;> rfl
theorem appS_spec : ∀ (a b : List Nat) (g : List Nat → Bool), appS a b g = true → g (a ++ b) = true
  | [], b, g, h => h
  | x :: a, b, g, h => appS_spec a b _ (show appS a b (fun l => g (x :: l)) = true from h)
theorem byteOk_iff (s : List Nat) : byteOk s = true ↔ ∀ n ∈ s, n ≤ 255 := by
  induction s with
  | nil => simp [byteOk]
  | cons n s ih => simp [byteOk, ih, Nat.ble_eq]
theorem byteOk_append {a b : List Nat} (ha : byteOk a = true) (hb : byteOk b = true) : byteOk (a ++ b) = true := by
  rw [byteOk_iff] at *; intro n hn; rcases List.mem_append.1 hn with h | h
  · exact ha n h
  · exact hb n h
theorem bytesOf_size (s : List Nat) : (bytesOf s).size = s.length := by simp [bytesOf, ByteArray.size]
theorem bytesOf_append (a b : List Nat) : bytesOf (a ++ b) = bytesOf a ++ bytesOf b := by
  apply ByteArray.ext
  simp [bytesOf]
theorem bytesOf_inj {a b : List Nat} (ha : byteOk a = true) (hb : byteOk b = true) (h : bytesOf a = bytesOf b) : a = b := by
  have h1 : a.map UInt8.ofNat = b.map UInt8.ofNat := by
    have := congrArg (fun x => x.data.toList) h
    simpa [bytesOf] using this
  have back : ∀ l : List Nat, byteOk l = true → (l.map UInt8.ofNat).map UInt8.toNat = l := fun l hl => by
    rw [byteOk_iff] at hl
    rw [List.map_map]
    conv => rhs; rw [← List.map_id l]
    refine List.map_congr_left fun n hn => ?_
    have := hl n hn
    simp [UInt8.toNat_ofNat']; omega
  rw [← back a ha, ← back b hb, h1]
theorem guard_int {P : Program} (op : BinOp) (t : TypeId) (xo yo : Operand) (k k' : IntKind) (a b : Int) (w : World) : (eqGuard op t xo yo (.int k a) (.int k' b)).run P w = .ok () w := by
  cases op <;> simp [eqGuard]
theorem guard_str {P : Program} (op : BinOp) (t : TypeId) (xo yo : Operand) (a b : ByteArray) (w : World) : (eqGuard op t xo yo (.string a) (.string b)).run P w = .ok () w := by
  cases op <;> simp [eqGuard]
section
variable {P : Program} {E : Env} {C : Ctx} (hE : EnvOk P E C)
theorem binI_spec {op : BinOp} {k : IntKind} {x y : Int} {g : AV → Bool} (hop : op ≠ .shl ∧ op ≠ .shr) (h : binI op k x y g = true) (t : TypeId) :
    ∃ v, g v = true ∧ isBad v = false ∧ ∀ w, ∃ z, (binOp op t (.int k x) (.int k y)).run P w = .ok z w ∧ ∀ σ, conc σ v = some z := by
  cases op <;> simp only [binI] at h
  case add => exact ⟨_, wr_spec h, rfl, fun w => ⟨_, by (simp [binOp, Op.intArith]) <;> rfl, fun σ => rfl⟩⟩
  case sub => exact ⟨_, wr_spec h, rfl, fun w => ⟨_, by (simp [binOp, Op.intArith]) <;> rfl, fun σ => rfl⟩⟩
  case mul => exact ⟨_, wr_spec h, rfl, fun w => ⟨_, by (simp [binOp, Op.intArith]) <;> rfl, fun σ => rfl⟩⟩
  case quo =>
    obtain ⟨h1, h2⟩ := cond_t h
    rw [eqI_eq] at h1
    have hy : ¬ y = 0 := by simpa using h1
    exact ⟨_, wr_spec h2, rfl, fun w => ⟨_, by (simp [binOp, Op.intDiv, hy]) <;> rfl, fun σ => rfl⟩⟩
  case rem =>
    obtain ⟨h1, h2⟩ := cond_t h
    rw [eqI_eq] at h1
    have hy : ¬ y = 0 := by simpa using h1
    rw [fi_eq] at h2
    exact ⟨_, h2, rfl, fun w => ⟨_, by (simp [binOp, Op.intDiv, hy]) <;> rfl, fun σ => rfl⟩⟩
  case and => exact ⟨_, wr_spec h, rfl, fun w => ⟨_, by (simp only [binOp, Op.intBits, ne_eq, not_true, if_false]) <;> rfl, fun σ => rfl⟩⟩
  case or => exact ⟨_, wr_spec h, rfl, fun w => ⟨_, by (simp only [binOp, Op.intBits, ne_eq, not_true, if_false]) <;> rfl, fun σ => rfl⟩⟩
  case xor => exact ⟨_, wr_spec h, rfl, fun w => ⟨_, by (simp only [binOp, Op.intBits, ne_eq, not_true, if_false]) <;> rfl, fun σ => rfl⟩⟩
  case eql => rw [eqI_eq] at h; exact ⟨_, h, rfl, fun w => ⟨_, by (simp [binOp, Op.intCmp]) <;> rfl, fun σ => rfl⟩⟩
  case neq => rw [eqI_eq] at h; exact ⟨_, h, rfl, fun w => ⟨_, by (simp only [binOp, Op.intCmp, ne_eq, not_true, if_false]) <;> rfl, fun σ => rfl⟩⟩
  case lss => rw [ltI_eq] at h; exact ⟨_, h, rfl, fun w => ⟨_, by (simp [binOp, Op.intCmp]) <;> rfl, fun σ => rfl⟩⟩
  case leq =>
    rw [ltI_eq] at h
    exact ⟨_, h, rfl, fun w => ⟨.bool (decide (x ≤ y)), by simp [binOp, Op.intCmp], fun σ => by simp only [conc]; congr 2; rw [Bool.eq_iff_iff]; simp⟩⟩
  case gtr => rw [ltI_eq] at h; exact ⟨_, h, rfl, fun w => ⟨_, by (simp [binOp, Op.intCmp]) <;> rfl, fun σ => rfl⟩⟩
  case geq =>
    rw [ltI_eq] at h
    exact ⟨_, h, rfl, fun w => ⟨.bool (decide (x ≥ y)), by simp [binOp, Op.intCmp], fun σ => by simp only [conc]; congr 2; rw [Bool.eq_iff_iff]; simp⟩⟩
  all_goals cases h
theorem shI_spec {op : BinOp} {k k' : IntKind} {x y : Int} {g : AV → Bool} (hop : op = .shl ∨ op = .shr) (h : shI op k x y g = true) (t : TypeId) :
    ∃ v, g v = true ∧ isBad v = false ∧ ∀ w, ∃ z, (binOp op t (.int k x) (.int k' y)).run P w = .ok z w ∧ ∀ σ, conc σ v = some z := by
  unfold shI at h
  split at h
  · rename_i n
    rcases hop with rfl | rfl
    · simp only [fn_eq] at h
      refine ⟨_, wr_spec h, rfl, fun w => ⟨.int k (k.wrap (x * 2 ^ min n k.bits)), ?_, fun σ => ?_⟩⟩
      · have : ¬ (Int.ofNat n < 0) := by simp
        (simp [binOp, Op.shift]) <;> (intro h0; omega)
      · simp only [conc]; congr 3
    · simp only [fn_eq, fi_eq] at h
      refine ⟨_, h, rfl, fun w => ⟨.int k (x.fdiv (2 ^ min n k.bits)), ?_, fun σ => ?_⟩⟩
      · (simp [binOp, Op.shift]) <;> (intro h0; omega)
      · simp only [conc]; congr 3
  · cases h
theorem eq_fin {t : TypeId} {r : Bool} {w : World} {x' y' : Value} (h1 : binOp .eql t x' y' = (do pure (.bool (← Op.equal t x' y')))) (h2 : binOp .neq t x' y' = (do pure (.bool (!(← Op.equal t x' y')))))
    (he : (Op.equal t x' y').run P w = .ok r w) : ∀ op, op = .eql ∨ op = .neq → (binOp op t x' y').run P w = .ok (.bool (if op = .eql then r else !r)) w := by
  rintro op (rfl | rfl)
  · rw [h1]; simp [he]
  · rw [h2]; simp [he]
theorem eq_of {t : TypeId} {x' y' : Value} {r : Bool} {w : World} (h : ∀ n, (Op.equalIn (n + 1) t x' y').run P w = .ok r w) : (Op.equal t x' y').run P w = .ok r w := h 9999
include hE in
theorem eqV_spec {t : TypeId} {x y : AV} {g : Bool → Bool} (h : eqV E t x y g = true) :
    ∃ r, g r = true ∧ isBad x = false ∧ isBad y = false ∧ ∀ σ w x' y', conc σ x = some x' → conc σ y = some y' → (Op.equal t x' y').run P w = .ok r w ∧ (∀ op xo yo, (eqGuard op t xo yo x' y').run P w = .ok () w) ∧
      (∀ op, op = .eql ∨ op = .neq → (binOp op t x' y').run P w = .ok (.bool (if op = .eql then r else !r)) w) := by
  unfold eqV at h
  split at h
  · cases h
  · rename_i a ht
    have hu := fun w => run_und hE ht (w := w)
    split at h <;> try (cases h; done)
    ·
      rename_i p q hd
      refine ⟨_, bBool_eq h, rfl, rfl, fun σ w x' y' e1 e2 => ?_⟩
      cases e1; cases e2
      have he : (Op.equal t (.bool p) (.bool q)).run P w = .ok (cond p q (!q)) w := by
        refine eq_of fun n => ?_
        simp only [Op.equalIn, Sem.run_bind, hu, Result.andThen_ok, hd, Sem.run_pure]
        cases p <;> cases q <;> rfl
      exact ⟨he, fun op xo yo => by cases op <;> simp [eqGuard], eq_fin rfl rfl he⟩
    ·
      rename_i e hd
      refine ⟨_, h, rfl, rfl, fun σ w x' y' e1 e2 => ?_⟩
      cases e1; cases e2
      have he : (Op.equal t (.pointer none) (.pointer none)).run P w = .ok true w := by
        refine eq_of fun n => ?_
        simp only [Op.equalIn, Sem.run_bind, hu, Result.andThen_ok, hd, Sem.run_pure]; rfl
      exact ⟨he, fun op xo yo => by cases op <;> simp [eqGuard], eq_fin rfl rfl he⟩
    · rename_i e b o hd
      refine ⟨_, h, rfl, rfl, fun σ w x' y' e1 e2 => ?_⟩
      cases e1
      simp only [conc, Option.map_eq_some_iff] at e2; obtain ⟨z, hz, rfl⟩ := e2
      have he : (Op.equal t (.pointer none) (.pointer (some ⟨z.blk, z.shift + o, none⟩))).run P w = .ok false w := by
        refine eq_of fun n => ?_
        simp only [Op.equalIn, Sem.run_bind, hu, Result.andThen_ok, hd, Sem.run_pure]; rfl
      exact ⟨he, fun op xo yo => by cases op <;> simp [eqGuard], eq_fin rfl rfl he⟩
    · rename_i e b o hd
      refine ⟨_, h, rfl, rfl, fun σ w x' y' e1 e2 => ?_⟩
      cases e2
      simp only [conc, Option.map_eq_some_iff] at e1; obtain ⟨z, hz, rfl⟩ := e1
      have he : (Op.equal t (.pointer (some ⟨z.blk, z.shift + o, none⟩)) (.pointer none)).run P w = .ok false w := by
        refine eq_of fun n => ?_
        simp only [Op.equalIn, Sem.run_bind, hu, Result.andThen_ok, hd, Sem.run_pure]
      exact ⟨he, fun op xo yo => by cases op <;> simp [eqGuard], eq_fin rfl rfl he⟩
    · rename_i e b o c p hd
      split at h
      · rename_i ea hea
        obtain ⟨h1, h2⟩ := cond_f h
        obtain ⟨h3, h4⟩ := (both_eq _ _).1 h1
        have hbc := beq_eq h3; subst hbc
        have hsz := ble_eq h4
        refine ⟨_, bBool_eq h2, rfl, rfl, fun σ w x' y' e1 e2 => ?_⟩
        simp only [conc, Option.map_eq_some_iff] at e1 e2; obtain ⟨z, hz, rfl⟩ := e1; obtain ⟨z', hz', rfl⟩ := e2
        rw [hz] at hz'; cases hz'
        have he : (Op.equal t (.pointer (some ⟨z.blk, z.shift + o, none⟩)) (.pointer (some ⟨z.blk, z.shift + p, none⟩))).run P w = .ok (Nat.beq o p) w := by
          refine eq_of fun n => ?_
          simp only [Op.equalIn, Sem.run_bind, hu, Result.andThen_ok, hd, run_size hE hea]
          rw [if_pos (by omega)]
          simp only [sameAddr, beq_self_eq_true, if_true, Sem.run_pure]
          congr 1
          rw [Bool.eq_iff_iff]
          simp [Nat.beq_eq]
        exact ⟨he, fun op xo yo => by cases op <;> simp [eqGuard], eq_fin rfl rfl he⟩
      · cases h
    · rename_i ms tt v hd
      refine ⟨_, h, rfl, rfl, fun σ w x' y' e1 e2 => ?_⟩
      cases e1
      simp only [conc, Option.map_eq_some_iff] at e2; obtain ⟨z, hz, rfl⟩ := e2
      have he : (Op.equal t .nilIface (.iface tt z)).run P w = .ok false w := by
        refine eq_of fun n => ?_
        simp only [Op.equalIn, Sem.run_bind, hu, Result.andThen_ok, hd, Sem.run_pure]
      exact ⟨he, fun op xo yo => by cases op <;> simp [eqGuard], eq_fin rfl rfl he⟩
    · rename_i ms tt v hd
      refine ⟨_, h, rfl, rfl, fun σ w x' y' e1 e2 => ?_⟩
      cases e2
      simp only [conc, Option.map_eq_some_iff] at e1; obtain ⟨z, hz, rfl⟩ := e1
      have he : (Op.equal t (.iface tt z) .nilIface).run P w = .ok false w := by
        refine eq_of fun n => ?_
        simp only [Op.equalIn, Sem.run_bind, hu, Result.andThen_ok, hd, Sem.run_pure]
      exact ⟨he, fun op xo yo => by cases op <;> simp [eqGuard], eq_fin rfl rfl he⟩
    · rename_i e hd
      refine ⟨_, h, rfl, rfl, fun σ w x' y' e1 e2 => ?_⟩
      cases e1; cases e2
      have he : (Op.equal t (.slice none 0 0) (.slice none 0 0)).run P w = .ok true w := by
        refine eq_of fun n => ?_
        simp only [Op.equalIn, Sem.run_bind, hu, Result.andThen_ok, hd, Sem.run_pure]; rfl
      exact ⟨he, fun op xo yo => by cases op <;> simp [eqGuard], eq_fin rfl rfl he⟩
    · rename_i e b o l c op hd
      refine ⟨_, h, rfl, rfl, fun σ w x' y' e1 e2 => ?_⟩
      cases e1
      simp only [conc, Option.map_eq_some_iff] at e2; obtain ⟨z, hz, rfl⟩ := e2
      have he : (Op.equal t (.slice none 0 0) (.slice (some ⟨z.blk, z.shift + o, none⟩) l (if op = true then c + z.extra else c))).run P w = .ok false w := by
        refine eq_of fun n => ?_
        simp only [Op.equalIn, Sem.run_bind, hu, Result.andThen_ok, hd, Sem.run_pure]; rfl
      exact ⟨he, fun op xo yo => by cases op <;> simp [eqGuard], eq_fin rfl rfl he⟩
    · rename_i e b o l c op hd
      refine ⟨_, h, rfl, rfl, fun σ w x' y' e1 e2 => ?_⟩
      cases e2
      simp only [conc, Option.map_eq_some_iff] at e1; obtain ⟨z, hz, rfl⟩ := e1
      have he : (Op.equal t (.slice (some ⟨z.blk, z.shift + o, none⟩) l (if op = true then c + z.extra else c)) (.slice none 0 0)).run P w = .ok false w := by
        refine eq_of fun n => ?_
        simp only [Op.equalIn, Sem.run_bind, hu, Result.andThen_ok, hd, Sem.run_pure]
      exact ⟨he, fun op xo yo => by cases op <;> simp [eqGuard], eq_fin rfl rfl he⟩
    · rename_i kt et hd
      refine ⟨_, h, rfl, rfl, fun σ w x' y' e1 e2 => ?_⟩
      cases e1; cases e2
      have he : (Op.equal t (.map none) (.map none)).run P w = .ok true w := by
        refine eq_of fun n => ?_
        simp only [Op.equalIn, Sem.run_bind, hu, Result.andThen_ok, hd, Sem.run_pure]; rfl
      exact ⟨he, fun op xo yo => by cases op <;> simp [eqGuard], eq_fin rfl rfl he⟩
    · rename_i kt et b hd
      refine ⟨_, h, rfl, rfl, fun σ w x' y' e1 e2 => ?_⟩
      cases e1
      simp only [conc, Option.map_eq_some_iff] at e2; obtain ⟨z, hz, rfl⟩ := e2
      have he : (Op.equal t (.map none) (.map (some z.blk))).run P w = .ok false w := by
        refine eq_of fun n => ?_
        simp only [Op.equalIn, Sem.run_bind, hu, Result.andThen_ok, hd, Sem.run_pure]; rfl
      exact ⟨he, fun op xo yo => by cases op <;> simp [eqGuard], eq_fin rfl rfl he⟩
    · rename_i kt et b hd
      refine ⟨_, h, rfl, rfl, fun σ w x' y' e1 e2 => ?_⟩
      cases e2
      simp only [conc, Option.map_eq_some_iff] at e1; obtain ⟨z, hz, rfl⟩ := e1
      have he : (Op.equal t (.map (some z.blk)) (.map none)).run P w = .ok false w := by
        refine eq_of fun n => ?_
        simp only [Op.equalIn, Sem.run_bind, hu, Result.andThen_ok, hd, Sem.run_pure]
      exact ⟨he, fun op xo yo => by cases op <;> simp [eqGuard], eq_fin rfl rfl he⟩
    · rename_i ps rs vv hd
      refine ⟨_, h, rfl, rfl, fun σ w x' y' e1 e2 => ?_⟩
      cases e1; cases e2
      have he : (Op.equal t .nilFunc .nilFunc).run P w = .ok true w := by
        refine eq_of fun n => ?_
        simp only [Op.equalIn, Sem.run_bind, hu, Result.andThen_ok, hd, Sem.run_pure]
      exact ⟨he, fun op xo yo => by cases op <;> simp [eqGuard], eq_fin rfl rfl he⟩
    · rename_i ps rs vv f fi ca hd
      refine ⟨_, h, rfl, rfl, fun σ w x' y' e1 e2 => ?_⟩
      cases e1
      simp only [conc, Option.map_eq_some_iff, Option.bind_eq_some_iff] at e2; obtain ⟨z, hz, z2, hz2, rfl⟩ := e2
      have he : (Op.equal t .nilFunc (.func (.func f) z.toArray z2.toArray)).run P w = .ok false w := by
        refine eq_of fun n => ?_
        simp only [Op.equalIn, Sem.run_bind, hu, Result.andThen_ok, hd, Sem.run_pure]
      exact ⟨he, fun op xo yo => by cases op <;> simp [eqGuard], eq_fin rfl rfl he⟩
    · rename_i ps rs vv f fi ca hd
      refine ⟨_, h, rfl, rfl, fun σ w x' y' e1 e2 => ?_⟩
      cases e2
      simp only [conc, Option.map_eq_some_iff, Option.bind_eq_some_iff] at e1; obtain ⟨z, hz, z2, hz2, rfl⟩ := e1
      have he : (Op.equal t (.func (.func f) z.toArray z2.toArray) .nilFunc).run P w = .ok false w := by
        refine eq_of fun n => ?_
        simp only [Op.equalIn, Sem.run_bind, hu, Result.andThen_ok, hd, Sem.run_pure]
      exact ⟨he, fun op xo yo => by cases op <;> simp [eqGuard], eq_fin rfl rfl he⟩
include hE in
theorem nil_nil {op : BinOp} {t : TypeId} {xo yo : Operand} {g : AV → Bool} (h : (match E.ty.get t with
      | some { d := .interface _, .. } => match op with
        | .eql => g (.bool true)
        | .neq => g (.bool false)
        | _ => false
      | _ => false) = true) (hgd : ∀ w, (eqGuard op t xo yo .nilIface .nilIface).run P w = .ok () w) : ∃ v, g v = true ∧ ∀ σ w x' y', VR σ .inil x' → VR σ .inil y' → ∃ z, (do eqGuard op t xo yo x' y'; binOp op t x' y' : Sem Value).run P w = .ok z w ∧ conc σ v = some z := by
  split at h
  · rename_i ms _ _ _ ht
    have hu := fun w => run_und hE ht (w := w)
    have he : ∀ w, (Op.equal t .nilIface .nilIface).run P w = .ok true w := fun w => by
      refine eq_of fun n => ?_
      simp only [Op.equalIn, Sem.run_bind, hu, Result.andThen_ok, Sem.run_pure]
    split at h
    · refine ⟨_, h, fun σ w x' y' e1 e2 => ?_⟩
      cases e1.conc (by simp); cases e2.conc (by simp)
      exact ⟨.bool true, by simp only [Sem.run_bind, hgd, Result.andThen_ok, binOp, he, Sem.run_pure], rfl⟩
    · refine ⟨_, h, fun σ w x' y' e1 e2 => ?_⟩
      cases e1.conc (by simp); cases e2.conc (by simp)
      exact ⟨.bool false, by simp only [Sem.run_bind, hgd, Result.andThen_ok, binOp, he, Sem.run_pure]; rfl, rfl⟩
    · cases h
  · cases h
include hE in
theorem binV_spec {op : BinOp} {t : TypeId} {xo yo : Operand} {x y : AV} {g : AV → Bool} (h : binV E op t xo yo x y g = true) :
    ∃ v, g v = true ∧ ∀ σ w x' y', VR σ x x' → VR σ y y' → ∃ z, (do eqGuard op t xo yo x' y'; binOp op t x' y' : Sem Value).run P w = .ok z w ∧ conc σ v = some z := by
  unfold binV at h
  split at h
  · rename_i k a k' b
    have key : ∃ v, g v = true ∧ isBad v = false ∧ ∀ w, ∃ z, (binOp op t (.int k a) (.int k' b)).run P w = .ok z w ∧ ∀ σ, conc σ v = some z := by
      split at h
      · exact shI_spec (.inl rfl) h t
      · exact shI_spec (.inr rfl) h t
      · rename_i h1 h2
        obtain ⟨e, h3⟩ := cond_f h
        have := eqK_eq e; subst this
        exact binI_spec ⟨h1, h2⟩ h3 t
    obtain ⟨v, hv, hb, hs⟩ := key
    refine ⟨v, hv, fun σ w x' y' e1 e2 => ?_⟩
    cases e1.conc (by simp); cases e2.conc (by simp)
    obtain ⟨z, hz, hc⟩ := hs w
    exact ⟨z, by simp only [Sem.run_bind, guard_int, Result.andThen_ok, hz], hc σ⟩
  · rename_i a b
    have conv : ∀ σ x', VR σ (.str a) x' → byteOk a = true ∧ x' = .string (bytesOf a) := fun σ x' e => by
      have := e.conc (by simp); simp only [conc] at this
      split at this <;> simp at this
      exact ⟨by assumption, this.symm⟩
    have conv' : ∀ σ x', VR σ (.str b) x' → byteOk b = true ∧ x' = .string (bytesOf b) := fun σ x' e => by
      have := e.conc (by simp); simp only [conc] at this
      split at this <;> simp at this
      exact ⟨by assumption, this.symm⟩
    have heq : byteOk a = true → byteOk b = true → ((bytesOf a).toList == (bytesOf b).toList) = eqS a b := fun ha hb => by
      rw [eqS_eq, Bool.eq_iff_iff]
      simp only [beq_iff_eq, ByteArray.toList_eq]
      exact ⟨fun e => bytesOf_inj ha hb (by apply ByteArray.ext; exact Array.ext' e), fun e => by rw [e]⟩
    split at h
    · obtain ⟨h1, h2⟩ := cond_f h
      have h3 := ble_eq h1
      have h4 := appS_spec _ _ _ h2
      refine ⟨_, h4, fun σ w x' y' e1 e2 => ?_⟩
      obtain ⟨ha, rfl⟩ := conv σ x' e1
      obtain ⟨hb, rfl⟩ := conv' σ y' e2
      refine ⟨.string (bytesOf a ++ bytesOf b), ?_, ?_⟩
      · simp only [Sem.run_bind, guard_str, Result.andThen_ok, binOp, Op.stringOp]
        have h5 : a.length + b.length ≤ 0x100000000 := h3
        rw [if_neg (by simp [bytesOf_size, IntKind.max, IntKind.signed, IntKind.bits]; omega)]
        rfl
      · simp only [conc, byteOk_append ha hb, if_true, bytesOf_append]
    · have h1 := bBool_eq h
      refine ⟨_, h1, fun σ w x' y' e1 e2 => ?_⟩
      obtain ⟨ha, rfl⟩ := conv σ x' e1
      obtain ⟨hb, rfl⟩ := conv' σ y' e2
      refine ⟨.bool (eqS a b), ?_, rfl⟩
      simp only [Sem.run_bind, guard_str, Result.andThen_ok, binOp, Op.stringOp, Sem.run_pure, heq ha hb]
    · have h1 := bBool_eq h
      refine ⟨_, h1, fun σ w x' y' e1 e2 => ?_⟩
      obtain ⟨ha, rfl⟩ := conv σ x' e1
      obtain ⟨hb, rfl⟩ := conv' σ y' e2
      refine ⟨.bool (!eqS a b), ?_, rfl⟩
      simp only [Sem.run_bind, guard_str, Result.andThen_ok, binOp, Op.stringOp, Sem.run_pure, heq ha hb]
    · cases h
  ·
    split at h
    · rename_i vv _ _
      exact nil_nil hE h (fun w => by cases op <;> simp [eqGuard])
    · exact nil_nil hE h (fun w => by cases op <;> simp [eqGuard])
    · cases h
  · split at h
    · obtain ⟨r, hr, hb1, hb2, hs⟩ := eqV_spec hE h
      refine ⟨_, hr, fun σ w x' y' e1 e2 => ?_⟩
      obtain ⟨h1, h2, h3⟩ := hs σ w x' y' (e1.conc' hb1) (e2.conc' hb2)
      exact ⟨.bool r, by simp only [Sem.run_bind, h2, Result.andThen_ok, h3 .eql (.inl rfl), if_true], rfl⟩
    · obtain ⟨r, hr, hb1, hb2, hs⟩ := eqV_spec hE h
      refine ⟨_, hr, fun σ w x' y' e1 e2 => ?_⟩
      obtain ⟨h1, h2, h3⟩ := hs σ w x' y' (e1.conc' hb1) (e2.conc' hb2)
      exact ⟨.bool (!r), by simp only [Sem.run_bind, h2, Result.andThen_ok, h3 .neq (.inr rfl)]; rfl, rfl⟩
    · cases h
theorem unV_spec {op : UnOp} {x : AV} {g : AV → Bool} (h : unV op x g = true) :
    ∃ v, g v = true ∧ ∀ σ w x', VR σ x x' → ∃ z, (Op.unary op x').run P w = .ok z w ∧ conc σ v = some z := by
  unfold unV at h
  split at h
  · refine ⟨_, wr_spec h, fun σ w x' e => ?_⟩
    cases e.conc (by simp)
    exact ⟨_, rfl, rfl⟩
  · refine ⟨_, wr_spec h, fun σ w x' e => ?_⟩
    cases e.conc (by simp)
    exact ⟨_, rfl, rfl⟩
  · refine ⟨_, h, fun σ w x' e => ?_⟩
    cases e.conc (by simp)
    exact ⟨_, rfl, rfl⟩
  · cases h
end
end Go.Refl
end
section
namespace Go.Refl
open Go.RowKit
theorem optK_spec {P : Program} {E : Env} {C : Ctx} (hE : EnvOk P E C) {o : Option Operand} {tm : Tr AV} {g : Option AV → Bool} (h : optK o (fun o f => ev E o tm f) g = true) :
    ∃ r, g r = true ∧ (r = none ↔ o = none) ∧ ∀ σ hp w ρ, HRel C σ hp w → OpR σ tm ρ → ∀ v x, r = some v → o = some x → VR σ v (ρ x) := by
  unfold optK at h
  split at h
  · exact ⟨_, h, by simp, fun _ _ _ _ _ _ v x e => by cases e⟩
  · rename_i o
    obtain ⟨v, hv, hs⟩ := ev_spec hE h
    exact ⟨_, hv, by simp, fun σ hp w ρ hh hr u x e1 e2 => by cases e1; cases e2; exact hs σ hp w ρ hh hr⟩
theorem intN_spec {v : AV} {g : Nat → Bool} (h : intN v g = true) : ∃ k n, v = .int k (.ofNat n) ∧ g n = true := by
  unfold intN at h
  split at h
  · exact ⟨_, _, rfl, h⟩
  · cases h
theorem bndK_spec {o : Option AV} {d : Nat} {f : Nat → Bool} (h : bndK o d f = true) : ∃ n, f n = true ∧ ((o = none ∧ n = d) ∨ ∃ k, o = some (.int k (.ofNat n))) := by
  unfold bndK at h
  split at h
  · exact ⟨d, h, .inl ⟨rfl, rfl⟩⟩
  · obtain ⟨k, n, rfl, h⟩ := intN_spec h
    exact ⟨n, h, .inr ⟨k, rfl⟩⟩
theorem takeS_spec : ∀ (n : Nat) (l : List Nat) (g : List Nat → Bool), takeS n l g = true → g (l.take n) = true
  | 0, l, g, h => by simpa using (show g [] = true from h)
  | n + 1, [], g, h => absurd (show false = true from h) (by decide)
  | n + 1, v :: l, g, h => by simpa using takeS_spec n l _ (show takeS n l (fun r => g (v :: r)) = true from h)
def OV (σ : Sig) (o : Option AV) (o' : Option Value) : Prop := (o = none ↔ o' = none) ∧ ∀ v x, o = some v → o' = some x → VR σ v x
theorem OV.of_none {σ : Sig} {o' : Option Value} (h : OV σ none o') : o' = none := h.1.1 rfl
theorem OV.of_int {σ : Sig} {k : IntKind} {n : Int} {o' : Option Value} (h : OV σ (some (.int k n)) o') : o' = some (.int k n) := by
  cases o' with
  | none => have := h.1.2 rfl; cases this
  | some x => have := (h.2 _ _ rfl rfl).conc (by simp); cases this; rfl
theorem run_bound {P : Program} (k : IntKind) (n y : Nat) (c : BoundsCode) (w : World) (h : n ≤ y) : (Instr.sliceBound (.int k (.ofNat n)) y c).run P w = .ok n w := by
  simp [Instr.sliceBound, asIntOf]
  intro h'; omega
theorem run_bounds2 {P : Program} {σ : Sig} {lo hi : Option AV} {lo' hi' : Option Value} (isS : Bool) (len cap l hh : Nat) (w : World) (h1 : OV σ lo lo') (h2 : OV σ hi hi') (hl : (lo = none ∧ l = 0) ∨ ∃ k, lo = some (.int k (.ofNat l)))
    (hhh : (hi = none ∧ hh = len) ∨ ∃ k, hi = some (.int k (.ofNat hh))) (hle : l ≤ hh) (hc : hh ≤ cap) : (Instr.sliceBounds isS len cap lo' hi' none).run P w = .ok (l, hh, cap) w := by
  unfold Instr.sliceBounds
  rcases hhh with ⟨rfl, rfl⟩ | ⟨k, rfl⟩
  · rw [h2.of_none]
    rcases hl with ⟨rfl, rfl⟩ | ⟨k, rfl⟩
    · rw [h1.of_none]; simp
    · rw [h1.of_int]; simp only [Sem.run_bind, Sem.run_pure, Result.andThen_ok]; rw [run_bound k l _ _ _ hle]; rfl
  · rw [h2.of_int]
    rcases hl with ⟨rfl, rfl⟩ | ⟨k, rfl⟩
    · rw [h1.of_none]; simp only [Sem.run_bind, Sem.run_pure, Result.andThen_ok]; rw [run_bound k hh _ _ _ hc]; rfl
    · rw [h1.of_int]; simp only [Sem.run_bind, Sem.run_pure, Result.andThen_ok]; rw [run_bound _ hh _ _ _ hc]; simp only [Result.andThen_ok]; rw [run_bound _ l _ _ _ hle]; rfl
theorem bytesOf_extract (s : List Nat) (l hh : Nat) : (bytesOf s).extract l hh = bytesOf ((s.drop l).take (hh - l)) := by
  apply ByteArray.ext
  simp only [ByteArray.data_extract]
  apply Array.ext'
  simp [bytesOf, List.extract_eq_take_drop, List.map_take, List.map_drop]
theorem byteOk_sub {s : List Nat} (h : byteOk s = true) (l n : Nat) : byteOk ((s.drop l).take n) = true := by
  rw [byteOk_iff] at *
  exact fun x hx => h x (List.mem_of_mem_drop (List.mem_of_mem_take hx))
theorem HRel.map_ownless {C : Ctx} {σ : Sig} {h : AH} {w : World} (k : HRel C σ h w) {b : Nat} {ao : AO} (hb : h.m.get b = some ao) (hlt : b < h.nx) (hn : σ b = none) (ho : ao.owns = false) (y : Loc) (hor : OR (σ.put b y) y w ao) : HRel C (σ.put b y) h w := by
  have hle := Sig.sub_put (b := b) y hn
  refine ⟨k.below, k.base, fun n hn' => hle n _ (k.glob n hn'), fun c hc => ?_, (by have := k.nx; simp only [Sig.put]; omega), fun c p z h1 h2 => ?_, fun c p z h1 h2 h3 h4 => ?_, fun c d p q z z' h1 h2 h3 h4 hne h5 h6 => ?_⟩
  · rw [Sig.put_other _ (by omega)]; exact k.fresh c hc
  · by_cases e : c = b
    · subst e; rw [Sig.put_same] at h2; cases h2; rw [hb] at h1; cases h1; exact hor
    · rw [Sig.put_other _ e] at h2; exact (k.obj c p z h1 h2).mono hle rfl
  · by_cases e : c = b
    · subst e; rw [hb] at h1; cases h1; rw [ho] at h3; cases h3
    · rw [Sig.put_other _ e] at h2; exact k.own c p z h1 h2 h3 h4
  · by_cases e : c = b
    · subst e; rw [hb] at h1; cases h1; rw [ho] at h5; cases h5
    · by_cases e2 : d = b
      · subst e2; rw [hb] at h2; cases h2; rw [ho] at h6; cases h6
      · rw [Sig.put_other _ e] at h3; rw [Sig.put_other _ e2] at h4; exact k.apart c d p q z z' h1 h2 h3 h4 hne h5 h6
section
variable {P : Program} {E : Env} {C : Ctx} (hE : EnvOk P E C)
include hE
theorem sliceK_spec {t : TypeId} {x : AV} {lo hi mx : Option AV} {h : AH} {g : AV → AH → Bool} (hk : sliceK E t x lo hi mx h g = true) :
    ∃ v h', g v h' = true ∧ ∀ σ w x' lo' hi' mx', HRel C σ h w → VR σ x x' → OV σ lo lo' → OV σ hi hi' → OV σ mx mx' →
      ∃ σ' z, σ.le σ' ∧ (Instr.sliceAt t x' lo' hi' mx').run P w = .ok z w ∧ conc σ' v = some z ∧ HRel C σ' h' w := by
  unfold sliceK at hk
  split at hk
  · cases hk
  · rename_i a ht
    have hu := fun w => run_und hE ht (w := w)
    split at hk <;> try (cases hk; done)
    ·
      rename_i s hd
      split at hk
      · cases hk
      · rw [fn_eq] at hk
        obtain ⟨hh, hk, hb1⟩ := bndK_spec hk
        obtain ⟨l, hk, hb2⟩ := bndK_spec hk
        obtain ⟨h1, hk⟩ := cond_f hk
        obtain ⟨h2, h3⟩ := (both_eq _ _).1 h1
        have hk := dropK_spec _ _ _ hk
        rw [fn_eq] at hk
        have hk := takeS_spec _ _ _ hk
        refine ⟨_, _, hk, fun σ w x' lo' hi' mx' k e1 e2 e3 e4 => ?_⟩
        have := e1.conc (by simp)
        simp only [conc] at this
        split at this
        · rename_i hby
          cases this
          refine ⟨σ, .string (bytesOf ((s.drop l).take (hh - l))), Sig.le.refl σ, ?_, by simp only [conc]; rw [if_pos (byteOk_sub hby _ _)]; rfl, k⟩
          rw [e4.of_none]
          simp only [Instr.sliceAt, Sem.run_bind, hu, Result.andThen_ok, hd, Instr.slice]
          have := run_bounds2 (P := P) false s.length s.length l hh w e2 e3 hb2 hb1 (ble_eq h2) (ble_eq h3)
          simp only [Option.isSome_none, Bool.false_eq_true, if_false, Sem.run_bind, bytesOf_size, this, Result.andThen_ok, Sem.run_pure, bytesOf_extract]
        · cases this
    ·
      rename_i e hd
      split at hk
      · cases hk
      · rename_i ea hea
        split at hk
        · cases hk
        · obtain ⟨hh, hk, hb1⟩ := bndK_spec hk
          obtain ⟨l, hk, hb2⟩ := bndK_spec hk
          obtain ⟨h1, hk⟩ := cond_f hk
          obtain ⟨h2, h3⟩ := (both_eq _ _).1 h1
          have h2 := beq_eq h2; have h3 := beq_eq h3; subst h2; subst h3
          refine ⟨_, _, hk, fun σ w x' lo' hi' mx' k e1 e2 e3 e4 => ?_⟩
          cases e1.conc (by simp)
          refine ⟨σ, _, Sig.le.refl σ, ?_, rfl, k⟩
          rw [e4.of_none]
          have := run_bounds2 (P := P) true 0 0 0 0 w e2 e3 hb2 hb1 (Nat.le_refl _) (Nat.le_refl _)
          simp only [Instr.sliceAt, Sem.run_bind, hu, Result.andThen_ok, hd, Instr.slice, this, run_size hE hea, Sem.run_pure]
          rfl
    ·
      rename_i e b o len cap opened hd
      split at hk
      · cases hk
      · rename_i ea hea
        split at hk
        · obtain ⟨hh, hk, hb1⟩ := bndK_spec hk
          obtain ⟨l, hk, hb2⟩ := bndK_spec hk
          obtain ⟨h1, hk⟩ := cond_f hk
          obtain ⟨h2, h3⟩ := (both_eq _ _).1 h1
          have h2 := ble_eq h2; have h3 := ble_eq h3
          have main : ∀ σ w x' lo' hi' mx', HRel C σ h w → VR σ (.sl b o len cap opened) x' → OV σ lo lo' → OV σ hi hi' → OV σ none mx' → ∃ x, σ b = some x ∧
              (Instr.sliceAt t x' lo' hi' mx').run P w = .ok (.slice (if (if opened then cap + x.extra else cap) = l then some ⟨x.blk, x.shift + o, none⟩ else some ⟨x.blk, x.shift + (o + l * ea.size), none⟩) (hh - l) ((if opened then cap + x.extra else cap) - l)) w := by
            intro σ w x' lo' hi' mx' k e1 e2 e3 e4
            have := e1.conc (by simp)
            simp only [conc, Option.map_eq_some_iff] at this
            obtain ⟨x, hx, rfl⟩ := this
            refine ⟨x, hx, ?_⟩
            rw [e4.of_none]
            have hcap : hh ≤ (if opened then cap + x.extra else cap) := by split <;> omega
            have := run_bounds2 (P := P) true len (if opened then cap + x.extra else cap) l hh w e2 e3 hb2 hb1 h2 hcap
            simp only [Instr.sliceAt, Sem.run_bind, hu, Result.andThen_ok, hd, Instr.slice, this, run_size hE hea, Sem.run_pure, Option.map_some, add_eq, Nat.add_assoc]
          rcases cond_eq hk with ⟨h4, hk⟩ | ⟨h4, hk⟩
          · have h4 := beq_eq h4
            have hhl : hh = l := by omega
            rcases cond_eq hk with ⟨h5, hk⟩ | ⟨h5, hk⟩
            · rcases cond_eq hk with ⟨h6, hk⟩ | ⟨h6, hk⟩
              · have h6 := beq_eq h6
                refine ⟨_, _, hk, fun σ w x' lo' hi' mx' k e1 e2 e3 e4 => ?_⟩
                obtain ⟨x, hx, hr⟩ := main σ w x' lo' hi' mx' k e1 e2 e3 e4
                refine ⟨σ, _, Sig.le.refl σ, hr, ?_, k⟩
                subst h6; subst h5
                have : cap = 0 := by omega
                subst this
                simp only [conc, hx, Option.map_some, if_true, Nat.zero_add, hhl, Nat.sub_zero, Nat.zero_mul, Nat.add_zero, ite_self]
              · split at hk
                · rename_i cs e' z hm
                  obtain ⟨h7, hk⟩ := cond_f hk
                  obtain ⟨h8, h9⟩ := (both_eq _ _).1 h7
                  have h8 := beq_eq h8; have h9 := beq_eq h9
                  rw [fn_eq] at hk
                  obtain ⟨m, hk, hp⟩ := newK_spec hk
                  refine ⟨_, _, hk, fun σ w x' lo' hi' mx' k e1 e2 e3 e4 => ?_⟩
                  obtain ⟨x, hx, hr⟩ := main σ w x' lo' hi' mx' k e1 e2 e3 e4
                  subst h5
                  have hn := k.fresh _ (Nat.le_refl _)
                  obtain ⟨y, hy⟩ : ∃ y : Loc, y = if x.extra = 0 then ⟨x.blk, x.shift + o, 0⟩ else ⟨x.blk, x.shift + (o + l * ea.size), x.extra⟩ := ⟨_, rfl⟩
                  have hle := k.lp y
                  refine ⟨σ.put h.nx y, _, hle, hr, ?_, k.bump_put y ▸ (k.more hp).map_ownless (ao := .tail b cs.length) (by rw [hp]; rw [if_pos rfl]) (by simp) hn rfl y ⟨x, hle _ _ hx, ?_, fun h0 => ?_⟩⟩
                  · simp only [conc, Sig.put_same, Option.map_some, if_true, Nat.zero_add, Nat.add_zero, hhl, Nat.sub_self]
                    by_cases e0 : x.extra = 0
                    · rw [if_pos e0] at hy; subst hy; rw [if_pos (by omega)]; simp; omega
                    · rw [if_neg e0] at hy; subst hy; rw [if_neg (by omega)]; simp; omega
                  · subst hy; split <;> rfl
                  · subst hy
                    by_cases e0 : x.extra = 0
                    · rw [if_pos e0] at h0; simp at h0
                    · rw [if_neg e0]
                      refine ⟨?_, Nat.le_refl _⟩
                      have : o + l * ea.size = cs.length := by rw [h4]; exact h8
                      simp only; omega
                · cases hk
            · refine ⟨_, _, hk, fun σ w x' lo' hi' mx' k e1 e2 e3 e4 => ?_⟩
              obtain ⟨x, hx, hr⟩ := main σ w x' lo' hi' mx' k e1 e2 e3 e4
              refine ⟨σ, _, Sig.le.refl σ, hr, ?_, k⟩
              subst h5
              simp only [conc, hx, Option.map_some, Bool.false_eq_true, if_false, hhl, h4, if_true, Nat.sub_self]
          · simp only [fn_eq] at hk
            have h4 : l ≠ cap := fun e => by subst e; simp [Nat.beq_refl] at h4
            refine ⟨_, _, hk, fun σ w x' lo' hi' mx' k e1 e2 e3 e4 => ?_⟩
            obtain ⟨x, hx, hr⟩ := main σ w x' lo' hi' mx' k e1 e2 e3 e4
            refine ⟨σ, _, Sig.le.refl σ, hr, ?_, k⟩
            have hne : ¬ (if opened then cap + x.extra else cap) = l := by split <;> omega
            rw [if_neg hne]
            simp only [conc, hx, Option.map_some]
            congr 2
            show (if opened = true then cap - l + x.extra else cap - l) = _
            split <;> omega
        · rename_i m
          split at hk
          · cases hk
          · rename_i hv
            obtain ⟨mk, m, em, hk2⟩ := intN_spec hk
            obtain ⟨hk', hh, eh, hk3⟩ := intN_spec hk2
            clear hk hk2
            subst em; subst eh
            obtain ⟨l, hk, hb2⟩ := bndK_spec hk3
            clear hk3
            obtain ⟨h1, hk⟩ := cond_f hk
            obtain ⟨h2, h3⟩ := (both_eq _ _).1 h1
            obtain ⟨h2, h2'⟩ := (both_eq _ _).1 h2
            have h2 := ble_eq h2; have h2' := ble_eq h2'; have h3 := ble_eq h3
            have main : ∀ σ w x' lo' hi' mx', HRel C σ h w → VR σ (.sl b o len cap opened) x' → OV σ lo lo' → OV σ (some (.int hk' (.ofNat hh))) hi' → OV σ (some (.int mk (.ofNat m))) mx' → ∃ x, σ b = some x ∧
                (Instr.sliceAt t x' lo' hi' mx').run P w = .ok (.slice (if m = l then some ⟨x.blk, x.shift + o, none⟩ else some ⟨x.blk, x.shift + (o + l * ea.size), none⟩) (hh - l) (m - l)) w := by
              intro σ w x' lo' hi' mx' k e1 e2 e3 e4
              have := e1.conc (by simp)
              simp only [conc, Option.map_eq_some_iff] at this
              obtain ⟨x, hx, rfl⟩ := this
              refine ⟨x, hx, ?_⟩
              rw [e4.of_int, e3.of_int]
              have hcap : m ≤ (if opened then cap + x.extra else cap) := by split <;> omega
              have hbd : (Instr.sliceBounds true len (if opened then cap + x.extra else cap) lo' (some (.int hk' (.ofNat hh))) (some (.int mk (.ofNat m)))).run P w = .ok (l, hh, m) w := by
                unfold Instr.sliceBounds
                simp only [Sem.run_bind, run_bound _ m _ _ _ hcap, Result.andThen_ok, run_bound _ hh _ _ _ h2']
                rcases hb2 with ⟨rfl, rfl⟩ | ⟨kk, rfl⟩
                · rw [e2.of_none]; rfl
                · rw [e2.of_int]; simp only [Sem.run_bind]; rw [run_bound _ l _ _ _ h2]; rfl
              simp only [Instr.sliceAt, Sem.run_bind, hu, Result.andThen_ok, hd, Instr.slice, hbd, run_size hE hea, Sem.run_pure, Option.map_some, add_eq, Nat.add_assoc]
            rcases cond_eq hk with ⟨h4, hk⟩ | ⟨h4, hk⟩
            · have h4 := beq_eq h4
              refine ⟨_, _, hk, fun σ w x' lo' hi' mx' k e1 e2 e3 e4 => ?_⟩
              obtain ⟨x, hx, hr⟩ := main σ w x' lo' hi' mx' k e1 e2 e3 e4
              refine ⟨σ, _, Sig.le.refl σ, hr, ?_, k⟩
              have hhl : hh = l := by omega
              simp only [conc, hx, Option.map_some, Bool.false_eq_true, if_false, hhl, h4, if_true, Nat.sub_self]
            · simp only [fn_eq] at hk
              have h4 : m ≠ l := fun e => by subst e; simp [Nat.beq_refl] at h4
              refine ⟨_, _, hk, fun σ w x' lo' hi' mx' k e1 e2 e3 e4 => ?_⟩
              obtain ⟨x, hx, hr⟩ := main σ w x' lo' hi' mx' k e1 e2 e3 e4
              refine ⟨σ, _, Sig.le.refl σ, hr, ?_, k⟩
              rw [if_neg h4]
              simp only [conc, hx, Option.map_some, Bool.false_eq_true, if_false]
              rfl
    ·
      rename_i n e b o hd
      split at hk
      · cases hk
      rename_i ea hea
      split at hk
      · obtain ⟨h1, hk⟩ := cond_f hk
        have h1 := ble_eq h1
        refine ⟨_, _, hk, fun σ w x' lo' hi' mx' k e1 e2 e3 e4 => ?_⟩
        have := e1.conc (by simp)
        simp only [conc, Option.map_eq_some_iff] at this
        obtain ⟨x, hx, rfl⟩ := this
        refine ⟨σ, .slice (some ⟨x.blk, x.shift + o, none⟩) n n, Sig.le.refl σ, ?_, by simp [conc, hx], k⟩
        rw [e2.of_none, e3.of_none, e4.of_none]
        simp only [Instr.sliceAt, Sem.run_bind, hu, Result.andThen_ok, hd, Instr.sureAddr, Sem.run_pure, Instr.sliceBounds, run_size hE hea, Nat.zero_mul, Nat.sub_zero, add_eq, Nat.add_zero, ite_self]
      · cases hk
end
end Go.Refl
end
section
namespace Go.Refl
open Go.RowKit
theorem u8s_spec : ∀ (s : List Nat) (g : List AV → Bool), u8s s g = true → g (s.map fun n => .int .u8 (.ofNat n)) = true
  | [], g, h => h
  | n :: s, g, h => u8s_spec s _ (show u8s s (fun l => g (.int .u8 (.ofNat n) :: l)) = true from h)
theorem u8s_conc {σ : Sig} (s : List Nat) (h : byteOk s = true) : concL σ (s.map fun n => AV.int .u8 (.ofNat n)) = some ((bytesOf s).data.toList.map fun b => .int .u8 b.toNat) := by
  induction s with
  | nil => rfl
  | cons n s ih =>
    obtain ⟨h1, h2⟩ := (Bool.and_eq_true _ _ ▸ (show (Nat.ble n 255 && byteOk s) = true from h) : Nat.ble n 255 = true ∧ byteOk s = true)
    have hn := ble_eq h1
    have : (UInt8.ofNat n).toNat = n := by simp [UInt8.toNat_ofNat']; omega
    simp only [List.map_cons, concL, conc, ih h2, Option.bind_some, Option.map_some]
    simp [bytesOf, this]
theorem scalL_spec : ∀ {vs : List AV}, scalL vs = true → ∀ v ∈ vs, scal v = true
  | [], _, v, hv => by simp at hv
  | u :: vs, h, v, hv => by
    obtain ⟨h1, h2⟩ := cond_f (show cond (scal u) (scalL vs) false = true from h)
    rcases List.mem_cons.1 hv with rfl | hv
    · exact h1
    · exact scalL_spec h2 v hv
theorem srcK_spec {P : Program} {C : Ctx} {h : AH} {size : Nat} {x : AV} {g : List AV → Nat → Bool} (hk : srcK h size x g = true) :
    ∃ xs n, g xs n = true ∧ xs.length = n * size ∧ ∀ σ w x', HRel C σ h w → VR σ x x' → ∃ vals, concL σ xs = some vals ∧ (Builtin.lenOf x').run P w = .ok n w ∧ (Builtin.firstCells size n x').run P w = .ok vals.toArray w := by
  unfold srcK at hk
  split at hk
  · refine ⟨[], 0, hk, by simp, fun σ w x' k e => ?_⟩
    cases e.conc (by simp)
    exact ⟨[], rfl, rfl, rfl⟩
  · rename_i b o len cap opened
    rw [fn_eq] at hk
    obtain ⟨cs, all, e, z, ro, hg, hm, hcs, hl, _, hb⟩ := rdK_spec hk
    refine ⟨cs, len, hg, hl, fun σ w x' k e => ?_⟩
    have := e.conc (by simp)
    simp only [conc, Option.map_eq_some_iff] at this
    obtain ⟨y, hy, rfl⟩ := this
    subst hcs
    obtain ⟨vals, hv, hvl, hr⟩ := rd_conc k hm hy hl hb
    refine ⟨vals, hv, rfl, ?_⟩
    simp only [Builtin.firstCells]
    exact run_load_n hvl hr
  · rename_i s
    obtain ⟨h1, hk⟩ := cond_f hk
    have h1 := beq_eq h1; subst h1
    have hk := u8s_spec _ _ hk
    rw [fn_eq] at hk
    refine ⟨_, s.length, hk, by simp, fun σ w x' k e => ?_⟩
    have := e.conc (by simp)
    simp only [conc] at this
    split at this
    · rename_i hby
      cases this
      refine ⟨_, u8s_conc s hby, by simp [Builtin.lenOf, bytesOf_size], ?_⟩
      simp only [Builtin.firstCells, Sem.run_pure]
      congr 1
      apply Array.ext'
      have : (bytesOf s).extract 0 s.length = bytesOf s := by rw [bytesOf_extract]; simp
      rw [this]; simp
    · cases this
  · cases hk
theorem zeroCells_size (z : Array Value) (n : Nat) : (Builtin.zeroCells z n).size = n * z.size := by simp [Builtin.zeroCells]
theorem not_int {d : TypeDesc} (h : ∀ k, d ≠ .int k) : (match d with | .int _ => true | _ => false) = false := by
  cases d <;> first | rfl | exact absurd rfl (h _)
theorem not_int' {d : TypeDesc} (h : (match d with | .int _ => false | _ => true) = true) : ∀ k, d ≠ .int k := fun k e => by subst e; cases h
section
variable {P : Program} {st xt e size n bytes : Nat} {d : TypeDesc} {base : Option Addr} {sLen sCap : Nat} {x' : Value} {ty : TypeId} {w w' : World} {vals : List Value}
theorem run_append_room (h1 : ∀ w, (underlying st).run P w = .ok (.slice e) w) (h2 : ∀ w, (underlying xt).run P w = .ok d w)
    (hd : ∀ k, d ≠ .int k) (h3 : ∀ w, (sizeOf e).run P w = .ok size w) (h4 : (Builtin.lenOf x').run P w = .ok n w) (h5 : (Builtin.firstCells size n x').run P w = .ok vals.toArray w)
    (hc : sLen + n ≤ sCap) (hs : match base with | some a => (storeCells (a.add (sLen * size)) vals).run P w = .ok () w' | none => w' = w) :
    (Builtin.append_ #[st, xt] ty #[.slice base sLen sCap, x']).run P w = .ok (.slice base (sLen + n) sCap) w' := by
  cases base with
  | none =>
    subst hs
    simp [Builtin.append_, h1, h2, h3, h4, h5, hc]
  | some a =>
    simp only at hs
    simp [Builtin.append_, h1, h2, h3, h4, h5, hc, hs]
theorem run_append_new {i : TypeInfo} {zv : Value} {old : List Value} (h1 : ∀ w, (underlying st).run P w = .ok (.slice e) w) (h2 : ∀ w, (underlying xt).run P w = .ok d w)
    (hd : ∀ k, d ≠ .int k) (h3 : ∀ w, (sizeOf e).run P w = .ok size w) (h4 : (Builtin.lenOf x').run P w = .ok n w) (h5 : (Builtin.firstCells size n x').run P w.drew = .ok vals.toArray w.drew)
    (hi : ∀ w, (typeInfo e).run P w = .ok i w) (hb0 : 1 ≤ i.bytes) (hb : (sLen + n) * i.bytes ≤ 140737488355328) (hzv : ∀ w, (zeroValue e).run P w = .ok zv w)
    (h6 : (Builtin.firstCells size sLen (.slice base sLen sCap)).run P w.drew = .ok old.toArray w.drew) (hc : sCap < sLen + n) :
    ∃ newCap, sLen + n ≤ newCap ∧ (Builtin.append_ #[st, xt] ty #[.slice base sLen sCap, x']).run P w =
      .ok (.slice (some ⟨w.heap.size, 0, none⟩) (sLen + n) newCap) (w.drew.alloc (.cells (old ++ vals ++ (Builtin.zeroCells zv.cells (newCap - (sLen + n))).toList).toArray e)) := by
  have hfit := growslice_fits hc hb
  refine ⟨(Question.appendCap (sLen + n) sCap e).cut (w.tape w.drawn (Question.appendCap (sLen + n) sCap e)), by simp [Question.cut], ?_⟩
  have hbz : ¬ i.bytes = 0 := by omega
  have hno : ¬ (sLen + n ≤ sCap) := by omega
  have hfit' : ¬ (281474976710656 < Builtin.nextslicecap (sLen + n) sCap * i.bytes) := by omega
  simp [Builtin.append_, h1, h2, h3, h4, hno, hi, hbz, hfit', Question.forced, h5, h6, hzv, newRow]
  congr 2
  apply Array.ext'
  simp
end
theorem HRel.take {C : Ctx} {σ : Sig} {h : AH} {w w' : World} (k : HRel C σ h w) {b : Nat} {ao ao' : AO} {x y : Loc} (hb : h.m.get b = some ao) (hx : σ b = some x) (hd : ao.owns = true) (hro : ao.ro = false)
    {m1 m2 m3 : Tr AO} (hm1 : h.m.Put b .dead m1) (hm2' : ∀ c p, m2.get c = some p → p ≠ .dead → m1.get c = some p) (hm3 : m2.Put h.nx ao' m3) (hy : y.blk = x.blk)
    (hbelow : C.B ≤ x.blk → Below C.B w w') (hsize : w'.heap.size = w.heap.size) (hoth : ∀ j, j ≠ x.blk → w'.heap[j]? = w.heap[j]?) (hro' : ao'.ro = false) (hor : OR (σ.put h.nx y) y w' ao') : HRel C (σ.put h.nx y) ⟨m3, h.nx + 1⟩ w' := by
  have hB := k.own b ao x hb hx hd hro
  have hn := k.fresh _ (Nat.le_refl _)
  have hle := k.lp y
  have hold : ∀ c p, m3.get c = some p → c ≠ h.nx → p ≠ .dead → c ≠ b ∧ h.m.get c = some p := fun c p h1 h2 h3 => by
    rw [hm3 c, if_neg h2] at h1
    have h4 := hm2' c p h1 h3
    rw [hm1 c] at h4
    by_cases e : c = b
    · rw [if_pos e] at h4; cases h4; exact absurd rfl h3
    · rw [if_neg e] at h4; exact ⟨e, h4⟩
  have ne : ∀ {p : AO}, p.owns = true → p ≠ .dead := fun h e => by subst e; simp [AO.owns] at h
  refine ⟨k.below.trans (hbelow hB), by rw [hsize]; exact k.base, fun n hn' => hle n _ (k.glob n hn'), fun c hc => ?_, (by have := k.nx; simp only [Sig.put]; omega), fun c p z h1 h2 => ?_, fun c p z h1 h2 h3 h4 => ?_, fun c d p q z z' h1 h2 h3 h4 hne h5 h6 => ?_⟩
  · simp only at hc; rw [Sig.put_other _ (by omega)]; exact k.fresh c (by omega)
  · by_cases e : c = h.nx
    · subst e; rw [Sig.put_same] at h2; cases h2; rw [hm3, if_pos rfl] at h1; cases h1; exact hor
    · rw [Sig.put_other _ e] at h2
      by_cases hp : p = .dead
      · subst hp; trivial
      · obtain ⟨e2, h3⟩ := hold c p h1 e hp
        by_cases ho : p.owns = true
        · exact (k.obj c p z h3 h2).mono hle (hoth _ (k.apart c b p ao z x h3 hb h2 hx e2 ho hd))
        · exact (k.obj c p z h3 h2).ownless hle (by simpa using ho)
  · by_cases e : c = h.nx
    · subst e; rw [Sig.put_same] at h2; cases h2; rw [hy]; exact hB
    · rw [Sig.put_other _ e] at h2
      exact k.own c p z (hold c p h1 e (ne h3)).2 h2 h3 h4
  · by_cases e : c = h.nx
    · subst e; rw [Sig.put_same] at h3; cases h3
      rw [Sig.put_other _ (Ne.symm hne)] at h4
      obtain ⟨e2, h7⟩ := hold d q h2 (Ne.symm hne) (ne h6)
      rw [hy]; exact fun e3 => k.apart d b q ao z' x h7 hb h4 hx e2 h6 hd e3.symm
    · rw [Sig.put_other _ e] at h3
      obtain ⟨e2, h7⟩ := hold c p h1 e (ne h5)
      by_cases e3 : d = h.nx
      · subst e3; rw [Sig.put_same] at h4; cases h4; rw [hy]; exact k.apart c b p ao z x h7 hb h3 hx e2 h5 hd
      · rw [Sig.put_other _ e3] at h4
        obtain ⟨e4, h8⟩ := hold d q h2 e3 (ne h6)
        exact k.apart c d p q z z' h7 h8 h3 h4 hne h5 h6
section
variable {P : Program} {E : Env} {C : Ctx} (hE : EnvOk P E C)
include hE
theorem grow_sound {st xt e n : Nat} {ea : ATy} {d : TypeDesc} {base : Option Addr} {sLen sCap : Nat} {x' : Value} {ty : TypeId} {w : World} {vals old : List Value} {xs os : List AV} {σ : Sig} {h : AH} {m : Tr AO}
    (h1 : ∀ w, (underlying st).run P w = .ok (.slice e) w) (h2 : ∀ w, (underlying xt).run P w = .ok d w) (hd : ∀ k, d ≠ .int k) (he : E.ty.get e = some ea) (hz : isBad ea.zero = false) (hzl : (cellsOf ea.zero).length = ea.size) (hb0 : 1 ≤ ea.bytes) (hb1 : ea.bytes ≤ 65536) (hs1 : 1 ≤ ea.size)
    (h4 : (Builtin.lenOf x').run P w = .ok n w) (h5 : (Builtin.firstCells ea.size n x').run P w.drew = .ok vals.toArray w.drew) (h6 : (Builtin.firstCells ea.size sLen (.slice base sLen sCap)).run P w.drew = .ok old.toArray w.drew)
    (hc : sCap < sLen + n) (hlim : sLen + n ≤ 1048576) (k : HRel C σ h w) (hp : h.m.Put h.nx (.cells (os ++ xs) e ea.size false) m) (ho : concL σ os = some old) (hx : concL σ xs = some vals) :
    ∃ σ' z w', σ.le σ' ∧ (Builtin.append_ #[st, xt] ty #[.slice base sLen sCap, x']).run P w = .ok z w' ∧ conc σ' (.sl h.nx 0 (sLen + n) (sLen + n) true) = some z ∧ HRel C σ' ⟨m, h.nx + 1⟩ w' := by
  obtain ⟨i, hi, hib⟩ : ∃ i, (∀ w, (typeInfo e).run P w = .ok i w) ∧ i.bytes = ea.bytes := by
    obtain ⟨i, q1, q2, q3, q4, q5⟩ := hE.ty e ea he
    exact ⟨i, fun w => by simp [typeInfo, q1], q4⟩
  obtain ⟨zv, hzv, hzc⟩ : ∃ zv, (∀ w, (zeroValue e).run P w = .ok zv w) ∧ ∀ σ, conc σ ea.zero = some zv := by
    obtain ⟨i, q1, q2, q3, q4, q5⟩ := hE.ty e ea he
    obtain ⟨zv, q6, q7⟩ := q5 hz
    exact ⟨zv, fun w => by simp [zeroValue, typeInfo, q1, q6], q7⟩
  have hzs : zv.cells.size = ea.size := by
    have := concL_length (cells_conc (hzc σ)); rw [hzl] at this; simpa using this
  obtain ⟨newCap, hn, hr⟩ := run_append_new (ty := ty) h1 h2 hd (fun w => run_size hE he w) h4 h5 hi (by omega) (by rw [hib]; exact Nat.le_trans (Nat.mul_le_mul hlim hb1) (by decide)) hzv h6 hc
  obtain ⟨r1, r2⟩ := new_cells (w := w.drew) k.drew hp (concL_append ho hx) (Builtin.zeroCells zv.cells (newCap - (sLen + n))).toList (newCap - (sLen + n))
    (by simp [zeroCells_size, hzs]) (old ++ vals ++ (Builtin.zeroCells zv.cells (newCap - (sLen + n))).toList).toArray (by simp) (fun e => by omega)
  refine ⟨_, _, _, r2, hr, ?_, r1⟩
  simp only [conc, Sig.put_same, Option.map_some, if_true]
  have : sLen + n + (newCap - (sLen + n)) = newCap := by omega
  rw [this]; rfl
theorem appendK_spec {st xt : TypeId} {s x : AV} {h : AH} {g : AV → AH → Bool} (hk : appendK E st xt s x h g = true) :
    ∃ v h', g v h' = true ∧ ∀ (ty : TypeId) σ w s' x', HRel C σ h w → VR σ s s' → VR σ x x' → ∃ σ' z w', σ.le σ' ∧ (Builtin.append_ #[st, xt] ty #[s', x']).run P w = .ok z w' ∧ conc σ' v = some z ∧ HRel C σ' h' w' := by
  unfold appendK at hk
  split at hk
  · rename_i e _ _ _ xa hst hxt
    have h1 := fun w => run_und hE hst (w := w)
    have h2 := fun w => run_und hE hxt (w := w)
    simp only at h1
    split at hk
    · cases hk
    · rename_i ea he
      obtain ⟨hc, hk⟩ := cond_f hk
      obtain ⟨hc1, hc2⟩ := (both_eq _ _).1 hc
      obtain ⟨hs1, hb0⟩ := (both_eq _ _).1 hc1
      obtain ⟨hc3, hd⟩ := (both_eq _ _).1 hc2
      obtain ⟨hb1, hc4⟩ := (both_eq _ _).1 hc3
      obtain ⟨hz, hzl⟩ := (both_eq _ _).1 hc4
      have hs1 := ble_eq hs1; have hb0 := ble_eq hb0; have hb1 := ble_eq hb1; have hzl := beq_eq hzl
      have hz : isBad ea.zero = false := by simpa using hz
      have hd := not_int' hd
      obtain ⟨xs, n, hk2, hxl, hsrc⟩ := srcK_spec (P := P) (C := C) hk
      clear hk
      have hk := hk2
      clear hk2
      cases s with
      | snil =>
        cases n with
        | zero =>
          refine ⟨_, _, (show g .snil h = true from hk), fun ty σ w s' x' k e1 e2 => ?_⟩
          cases e1.conc (by simp)
          obtain ⟨vals, v1, v2, v3⟩ := hsrc σ w x' k e2
          exact ⟨σ, _, w, Sig.le.refl σ, run_append_room (base := none) (sLen := 0) (sCap := 0) h1 h2 hd (fun w => run_size hE he w) v2 v3 (by omega) rfl, rfl, k⟩
        | succ n =>
          have hk : cond (Nat.ble (n + 1) 1048576) (newK h (.cells xs e ea.size false) fun b h => g (.sl b 0 (n + 1) (n + 1) true) h) false = true := hk
          obtain ⟨hlim, hk⟩ := cond_f hk
          obtain ⟨m, hk, hp⟩ := newK_spec hk
          refine ⟨_, _, hk, fun ty σ w s' x' k e1 e2 => ?_⟩
          cases e1.conc (by simp)
          obtain ⟨vals, v1, v2, v3⟩ := hsrc σ w x' k e2
          obtain ⟨vals', v1', v2', v3'⟩ := hsrc σ w.drew x' k.drew e2
          rw [v1] at v1'; cases v1'
          have := grow_sound hE (ty := ty) (base := none) (sLen := 0) (sCap := 0) (old := []) (os := []) h1 h2 hd he hz hzl hb0 hb1 hs1 v2 v3' rfl (by omega) (by have := ble_eq hlim; omega) k (by simpa using hp) rfl v1
          simpa using this
      | sl b o len cap opened =>
        simp only [fn_eq] at hk
        rcases cond_eq hk with ⟨hroom, hk⟩ | ⟨hroom, hk⟩
        · have hroom := ble_eq hroom
          have hroom : len + n ≤ cap := hroom
          have room : ∀ σ s', VR σ (.sl b o len cap opened) s' → ∃ y, σ b = some y ∧ s' = .slice (some ⟨y.blk, y.shift + o, none⟩) len (if opened then cap + y.extra else cap) ∧ len + n ≤ (if opened then cap + y.extra else cap) := fun σ s' e1 => by
            have := e1.conc (by simp)
            simp only [conc, Option.map_eq_some_iff] at this
            obtain ⟨y, hy, rfl⟩ := this
            exact ⟨y, hy, rfl, by split <;> omega⟩
          cases n with
          | zero =>
            refine ⟨_, _, (show g (.sl b o (len + 0) cap opened) h = true from hk), fun ty σ w s' x' k e1 e2 => ?_⟩
            obtain ⟨y, hy, rfl, hle⟩ := room σ s' e1
            obtain ⟨vals, v1, v2, v3⟩ := hsrc σ w x' k e2
            have hv0 : vals = [] := by have := concL_length v1; rw [hxl] at this; simpa using this
            subst hv0
            refine ⟨σ, _, w, Sig.le.refl σ, run_append_room (base := some ⟨y.blk, y.shift + o, none⟩) h1 h2 hd (fun w => run_size hE he w) v2 v3 hle rfl, ?_, k⟩
            simp [conc, hy]
          | succ n =>
            have hk : (wrK h b (Nat.add o (Nat.mul len ea.size)) xs fun h => g (.sl b o (len + (n + 1)) cap opened) h) = true := hk
            obtain ⟨cs, e', z, m, hk, hm, hl, hs, hp⟩ := wrK_spec hk
            refine ⟨_, _, hk, fun ty σ w s' x' k e1 e2 => ?_⟩
            obtain ⟨y, hy, rfl, hle⟩ := room σ s' e1
            obtain ⟨vals, v1, v2, v3⟩ := hsrc σ w x' k e2
            obtain ⟨w', r1, r2⟩ := wr_sound (P := P) k hm hl hs hp hy v1
            refine ⟨σ, _, w', Sig.le.refl σ, run_append_room (base := some ⟨y.blk, y.shift + o, none⟩) h1 h2 hd (fun w => run_size hE he w) v2 v3 hle (by simp only [add_eq]; rw [Nat.add_assoc]; exact r1), ?_, r2⟩
            simp [conc, hy]
        · have hroom : ¬ (len + n ≤ cap) := fun hle => by
            have : Nat.ble (len + n) cap = true := by rw [Nat.ble_eq]; exact hle
            rw [show Nat.ble (Nat.add len n) cap = Nat.ble (len + n) cap from rfl] at hroom
            rw [this] at hroom; cases hroom
          obtain ⟨hlim, hk⟩ := cond_f hk
          have hlim : len + n ≤ 1048576 := ble_eq hlim
          split at hk
          ·
            rename_i b' L hmb
            obtain ⟨hq, hkA⟩ := cond_f hk
            obtain ⟨hop, hq0⟩ := (both_eq _ _).1 hq
            obtain ⟨hsc, hq2⟩ := (both_eq _ _).1 hq0
            have hsc := scalL_spec hsc
            obtain ⟨hq3, hq4⟩ := (both_eq _ _).1 hq2
            have hq3 : cap + len = 0 := beq_eq hq3
            have hq4 := beq_eq hq4
            obtain ⟨rfl, rfl⟩ : cap = 0 ∧ len = 0 := by omega
            subst hop; subst hq4
            split at hkA
            · rename_i cs e' z hmb'
              obtain ⟨pq, hkB⟩ := cond_f hkA
              obtain ⟨pq1, pq2⟩ := (both_eq _ _).1 pq
              obtain ⟨pq3, pq4⟩ := (both_eq _ _).1 pq2
              have pq1 := beq_eq pq1; have pq3 := beq_eq pq3; have pq4 := beq_eq pq4
              subst pq1; subst pq3; subst pq4
              obtain ⟨m1, hkC, hp1⟩ := Tr.set_spec _ _ _ _ hkB
              obtain ⟨m2, hkD, hp2⟩ := Tr.set_spec _ _ _ _ hkC
              obtain ⟨m3, hkE, hp3⟩ := newK_spec hkD
              refine ⟨_, _, hkE, fun ty σ w s' x' k e1 e2 => ?_⟩
              have := e1.conc (by simp)
              simp only [conc, Option.map_eq_some_iff, if_true, Nat.zero_add, Nat.add_zero] at this
              obtain ⟨y, hy, rfl⟩ := this
              obtain ⟨vals, v1, v2, v3⟩ := hsrc σ w x' k e2
              obtain ⟨vals', v1', v2', v3'⟩ := hsrc σ w.drew x' k.drew e2
              rw [v1] at v1'; cases v1'
              obtain ⟨y0, hy0, hblk, htl⟩ := k.obj b _ y hmb hy
              by_cases hin : n ≤ y.extra
              · obtain ⟨ht1, ht2⟩ := htl (by omega)
                obtain ⟨arr, fz, a1, a2, a3, a4⟩ := k.obj b' _ y0 hmb' hy0
                have hvl := concL_length v1
                have hmul : n * ea.size ≤ y0.extra * ea.size := Nat.mul_le_mul_right _ (by omega)
                have hscal : ∀ v ∈ vals, v.oneCell' = true := concL_mem_one v1 hsc
                obtain ⟨w', arr', r1, r2, r3, r4, r5, r6, r7⟩ := run_store_n (P := P) y.blk y.shift e' fz vals 0 arr w (by rw [hblk]; exact a1) (by omega) (unmarked (a4.1 rfl)) hscal
                have hk1 := (k.kill hp1)
                have hle := k.lp ⟨y.blk, y.shift, y.extra - n⟩
                refine ⟨σ.put h.nx ⟨y.blk, y.shift, y.extra - n⟩, _, w', hle, run_append_room (base := some ⟨y.blk, y.shift, none⟩) h1 h2 hd (fun w => run_size hE he w) v2 v3 (by omega) (by simp only [add_eq, Nat.zero_mul, Nat.add_zero]; exact r1), ?_, ?_⟩
                · simp only [conc, Sig.put_same, Option.map_some, if_true, Nat.zero_add, Nat.add_zero]
                  have : n + (y.extra - n) = y.extra := by omega
                  rw [show Nat.add 0 n = n from Nat.zero_add n, this]
                · refine k.take (b := b') (x := y0) hmb' hy0 rfl rfl hp1 (m2 := m2) (fun c p hc hpd => by rw [hp2] at hc; by_cases e : c = b; (rw [if_pos e] at hc; cases hc; exact absurd rfl hpd); (rw [if_neg e] at hc; exact hc)) hp3 hblk (by rw [← hblk]; exact r7 _) r5 (by rw [← hblk]; exact r6) rfl ?_
                  refine ⟨arr', fz, r2, ?_, fun i v hi => .inr ?_, fun _ => (by rw [r3]; exact a4.1 rfl), fun e => by omega⟩
                  · rw [r3]
                    have : (y.extra - n) * ea.size + n * ea.size ≤ y0.extra * ea.size := by rw [← Nat.add_mul]; exact Nat.mul_le_mul_right _ (by omega)
                    simp only; omega
                  · obtain ⟨q, hq, hc⟩ := concL_get v1 i v hi
                    refine ⟨q, ?_, conc_mono hle _ _ hc⟩
                    have hlt : i < vals.length := (List.getElem?_eq_some_iff.1 hq).1
                    rw [r4, if_pos (by simp only; omega)]
                    have : y.shift + i - (y.shift + 0) = i := by omega
                    simp only [this]; exact hq
              · have k2 : HRel C σ ⟨m2, h.nx⟩ w := (k.kill hp1).kill hp2
                have := grow_sound hE (ty := ty) (base := some ⟨y.blk, y.shift, none⟩) (sLen := 0) (sCap := y.extra) (old := []) (os := []) h1 h2 hd he hz hzl hb0 hb1 hs1 v2 v3' (by simp [Builtin.firstCells, loadCells, loadCellsFrom]) (by omega) (by omega) k2 (by simpa using hp3) rfl v1
                simpa using this
            · cases hkA
          · obtain ⟨os, all, e'', z'', ro'', hkA, hmo, hos, hol, _, hob⟩ := rdK_spec hk
            subst hos
            rcases cond_eq hkA with ⟨hop, hkB⟩ | ⟨hop, hkB⟩
            · subst hop
              split at hkB
              · rename_i cs e' z hmb
                rw [hmb] at hmo; cases hmo
                obtain ⟨pq, hkC⟩ := cond_f hkB
                obtain ⟨pq1, pq2⟩ := (both_eq _ _).1 pq
                obtain ⟨pq3, pq4⟩ := (both_eq _ _).1 pq1
                obtain ⟨pq5, pq6⟩ := (both_eq _ _).1 pq2
                obtain ⟨hsc, pq4⟩ := (both_eq _ _).1 pq4
                have hsc := scalL_spec hsc
                have pq3 := beq_eq pq3; have pq5 := beq_eq pq5; have pq6 := beq_eq pq6
                have pq4 : o + len * ea.size = all.length := beq_eq pq4
                subst pq3; subst pq5; subst pq6
                obtain ⟨m1, hkD, hp1⟩ := Tr.set_spec _ _ _ _ hkC
                obtain ⟨m3, hkE, hp3⟩ := newK_spec hkD
                refine ⟨_, _, hkE, fun ty σ w s' x' k e1 e2 => ?_⟩
                have := e1.conc (by simp)
                simp only [conc, Option.map_eq_some_iff, if_true] at this
                obtain ⟨y, hy, rfl⟩ := this
                obtain ⟨vals, v1, v2, v3⟩ := hsrc σ w x' k e2
                obtain ⟨vals', v1', v2', v3'⟩ := hsrc σ w.drew x' k.drew e2
                rw [v1] at v1'; cases v1'
                obtain ⟨old, q1, q2, q3⟩ := rd_conc (w := w.drew) k.drew hmb hy hol hob
                obtain ⟨arr, fz, a1, a2, a3, a4⟩ := k.obj b _ y hmb hy
                by_cases hin : n ≤ y.extra
                · have hvl := concL_length v1
                  have hol2 : ((all.drop o).take (len * ea.size)).length = len * ea.size := hol
                  have hol' : old.length = len * ea.size := (concL_length q1).trans hol2
                  have hmul : n * ea.size ≤ y.extra * ea.size := Nat.mul_le_mul_right _ hin
                  have hscal : ∀ v ∈ vals, v.oneCell' = true := concL_mem_one v1 hsc
                  obtain ⟨w', arr', r1, r2, r3, r4, r5, r6, r7⟩ := run_store_n (P := P) y.blk (y.shift + o + len * ea.size) _ fz vals 0 arr w a1 (by omega) (unmarked (a4.1 rfl)) hscal
                  have hle := k.lp ⟨y.blk, y.shift + o, y.extra - n⟩
                  refine ⟨σ.put h.nx ⟨y.blk, y.shift + o, y.extra - n⟩, _, w', hle, run_append_room (base := some ⟨y.blk, y.shift + o, none⟩) h1 h2 hd (fun w => run_size hE he w) v2 v3 (by omega) (by simp only [add_eq]; exact r1), ?_, ?_⟩
                  · simp only [conc, Sig.put_same, Option.map_some, if_true, Nat.add_zero]
                    have : len + n + (y.extra - n) = len + y.extra := by omega
                    rw [show Nat.add len n = len + n from rfl, this]
                  · refine k.take (b := b) (x := y) hmb hy rfl rfl hp1 (m2 := m1) (fun c p hc hpd => hc) hp3 rfl (r7 _) r5 r6 rfl ?_
                    refine ⟨arr', fz, r2, ?_, fun i v hi => .inr ?_, fun _ => (by rw [r3]; exact a4.1 rfl), fun e => by omega⟩
                    · rw [r3]
                      have : (y.extra - n) * ea.size + n * ea.size ≤ y.extra * ea.size := by rw [← Nat.add_mul]; exact Nat.mul_le_mul_right _ (by omega)
                      have h0 : ((all.drop o).take (Nat.mul len ea.size)).length = len * ea.size := hol2
                      simp only [List.length_append, h0, hxl]; omega
                    · by_cases hio : i < len * ea.size
                      · rw [List.getElem?_append_left (by rw [show ((all.drop o).take (Nat.mul len ea.size)).length = len * ea.size from hol2]; exact hio)] at hi
                        obtain ⟨q, hq, hc⟩ := concL_get q1 i v hi
                        refine ⟨q, ?_, conc_mono hle _ _ hc⟩
                        rw [r4, if_neg (by simp only; omega)]
                        have := q3 i q hq
                        rw [cell_of (w := w.drew) a1] at this; exact this
                      · rw [List.getElem?_append_right (by rw [show ((all.drop o).take (Nat.mul len ea.size)).length = len * ea.size from hol2]; omega), show ((all.drop o).take (Nat.mul len ea.size)).length = len * ea.size from hol2] at hi
                        obtain ⟨q, hq, hc⟩ := concL_get v1 _ v hi
                        refine ⟨q, ?_, conc_mono hle _ _ hc⟩
                        have hlt : i - len * ea.size < vals.length := (List.getElem?_eq_some_iff.1 hq).1
                        rw [r4, if_pos (by simp only; omega)]
                        have : y.shift + o + i - (y.shift + o + len * ea.size + 0) = i - len * ea.size := by omega
                        simp only [this]; exact hq
                · have k2 : HRel C σ ⟨m1, h.nx⟩ w := k.kill hp1
                  exact grow_sound hE (ty := ty) h1 h2 hd he hz hzl hb0 hb1 hs1 v2 v3' (by simp only [Builtin.firstCells]; exact run_load_n q2 q3) (by omega) hlim k2 hp3 q1 v1
              · cases hkB
            · subst hop
              obtain ⟨m, hkC, hp⟩ := newK_spec hkB
              refine ⟨_, _, hkC, fun ty σ w s' x' k e1 e2 => ?_⟩
              have := e1.conc (by simp)
              simp only [conc, Option.map_eq_some_iff, Bool.false_eq_true, if_false] at this
              obtain ⟨y, hy, rfl⟩ := this
              obtain ⟨vals, v1, v2, v3⟩ := hsrc σ w x' k e2
              obtain ⟨vals', v1', v2', v3'⟩ := hsrc σ w.drew x' k.drew e2
              rw [v1] at v1'; cases v1'
              obtain ⟨old, q1, q2, q3⟩ := rd_conc (w := w.drew) k.drew hmo hy hol hob
              exact grow_sound hE (ty := ty) h1 h2 hd he hz hzl hb0 hb1 hs1 v2 v3' (by simp only [Builtin.firstCells]; exact run_load_n q2 q3) (by omega) hlim k hp q1 v1
      | _ => cases hk
  · cases hk
end
end Go.Refl
end
section
namespace Go.Refl
open Go.RowKit
theorem foldl_over (off : Nat) : ∀ (l : List Value) (k : Nat) (cs : Array Value), off + k + l.length ≤ cs.size →
    ((l.zipIdx k).foldl (fun (cs : Array Value) (x : Value × Nat) => cs.setIfInBounds (off + x.2) x.1) cs).size = cs.size ∧
    ∀ j, ((l.zipIdx k).foldl (fun (cs : Array Value) (x : Value × Nat) => cs.setIfInBounds (off + x.2) x.1) cs)[j]? = if off + k ≤ j ∧ j < off + k + l.length then l[j - (off + k)]? else cs[j]?
  | [], k, cs, h => ⟨rfl, fun j => by rw [if_neg (by simp)]; rfl⟩
  | v :: l, k, cs, h => by
    simp only [List.zipIdx_cons, List.foldl_cons]
    simp only [List.length_cons] at h ⊢
    obtain ⟨h1, h2⟩ := foldl_over off l (k + 1) (cs.setIfInBounds (off + k) v) (by simp; omega)
    refine ⟨by rw [h1]; simp, fun j => ?_⟩
    rw [h2]
    by_cases e1 : off + (k + 1) ≤ j ∧ j < off + (k + 1) + l.length
    · rw [if_pos e1, if_pos (by omega)]
      obtain ⟨d, rfl⟩ : ∃ d, j = off + k + (d + 1) := ⟨j - (off + k) - 1, by omega⟩
      have a1 : off + k + (d + 1) - (off + (k + 1)) = d := by omega
      have a2 : off + k + (d + 1) - (off + k) = d + 1 := by omega
      rw [a1, a2]; simp
    · rw [if_neg e1, Array.getElem?_setIfInBounds]
      by_cases e2 : off + k = j
      · subst e2; rw [if_pos rfl, if_pos (by omega), if_pos (by simp)]; simp
      · rw [if_neg e2, if_neg (by omega)]
theorem fill_one {off size : Nat} {v : Value} {l : List Value} (hs : v.cells.size = size) (hl : off + size ≤ l.length) :
    (v.cells.zipIdx.foldl (fun (cs : Array Value) (x : Value × Nat) => cs.setIfInBounds (off + x.2) x.1) l.toArray).toList = l.take off ++ v.cells.toList ++ l.drop (off + v.cells.toList.length) := by
  rw [← Array.foldl_toList, Array.toList_zipIdx]
  obtain ⟨h1, h2⟩ := foldl_over off v.cells.toList 0 l.toArray (by simp; omega)
  apply List.ext_getElem?
  intro j
  rw [Array.getElem?_toList, h2, splice_get _ _ _ _ (by simp; omega)]
  by_cases e1 : j < off
  · rw [if_neg (by omega), if_pos e1]; simp
  · rw [if_neg e1]
    by_cases e2 : j < off + v.cells.toList.length
    · rw [if_pos (by omega), if_pos e2]; simp
    · rw [if_neg (by omega), if_neg e2]; simp
section
variable {P : Program} {E : Env} {C : Ctx} (hE : EnvOk P E C)
include hE
theorem fillK_spec {place : Nat → (Nat → Nat → Bool) → Bool} {tm : Tr AV} {pc : Nat → Option (Nat × Nat)} (hpl : ∀ i f, place i f = true → ∃ off size, f off size = true ∧ pc i = some (off, size)) :
    ∀ {ps : List (Nat × Operand)} {cs : List AV} {g : List AV → Bool}, fillK E place tm ps cs g = true →
    ∃ cs', g cs' = true ∧ ∀ σ hp w ρ l, HRel C σ hp w → OpR σ tm ρ → concL σ cs = some l → ∃ l', Instr.fill pc l.toArray (ps.map fun (i, x) => (i, ρ x)) = some l'.toArray ∧ concL σ cs' = some l'
  | [], cs, g, h => ⟨cs, h, fun σ hp w ρ l _ _ hl => ⟨l, rfl, hl⟩⟩
  | p :: ps, cs, g, h => by
    have h' : ev E p.2 tm (fun v => place p.1 fun off size => cond (Nat.beq (cellsOf v).length size) (spliceK off (cellsOf v) cs fun cs => fillK E place tm ps cs g) false) = true := h
    obtain ⟨v, hv, hvs⟩ := ev_spec hE h'
    obtain ⟨off, size, h2, hp⟩ := hpl _ _ hv
    obtain ⟨h3, h4⟩ := cond_f h2
    have h3 := beq_eq h3
    obtain ⟨h5, h6, h7⟩ := spliceK_spec _ _ _ _ h4
    obtain ⟨cs', hg, hs⟩ := fillK_spec hpl h5
    refine ⟨cs', hg, fun σ hp' w ρ l k hr hl => ?_⟩
    have hv1 := hvs σ hp' w ρ k hr
    have hnb : v ≠ .bad := fun e => by
      subst e
      have := h7 .bad (by simp [cellsOf]); simp [scal] at this
    have hvc := hv1.conc hnb
    have hcc := cells_conc hvc
    have hcl := concL_length hcc
    have hll := concL_length hl
    have hsz : (ρ p.2).cells.size = size := by rw [h3] at hcl; simpa using hcl
    have hnew : concL σ (cs.take off ++ cellsOf v ++ cs.drop (off + (cellsOf v).length)) = some (l.take off ++ (ρ p.2).cells.toList ++ l.drop (off + (ρ p.2).cells.toList.length)) := by
      refine concL_of_get (by simp; simp at hcl; omega) fun i u hi => ?_
      rw [splice_get _ _ _ _ h6] at hi
      rw [splice_get _ _ _ _ (by simp; simp at hcl; omega)]
      have he : (ρ p.2).cells.toList.length = (cellsOf v).length := hcl
      rw [he]
      by_cases e1 : i < off
      · rw [if_pos e1] at hi ⊢; exact concL_get hl i u hi
      · rw [if_neg e1] at hi ⊢
        by_cases e2 : i < off + (cellsOf v).length
        · rw [if_pos e2] at hi ⊢; exact concL_get hcc _ u hi
        · rw [if_neg e2] at hi ⊢; exact concL_get hl i u hi
    obtain ⟨l', r1, r2⟩ := hs σ hp' w ρ _ k hr hnew
    refine ⟨l', ?_, r2⟩
    simp only [List.map_cons, Instr.fill, hp]
    have hoff : off + size ≤ l.length := by omega
    rw [if_neg (by simp [hsz]; omega)]
    have hf := fill_one (l := l) hsz hoff
    rw [show ((ρ p.2).cells.zipIdx.foldl (fun cs (x : Value × Nat) => match x with | (c, j) => cs.setIfInBounds (off + j) c) l.toArray) =
      (l.take off ++ (ρ p.2).cells.toList ++ l.drop (off + (ρ p.2).cells.toList.length)).toArray from by
        apply Array.ext'
        rw [← hf]]
    exact r1
end
end Go.Refl
end
