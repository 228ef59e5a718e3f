/-
  A part of the proof of TopCrashRecovery: an abstract machine that the kernel runs, and its soundness.
-/
import Derived.Test.YtpncejdamjbnlaaGreatDoorRh
set_option linter.all false
section
namespace Go.Refl
open Go.RowKit
noncomputable section
def bit (m i : Nat) : Bool := Nat.beq (Nat.land 1 (Nat.shiftRight m i)) 1
def fR {R : Type} (x : Nat) (g : Nat → R) : R := ncase (g 0) (fun n _ => g (Nat.succ n)) x
def within (a b : Nat) : Bool := Nat.beq (Nat.land a b) a
def shl1 (i : Nat) : Nat := Nat.shiftLeft 1 i
end
theorem fR_eq {R : Type} (x : Nat) (g : Nat → R) : fR x g = g x := by cases x <;> rfl
theorem bit_eq (m i : Nat) : bit m i = m.testBit i := by
  unfold bit Nat.testBit
  have h : (Nat.land 1 (Nat.shiftRight m i)) = 1 &&& (m >>> i) := rfl
  rw [h, Nat.one_and_eq_mod_two]
  have := Nat.mod_two_eq_zero_or_one (m >>> i)
  rcases this with e | e <;> rw [e] <;> rfl
theorem bit_or (a b i : Nat) : bit (Nat.lor a b) i = (bit a i || bit b i) := by
  rw [bit_eq, bit_eq, bit_eq]; exact Nat.testBit_or a b i
theorem bit_shl1 (i j : Nat) : bit (shl1 i) j = decide (i = j) := by
  rw [bit_eq]
  show (1 <<< i).testBit j = _
  rw [Nat.one_shiftLeft, Nat.testBit_two_pow]
theorem bit_zero (i : Nat) : bit 0 i = false := by rw [bit_eq]; exact Nat.zero_testBit i
theorem within_bit {a b i : Nat} (h : within a b = true) (k : bit a i = true) : bit b i = true := by
  unfold within at h
  have h := Nat.eq_of_beq_eq_true h
  rw [bit_eq] at k ⊢
  have h2 : (a &&& b).testBit i = a.testBit i := by rw [show a &&& b = a from h]
  rw [Nat.testBit_and, k] at h2
  simpa using h2
def bindsA (e : Edge) : Bool :=
  match e.ground with
  | .textOnly _ => false
  | .gcOnly _ => false
  | _ => true
theorem bindsA_eq (e : Edge) : Region.binds .any e = bindsA e := by
  unfold Region.binds bindsA
  cases e.ground <;> rfl
structure Plan where
  Ps : List Nat
  pi : List Nat
  two : Option (Nat × Nat)
def Plan.tail (p : Plan) : List Nat := match p.two with | some (x, y) => [x, y] | none => []
def Plan.full (p : Plan) : List Nat := p.pi ++ p.tail
noncomputable section
def maskAt (Ps : List Nat) (i : Nat) : Nat := (nth Ps i).getD 0
def predM (Ps : List Nat) (es : List Edge) : Nat :=
  lrec 0 (fun e _ ih => cond (bindsA e) (Nat.lor (Nat.lor (maskAt Ps e.on) (shl1 e.on)) ih) ih) es
def snocC {R : Type} (l : List Nat) (p : Nat) : (List Nat → R) → R := lrec (fun g => g [p]) (fun x _ ih g => ih fun l => g (x :: l)) l
def closC {R : Type} (ops : List Oper) : List Nat → (List Nat → R) → R :=
  lrec (fun Ps g => g Ps) (fun o _ ih Ps g => fR (predM Ps o.after.toList) fun p => snocC Ps p fun Ps => ih Ps g) ops
def isSlice (op : Op) : Bool := match op with | .slice _ _ _ _ _ => true | _ => false
def cls (bs : Bool) (op : Op) : Nat := cond (isNew op) 2 (cond (isMove op) 0 (cond (isPure op) 1 (cond (isRead op) (cond (both bs (isSlice op)) 3 1) 3)))
def acts (bs : Bool) (o : Oper) : Bool := Nat.beq (cls bs o.op) 3
structure Rem where
  i : Nat
  P : Nat
  eff : Bool
def passC {R : Type} (l : List Rem) : Nat → List Nat → (List Rem → Nat → List Nat → R) → R :=
  lrec (fun done acc g => g [] done acc)
    (fun x _ ih done acc g => cond (both (not x.eff) (within x.P done)) (fR (Nat.lor done (shl1 x.i)) fun d => ih d (x.i :: acc) g) (ih done acc fun r d a => g (x :: r) d a)) l
def effC {R : Type} (l : List Rem) : Nat → (Option Nat → List Rem → R) → R :=
  lrec (fun _ g => g none [])
    (fun x r ih done g => cond (both x.eff (within x.P done)) (g (some x.i) r) (ih done fun o r => g o (x :: r))) l
def revC {R : Type} (l : List Nat) : List Nat → (List Nat → R) → R := lrec (fun acc g => g acc) (fun x _ ih acc g => ih (x :: acc) g) l
def loopC {R : Type} (n : Nat) : List Rem → Nat → List Nat → (List Nat → R) → R :=
  nrec (fun _ _ acc g => revC acc [] g)
    (fun _ ih l done acc g => passC l done acc fun l done acc => effC l done fun o l => match o with
      | none => revC acc [] g
      | some i => fR (Nat.lor done (shl1 i)) fun done => ih l done (i :: acc) g) n
def remC {R : Type} (bs : Bool) (ops : List Oper) : List Nat → Nat → (List Rem → R) → R :=
  lrec (fun _ _ g => g []) (fun o _ ih Ps i g => match Ps with
    | [] => g []
    | P :: Ps => ih Ps (Nat.succ i) fun l => fR i fun i => bBoolR (acts bs o) fun e => g (⟨i, P, e⟩ :: l)) ops
where bBoolR {R : Type} (b : Bool) (g : Bool → R) : R := cond b (g true) (g false)
def opsL (op : Op) (g : List Operand → Bool) : Bool :=
  match op with
  | .alloc _ | .ready _ | .waits _ => g []
  | .move x | .assign x | .box _ x | .load _ x | .nilCheck x | .unOp _ _ x | .convert _ _ x | .sliceToArrayPointer _ x | .makeInterface _ x
  | .makeChan _ x | .fieldAddr _ x _ | .field _ x _ | .range _ x | .next x _ | .entry x | .typeAssert x _ _ _ | .extract x _ | .panic x | .recv _ x _ => g [x]
  | .pick c a b => g [c, a, b]
  | .build _ ps | .buildSlice _ _ ps => g (ps.toList.map (·.2))
  | .store _ a v | .binOp _ _ a v _ | .makeSlice _ a v | .indexAddr _ a v | .index _ a v | .lookup _ a v _ | .mapEntry _ a v | .send a v => g [a, v]
  | .makeFunc _ first captured => g (first.toList ++ captured.toList)
  | .makeMap _ r => g r.toList
  | .slice _ x l h m => g (x :: (l.toList ++ (h.toList ++ m.toList)))
  | .mapUpdate _ m k v | .entryStore _ m k v | .insert _ m k v => g [m, k, v]
  | .call c | .go c | .defer c => match c.callee with | .value f => g (f :: c.args.toList) | .invoke r _ => g (r :: c.args.toList) | .builtin _ => g c.args.toList
  | .select _ _ => false
theorem opsL_eq {op : Op} {g : List Operand → Bool} (h : opsL op g = true) : g op.operands.toList = true := by
  cases op <;> try exact h
  case makeFunc f a c => simpa [Op.operands, opsL] using h
  case makeMap t r => cases r <;> simpa [Op.operands, opsL] using h
  case slice t x l h' m => cases l <;> cases h' <;> cases m <;> simpa [Op.operands, opsL] using h
  case call c =>
    obtain ⟨callee, args, tys⟩ := c
    cases callee <;> simpa [Op.operands, Call.operands, opsL] using h
  case go c =>
    obtain ⟨callee, args, tys⟩ := c
    cases callee <;> simpa [Op.operands, Call.operands, opsL] using h
  case defer c =>
    obtain ⟨callee, args, tys⟩ := c
    cases callee <;> simpa [Op.operands, Call.operands, opsL] using h
  case select cs b => exact absurd (show false = true from h) (by decide)
def tmpsM (l : List Operand) : Nat := lrec 0 (fun x _ ih => match x with | .tmp t => Nat.lor (shl1 t) ih | _ => ih) l
def guardM (ops : List Oper) (o : Oper) : Nat :=
  match o.guard with
  | some (g, _) => match nth ops g with | some o => (match o.dst with | some d => shl1 d | none => 0) | none => 0
  | none => 0
def lookOk (Ps : List Nat) (P i L : Nat) (ws : List (Nat × Nat)) : Bool :=
  lrec true (fun w _ ih => cond (bit L w.1) (cond (Nat.beq w.2 i) ih (cond (bit P w.2) ih (cond (bit (maskAt Ps w.2) i) ih false))) ih) ws
def looksOk (ops : List Oper) (Ps : List Nat) (ws : List (Nat × Nat)) (l : List Oper) : Nat → Bool :=
  lrec (fun _ => true) (fun o _ ih i => cond (opsL o.op fun os => fR (Nat.lor (tmpsM os) (guardM ops o)) fun L => lookOk Ps (maskAt Ps i) i L ws) (ih (Nat.succ i)) false) l
def writersC (l : List Oper) : Nat → Nat → (List (Nat × Nat) → Bool) → Bool :=
  lrec (fun _ _ g => g []) (fun o _ ih i m g => match o.dst with
    | none => ih (Nat.succ i) m g
    | some d => cond (bit m d) false (fR (Nat.lor m (shl1 d)) fun m => ih (Nat.succ i) m fun ws => g ((d, i) :: ws))) l
def piOk (bs : Bool) (ops : List Oper) (Ps : List Nat) (l : List Nat) : Nat → Nat → (Nat → Nat → Bool) → Bool :=
  lrec (fun done effs g => g done effs) (fun i _ ih done effs g => match nth ops i with
    | none => false
    | some o => cond (both (not (bit done i)) (both (within (maskAt Ps i) done) (within effs (maskAt Ps i))))
        (fR (Nat.lor done (shl1 i)) fun done => cond (acts bs o) (fR (Nat.lor effs (shl1 i)) fun effs => ih done effs g) (ih done effs g)) false) l
def twoOk (ops : List Oper) (Ps : List Nat) (two : Option (Nat × Nat)) (done effs : Nat) (g : Nat → Bool) : Bool :=
  match two with
  | none => g done
  | some (x, y) => cond (both (both (Nat.ble (Nat.succ x) ops.length) (Nat.ble (Nat.succ y) ops.length)) (both (both (not (bit done x)) (both (within (maskAt Ps x) done) (within effs (maskAt Ps x))))
      (both (both (not (bit done y)) (not (Nat.beq x y))) (both (within (maskAt Ps y) done) (within effs (maskAt Ps y))))))
    (fR (Nat.lor done (Nat.lor (shl1 x) (shl1 y))) g) false
def planOk (bs : Bool) (ops : List Oper) (Ps pi : List Nat) (two : Option (Nat × Nat)) : Bool :=
  both (piOk bs ops Ps pi 0 0 fun done effs => twoOk ops Ps two done effs fun done => Nat.beq (Nat.succ done) (shl1 ops.length))
    (writersC ops 0 0 fun ws => looksOk ops Ps ws ops 0)
def lastC {R : Type} (l : List Nat) (g : List Nat → Option (Nat × Nat) → R) : R :=
  revC l [] fun r => match r with
    | y :: x :: r => revC r [] fun l => g l (some (x, y))
    | r => revC r [] fun l => g l none
def planK (bs : Bool) (ops : List Oper) : Option Plan :=
  closC ops [] fun Ps => remC bs ops Ps 0 fun l => loopC (Nat.succ ops.length) l 0 [] fun pi => cond (planOk bs ops Ps pi none) (some ⟨Ps, pi, none⟩)
    (lastC pi fun pi two => cond (planOk bs ops Ps pi two) (some ⟨Ps, pi, two⟩) none)
end
structure PlanOk (opsA : Array Oper) (p : Plan) : Prop where
  edge : ∀ i o, opsA[i]? = some o → ∀ j, bit (maskAt p.Ps i) j = true → ∃ e ∈ o.after, bindsA e = true ∧ (e.on = j ∨ bit (maskAt p.Ps e.on) j = true)
  on : ∀ i o, opsA[i]? = some o → ∀ e ∈ o.after, bindsA e = true → bit (maskAt p.Ps i) e.on = true
  nodup : p.full.Nodup
  lt : ∀ i ∈ p.full, i < opsA.size
  all : ∀ i, i < opsA.size → i ∈ p.full
  pred : ∀ pre i post, p.full = pre ++ i :: post → ∀ j, bit (maskAt p.Ps i) j = true → j ∈ pre
  dst : ∀ (i j : Nat) oi oj d, opsA[i]? = some oi → opsA[j]? = some oj → oi.dst = some d → oj.dst = some d → i = j
  look : ∀ (i j : Nat) oi oj d, opsA[i]? = some oi → opsA[j]? = some oj → i ≠ j → oj.dst = some d → d ∈ oi.looksAt opsA → bit (maskAt p.Ps i) j = true ∨ bit (maskAt p.Ps j) i = true
structure EffOk (bs : Bool) (opsA : Array Oper) (p : Plan) : Prop where
  eff : ∀ pre i post, p.pi = pre ++ i :: post → ∀ o, opsA[i]? = some o → acts bs o = true → ∀ j ∈ post ++ p.tail, bit (maskAt p.Ps j) i = true
  swap : ∀ x y, p.two = some (x, y) → PlanOk opsA { p with two := some (y, x) }
theorem snocC_eq {R : Type} : ∀ (l : List Nat) (p : Nat) (g : List Nat → R), snocC l p g = g (l ++ [p])
  | [], p, g => rfl
  | x :: l, p, g => by
    show snocC l p (fun l => g (x :: l)) = _
    rw [snocC_eq l]; rfl
theorem maskAt_eq (Ps : List Nat) (i : Nat) : maskAt Ps i = (Ps[i]?).getD 0 := by unfold maskAt; rw [nth_eq]
theorem predM_bit : ∀ (Ps : List Nat) (es : List Edge) (j : Nat), bit (predM Ps es) j = true ↔ ∃ e ∈ es, bindsA e = true ∧ (e.on = j ∨ bit (maskAt Ps e.on) j = true)
  | Ps, [], j => by
    have : predM Ps [] = 0 := rfl
    simp [this, bit_zero]
  | Ps, e :: es, j => by
    have ih := predM_bit Ps es j
    have h : predM Ps (e :: es) = cond (bindsA e) (Nat.lor (Nat.lor (maskAt Ps e.on) (shl1 e.on)) (predM Ps es)) (predM Ps es) := rfl
    rw [h]
    cases hb : bindsA e with
    | false => simp [ih, hb]
    | true =>
      simp only [cond_true, bit_or, bit_shl1, Bool.or_eq_true, decide_eq_true_eq, ih, List.mem_cons, exists_eq_or_imp, hb, true_and]
      constructor
      · rintro ((h | h) | h)
        · exact .inl (.inr h)
        · exact .inl (.inl h)
        · exact .inr h
      · rintro ((h | h) | h)
        · exact .inl (.inr h)
        · exact .inl (.inl h)
        · exact .inr h
def MaskOk (ops : List Oper) (Ps : List Nat) : Prop := ∀ i o, i < Ps.length → ops[i]? = some o → ∃ Qs, Qs.length = i ∧ (∃ R, Ps = Qs ++ R) ∧ maskAt Ps i = predM Qs o.after.toList
theorem closC_spec {R : Type} (ops : List Oper) : ∀ (l pre : List Oper) (Ps : List Nat) (g : List Nat → R), ops = pre ++ l → Ps.length = pre.length → MaskOk ops Ps → ∃ Ps', closC l Ps g = g Ps' ∧ Ps'.length = ops.length ∧ MaskOk ops Ps'
  | [], pre, Ps, g, h, hl, hm => ⟨Ps, rfl, by simp [h, hl], hm⟩
  | o :: l, pre, Ps, g, h, hl, hm => by
    have e : closC (o :: l) Ps g = fR (predM Ps o.after.toList) fun p => snocC Ps p fun Ps => closC l Ps g := rfl
    rw [e, fR_eq, snocC_eq]
    refine closC_spec ops l (pre ++ [o]) _ g (by simp [h]) (by simp [hl]) fun i oi hi ho => ?_
    by_cases e : i < Ps.length
    · obtain ⟨Qs, q1, ⟨R, q2⟩, q3⟩ := hm i oi e ho
      exact ⟨Qs, q1, ⟨R ++ [predM Ps o.after.toList], by rw [← List.append_assoc, ← q2]⟩, by rw [← q3, maskAt_eq, maskAt_eq, List.getElem?_append_left e]⟩
    · have hi' : i = Ps.length := by simp at hi; omega
      subst hi'
      have : oi = o := by
        rw [h, hl, List.getElem?_append_right (Nat.le_refl _)] at ho
        simpa using ho.symm
      subst this
      exact ⟨Ps, rfl, ⟨_, rfl⟩, by rw [maskAt_eq]; simp⟩
theorem remC_any {R : Type} {Pr : R → Prop} {bs : Bool} : ∀ (ops : List Oper) (Ps : List Nat) (i : Nat) (g : List Rem → R), (∀ l, Pr (g l)) → Pr (remC bs ops Ps i g)
  | [], Ps, i, g, h => h []
  | o :: ops, [], i, g, h => h []
  | o :: ops, P :: Ps, i, g, h => by
    show Pr (remC bs ops Ps (Nat.succ i) fun l => fR i fun i => remC.bBoolR (acts bs o) fun e => g (⟨i, P, e⟩ :: l))
    refine remC_any ops Ps _ _ fun l => ?_
    rw [fR_eq]
    unfold remC.bBoolR
    cases acts bs o <;> exact h _
theorem passC_any {R : Type} {Pr : R → Prop} : ∀ (l : List Rem) (done : Nat) (acc : List Nat) (g : List Rem → Nat → List Nat → R), (∀ l d a, Pr (g l d a)) → Pr (passC l done acc g)
  | [], d, a, g, h => h _ _ _
  | x :: l, d, a, g, h => by
    show Pr (cond (both (not x.eff) (within x.P d)) (fR (Nat.lor d (shl1 x.i)) fun d => passC l d (x.i :: a) g) (passC l d a fun r d a => g (x :: r) d a))
    cases both (not x.eff) (within x.P d)
    · exact passC_any l _ _ _ fun _ _ _ => h _ _ _
    · rw [cond_true, fR_eq]; exact passC_any l _ _ _ h
theorem effC_any {R : Type} {Pr : R → Prop} : ∀ (l : List Rem) (done : Nat) (g : Option Nat → List Rem → R), (∀ o l, Pr (g o l)) → Pr (effC l done g)
  | [], d, g, h => h _ _
  | x :: l, d, g, h => by
    show Pr (cond (both x.eff (within x.P d)) (g (some x.i) l) (effC l d fun o r => g o (x :: r)))
    cases both x.eff (within x.P d)
    · exact effC_any l _ _ fun _ _ => h _ _
    · exact h _ _
theorem revC_any {R : Type} {Pr : R → Prop} : ∀ (l acc : List Nat) (g : List Nat → R), (∀ l, Pr (g l)) → Pr (revC l acc g)
  | [], a, g, h => h _
  | x :: l, a, g, h => revC_any l (x :: a) g h
theorem loopC_any {R : Type} {Pr : R → Prop} : ∀ (n : Nat) (l : List Rem) (done : Nat) (acc : List Nat) (g : List Nat → R), (∀ l, Pr (g l)) → Pr (loopC n l done acc g)
  | 0, l, d, a, g, h => revC_any a [] g h
  | n + 1, l, d, a, g, h => by
    show Pr (passC l d a fun l done acc => effC l done fun o l => match o with
      | none => revC acc [] g
      | some i => fR (Nat.lor done (shl1 i)) fun done => loopC n l done (i :: acc) g)
    refine passC_any _ _ _ _ fun l d a => effC_any _ _ _ fun o l => ?_
    cases o with
    | none => exact revC_any a [] g h
    | some i => simp only [fR_eq]; exact loopC_any n _ _ _ g h
theorem piOk_spec {bs : Bool} {opsA : Array Oper} {Ps : List Nat} : ∀ (l pre : List Nat) (done effs : Nat) (g : Nat → Nat → Bool), piOk bs opsA.toList Ps l done effs g = true →
    (∀ j, bit done j = true ↔ j ∈ pre) → (∀ j ∈ pre, ∀ o, opsA[j]? = some o → acts bs o = true → bit effs j = true) → (∀ j ∈ pre, j < opsA.size) → pre.Nodup →
    ∃ done' effs', g done' effs' = true ∧ (∀ j, bit done' j = true ↔ j ∈ pre ++ l) ∧ (∀ j ∈ pre ++ l, ∀ o, opsA[j]? = some o → acts bs o = true → bit effs' j = true) ∧ (∀ j ∈ pre ++ l, j < opsA.size) ∧ (pre ++ l).Nodup ∧
      (∀ p i post, l = p ++ i :: post → (∀ j, bit (maskAt Ps i) j = true → j ∈ pre ++ p) ∧ (∀ j ∈ pre ++ p, ∀ o, opsA[j]? = some o → acts bs o = true → bit (maskAt Ps i) j = true))
  | [], pre, done, effs, g, h, hd, he, hlt, hn => ⟨done, effs, h, by simpa using hd, by simpa using he, by simpa using hlt, by simpa using hn, fun p i post e => by
      have := congrArg List.length e; simp at this⟩
  | i :: l, pre, done, effs, g, h, hd, he, hlt, hn => by
    have h' : (match nth opsA.toList i with
      | none => false
      | some o => cond (both (not (bit done i)) (both (within (maskAt Ps i) done) (within effs (maskAt Ps i))))
        (fR (Nat.lor done (shl1 i)) fun done => cond (acts bs o) (fR (Nat.lor effs (shl1 i)) fun effs => piOk bs opsA.toList Ps l done effs g) (piOk bs opsA.toList Ps l done effs g)) false) = true := h
    rw [nth_eq, Array.getElem?_toList] at h'
    cases ho : opsA[i]? with
    | none => rw [ho] at h'; cases h'
    | some o =>
      rw [ho] at h'
      obtain ⟨h1, h2⟩ := cond_f (show cond (both (not (bit done i)) (both (within (maskAt Ps i) done) (within effs (maskAt Ps i)))) _ false = true from h')
      simp only [both_eq, Bool.not_eq_true'] at h1
      obtain ⟨b1, b2, b3⟩ := h1
      have hni : i ∉ pre := fun hm => by rw [(hd i).2 hm] at b1; cases b1
      have hlt' : i < opsA.size := (Array.getElem?_eq_some_iff.1 ho).1
      rw [fR_eq] at h2
      have hgo : ∃ effs', piOk bs opsA.toList Ps l (Nat.lor done (shl1 i)) effs' g = true ∧ ∀ j ∈ pre ++ [i], ∀ o, opsA[j]? = some o → acts bs o = true → bit effs' j = true := by
        cases ha : acts bs o with
        | true =>
          rw [ha, cond_true, fR_eq] at h2
          refine ⟨_, h2, fun j hj oj hoj haj => ?_⟩
          rw [bit_or, bit_shl1]
          rcases List.mem_append.1 hj with hj | hj
          · rw [he j hj oj hoj haj]; rfl
          · simp at hj; simp [hj]
        | false =>
          rw [ha, cond_false] at h2
          refine ⟨_, h2, fun j hj oj hoj haj => ?_⟩
          rcases List.mem_append.1 hj with hj | hj
          · exact he j hj oj hoj haj
          · simp at hj; subst hj; rw [ho] at hoj; cases hoj; rw [ha] at haj; cases haj
      obtain ⟨effs', h3, he'⟩ := hgo
      obtain ⟨done', effs2, g1, g2, g2e, g3, g4, g5⟩ := piOk_spec l (pre ++ [i]) _ effs' g h3 (fun j => by
        rw [bit_or, bit_shl1, Bool.or_eq_true, hd j, List.mem_append]; simp [eq_comm]) he' (fun j hj => by
        rcases List.mem_append.1 hj with hj | hj
        · exact hlt j hj
        · simp at hj; subst hj; exact hlt') (by
        rw [List.nodup_append]
        exact ⟨hn, by simp, fun a ha b hb => by simp at hb; subst hb; intro e; subst e; exact hni ha⟩)
      refine ⟨done', effs2, g1, fun j => by rw [g2 j]; simp, fun j hj => g2e j (by simpa using hj), fun j hj => g3 j (by simpa using hj), by simpa using g4, fun p k post e => ?_⟩
      cases p with
      | nil =>
        simp at e
        obtain ⟨rfl, rfl⟩ := e
        simp only [List.append_nil]
        exact ⟨fun j hj => (hd j).1 (within_bit b2 hj), fun j hj oj hoj haj => within_bit b3 (he j hj oj hoj haj)⟩
      | cons x p =>
        simp at e
        obtain ⟨rfl, rfl⟩ := e
        have := g5 p k post rfl
        simpa using this
theorem writersC_spec {ops : List Oper} : ∀ (l pre : List Oper) (m : Nat) (g : List (Nat × Nat) → Bool), ops = pre ++ l → writersC l pre.length m g = true →
    ∃ ws, g ws = true ∧ (∀ i o d, pre.length ≤ i → ops[i]? = some o → o.dst = some d → (d, i) ∈ ws) ∧
      (∀ i o d, pre.length ≤ i → ops[i]? = some o → o.dst = some d → bit m d = false) ∧
      (∀ i j oi oj d, pre.length ≤ i → pre.length ≤ j → ops[i]? = some oi → ops[j]? = some oj → oi.dst = some d → oj.dst = some d → i = j)
  | [], pre, m, g, h, hk => by
    have nil_ : ∀ i : Nat, pre.length ≤ i → ops[i]? = none := fun i hi => by rw [h]; simp; exact hi
    exact ⟨[], hk, (fun i o d hi ho _ => by rw [nil_ i hi] at ho; cases ho), (fun i o d hi ho _ => by rw [nil_ i hi] at ho; cases ho), (fun i j oi oj d hi hj ho _ _ _ => by rw [nil_ i hi] at ho; cases ho)⟩
  | o :: l, pre, m, g, h, hk => by
    have hk' : (match o.dst with
      | none => writersC l (Nat.succ pre.length) m g
      | some d => cond (bit m d) false (fR (Nat.lor m (shl1 d)) fun m => writersC l (Nat.succ pre.length) m fun ws => g ((d, pre.length) :: ws))) = true := hk
    have hat : ops[pre.length]? = some o := by rw [h]; simp
    have split : ∀ i, pre.length ≤ i → i = pre.length ∨ (pre ++ [o]).length ≤ i := fun i hi => by simp; omega
    have hops : ops = (pre ++ [o]) ++ l := by simp [h]
    have hlen : (pre ++ [o]).length = Nat.succ pre.length := by simp
    cases hd : o.dst with
    | none =>
      rw [hd] at hk'
      obtain ⟨ws, w1, w2, w3, w4⟩ := writersC_spec l (pre ++ [o]) m g hops (by rw [hlen]; exact hk')
      refine ⟨ws, w1, fun i oi d hi ho hdi => ?_, fun i oi d hi ho hdi => ?_, fun i j oi oj d hi hj ho1 ho2 hd1 hd2 => ?_⟩
      · rcases split i hi with rfl | hi
        · rw [hat] at ho; cases ho; rw [hd] at hdi; cases hdi
        · exact w2 i oi d hi ho hdi
      · rcases split i hi with rfl | hi
        · rw [hat] at ho; cases ho; rw [hd] at hdi; cases hdi
        · exact w3 i oi d hi ho hdi
      · rcases split i hi with rfl | hi
        · rw [hat] at ho1; cases ho1; rw [hd] at hd1; cases hd1
        · rcases split j hj with rfl | hj
          · rw [hat] at ho2; cases ho2; rw [hd] at hd2; cases hd2
          · exact w4 i j oi oj d hi hj ho1 ho2 hd1 hd2
    | some d0 =>
      rw [hd] at hk'
      obtain ⟨hb, h2⟩ := cond_t (show cond (bit m d0) false _ = true from hk')
      rw [fR_eq] at h2
      obtain ⟨ws, w1, w2, w3, w4⟩ := writersC_spec l (pre ++ [o]) _ _ hops (by rw [hlen]; exact h2)
      have free : ∀ i oi d, (pre ++ [o]).length ≤ i → ops[i]? = some oi → oi.dst = some d → d ≠ d0 ∧ bit m d = false := fun i oi d hi ho hdi => by
        have := w3 i oi d hi ho hdi
        rw [bit_or, bit_shl1] at this
        simp at this
        exact ⟨fun e => this.2 e.symm, this.1⟩
      refine ⟨(d0, pre.length) :: ws, w1, fun i oi d hi ho hdi => ?_, fun i oi d hi ho hdi => ?_, fun i j oi oj d hi hj ho1 ho2 hd1 hd2 => ?_⟩
      · rcases split i hi with rfl | hi
        · rw [hat] at ho; cases ho; rw [hd] at hdi; cases hdi; simp
        · exact List.mem_cons_of_mem _ (w2 i oi d hi ho hdi)
      · rcases split i hi with rfl | hi
        · rw [hat] at ho; cases ho; rw [hd] at hdi; cases hdi; exact hb
        · exact (free i oi d hi ho hdi).2
      · rcases split i hi with rfl | hi
        · rw [hat] at ho1; cases ho1; rw [hd] at hd1; cases hd1
          rcases split j hj with rfl | hj
          · rfl
          · exact absurd rfl (free j oj _ hj ho2 hd2).1
        · rcases split j hj with rfl | hj
          · rw [hat] at ho2; cases ho2; rw [hd] at hd2; cases hd2
            exact absurd rfl (free i oi _ hi ho1 hd1).1
          · exact w4 i j oi oj d hi hj ho1 ho2 hd1 hd2
theorem tmpsM_bit : ∀ (l : List Operand) (t : Nat), bit (tmpsM l) t = true ↔ Operand.tmp t ∈ l
  | [], t => by
    have : tmpsM [] = 0 := rfl
    simp [this, bit_zero]
  | x :: l, t => by
    have ih := tmpsM_bit l t
    have e : tmpsM (x :: l) = (match x with | .tmp t => Nat.lor (shl1 t) (tmpsM l) | _ => tmpsM l) := rfl
    rw [e]
    cases x with
    | tmp s =>
      simp only [bit_or, bit_shl1, Bool.or_eq_true, decide_eq_true_eq, ih, List.mem_cons, Operand.tmp.injEq]
      constructor
      · rintro (h | h)
        · exact .inl h.symm
        · exact .inr h
      · rintro (h | h)
        · exact .inl h.symm
        · exact .inr h
    | _ => simp [ih]
theorem looksAt_bit {opsA : Array Oper} {o : Oper} {t : Nat} (h : t ∈ o.looksAt opsA) : bit (Nat.lor (tmpsM o.op.operands.toList) (guardM opsA.toList o)) t = true := by
  rw [bit_or, Bool.or_eq_true, tmpsM_bit]
  unfold Oper.looksAt at h
  rcases List.mem_append.1 h with h | h
  · left
    obtain ⟨x, hx, he⟩ := List.mem_filterMap.1 h
    cases x <;> simp at he
    subst he; exact hx
  · right
    unfold guardM
    split at h
    · rename_i g b hg
      rw [hg]
      simp only [nth_eq, Array.getElem?_toList]
      cases ho : opsA[g]? with
      | none => simp [ho] at h
      | some og =>
        cases hd : og.dst with
        | none => simp [ho, hd] at h
        | some d =>
          simp [ho, hd] at h
          subst h
          show bit (match og.dst with | some d => shl1 d | none => 0) t = true
          rw [hd]
          show bit (shl1 t) t = true
          rw [bit_shl1]; simp
    · simp at h
theorem lookOk_spec {Ps : List Nat} {P i L : Nat} : ∀ {ws : List (Nat × Nat)}, lookOk Ps P i L ws = true → ∀ d j, (d, j) ∈ ws → bit L d = true → j = i ∨ bit P j = true ∨ bit (maskAt Ps j) i = true
  | [], _, d, j, h, _ => by simp at h
  | w :: ws, hk, d, j, h, hb => by
    have hk' : cond (bit L w.1) (cond (Nat.beq w.2 i) (lookOk Ps P i L ws) (cond (bit P w.2) (lookOk Ps P i L ws) (cond (bit (maskAt Ps w.2) i) (lookOk Ps P i L ws) false))) (lookOk Ps P i L ws) = true := hk
    rcases List.mem_cons.1 h with e | h
    · subst e
      simp only [hb, cond_true] at hk'
      cases hi : Nat.beq j i with
      | true => exact .inl (Nat.eq_of_beq_eq_true hi)
      | false =>
        rw [hi, cond_false] at hk'
        cases hp : bit P j with
        | true => exact .inr (.inl rfl)
        | false =>
          rw [hp, cond_false] at hk'
          exact .inr (.inr (cond_f hk').1)
    · have : lookOk Ps P i L ws = true := by
        revert hk'
        cases bit L w.1 <;> cases Nat.beq w.2 i <;> cases bit P w.2 <;> cases bit (maskAt Ps w.2) i <;> simp
      exact lookOk_spec this d j h hb
theorem looksOk_spec {opsA : Array Oper} {Ps : List Nat} {ws : List (Nat × Nat)} : ∀ (l pre : List Oper), opsA.toList = pre ++ l → looksOk opsA.toList Ps ws l pre.length = true →
    ∀ i o, pre.length ≤ i → opsA[i]? = some o → ∀ d ∈ o.looksAt opsA, ∀ j, (d, j) ∈ ws → j = i ∨ bit (maskAt Ps i) j = true ∨ bit (maskAt Ps j) i = true
  | [], pre, h, hk, i, o, hi, ho => by
    rw [← Array.getElem?_toList, h] at ho
    simp at ho
    have := (List.getElem?_eq_some_iff.1 ho).1
    omega
  | o :: l, pre, h, hk, i, oi, hi, ho => by
    obtain ⟨h1, h2⟩ := cond_f (show cond (opsL o.op fun os => fR (Nat.lor (tmpsM os) (guardM opsA.toList o)) fun L => lookOk Ps (maskAt Ps pre.length) pre.length L ws) (looksOk opsA.toList Ps ws l (Nat.succ pre.length)) false = true from hk)
    by_cases e : i = pre.length
    · subst e
      have : oi = o := by
        rw [← Array.getElem?_toList, h] at ho; simpa using ho.symm
      subst this
      intro d hd j hj
      have h3 := opsL_eq h1
      rw [fR_eq] at h3
      exact lookOk_spec h3 d j hj (looksAt_bit hd)
    · exact looksOk_spec l (pre ++ [o]) (by simp [h]) (by simpa using h2) i oi (by simp; omega) ho
theorem lastC_any {R : Type} {Pr : R → Prop} (l : List Nat) (g : List Nat → Option (Nat × Nat) → R) (h : ∀ l t, Pr (g l t)) : Pr (lastC l g) := by
  unfold lastC
  refine revC_any l [] _ fun r => ?_
  split <;> exact revC_any _ [] _ fun l => h l _
theorem order_ok {Ps : List Nat} : ∀ {l : List Nat} (tail : List Nat), (∀ p i post, l = p ++ i :: post → ∀ j, bit (maskAt Ps i) j = true → j ∈ p) →
    (∀ p i post, tail = p ++ i :: post → ∀ j, bit (maskAt Ps i) j = true → j ∈ l ++ p) → ∀ p i post, l ++ tail = p ++ i :: post → ∀ j, bit (maskAt Ps i) j = true → j ∈ p := fun {l} tail h1 h2 p i post e j hj => by
  rcases List.append_eq_append_iff.1 e with ⟨a, ha1, ha2⟩ | ⟨a, ha1, ha2⟩
  · rw [ha1]
    exact h2 a i post ha2 j hj
  · cases a with
    | nil =>
      simp at ha1 ha2
      subst ha1
      have := h2 [] i post (by simp [ha2]) j hj
      simpa using this
    | cons x a =>
      simp at ha2
      obtain ⟨rfl, rfl⟩ := ha2
      exact h1 p i a ha1 j hj
theorem planOk_spec {bs : Bool} {opsA : Array Oper} {Ps pi : List Nat} {two : Option (Nat × Nat)} (hlen : Ps.length = opsA.toList.length) (hm : MaskOk opsA.toList Ps) (hok : planOk bs opsA.toList Ps pi two = true) : PlanOk opsA ⟨Ps, pi, two⟩ ∧ EffOk bs opsA ⟨Ps, pi, two⟩ := by
  unfold planOk at hok
  rw [both_eq] at hok
  obtain ⟨hok1, hok2⟩ := hok
  obtain ⟨done, effs, d1, d2, d2e, d3, d4, d5⟩ := piOk_spec pi [] 0 0 _ hok1 (by simp [bit_zero]) (by simp) (by simp) (by simp)
  obtain ⟨ws, w1, w2, w3, w4⟩ := writersC_spec (ops := opsA.toList) opsA.toList [] 0 _ rfl hok2
  have hl := looksOk_spec (opsA := opsA) opsA.toList [] rfl w1
  have hmask : ∀ i o, opsA[i]? = some o → ∃ Qs, Qs.length = i ∧ (∃ R, Ps = Qs ++ R) ∧ maskAt Ps i = predM Qs o.after.toList := fun i o ho =>
    hm i o (by rw [hlen]; simpa using (Array.getElem?_eq_some_iff.1 ho).1) (by rw [Array.getElem?_toList]; exact ho)
  have edge : ∀ i o, opsA[i]? = some o → ∀ j, bit (maskAt Ps i) j = true → ∃ e ∈ o.after, bindsA e = true ∧ (e.on = j ∨ bit (maskAt Ps e.on) j = true) := fun i o ho j hj => by
    obtain ⟨Qs, q1, ⟨R, q2⟩, q3⟩ := hmask i o ho
    rw [q3, predM_bit] at hj
    obtain ⟨e, he, hb, hor⟩ := hj
    refine ⟨e, by simpa using he, hb, hor.imp id fun hbit => ?_⟩
    by_cases hlt : e.on < Qs.length
    · rw [maskAt_eq, q2, List.getElem?_append_left hlt, ← maskAt_eq]; exact hbit
    · rw [maskAt_eq, List.getElem?_eq_none (by omega)] at hbit
      simp [bit_zero] at hbit
  have on : ∀ i o, opsA[i]? = some o → ∀ e ∈ o.after, bindsA e = true → bit (maskAt Ps i) e.on = true := fun i o ho e he hb => by
    obtain ⟨Qs, q1, _, q3⟩ := hmask i o ho
    rw [q3, predM_bit]
    exact ⟨e, by simpa using he, hb, .inl rfl⟩
  have dst : ∀ (i j : Nat) oi oj d, opsA[i]? = some oi → opsA[j]? = some oj → oi.dst = some d → oj.dst = some d → i = j :=
    fun i j oi oj d h1 h2 => w4 i j oi oj d (by simp) (by simp) (by rw [Array.getElem?_toList]; exact h1) (by rw [Array.getElem?_toList]; exact h2)
  have look : ∀ (i j : Nat) oi oj d, opsA[i]? = some oi → opsA[j]? = some oj → i ≠ j → oj.dst = some d → d ∈ oi.looksAt opsA → bit (maskAt Ps i) j = true ∨ bit (maskAt Ps j) i = true := fun i j oi oj d h1 h2 hne hd hlk => by
    rcases hl i oi (by simp) h1 d hlk j (w2 j oj d (by simp) (by rw [Array.getElem?_toList]; exact h2) hd) with e | e
    · exact absurd e.symm hne
    · exact e
  simp only [List.nil_append] at d2 d2e d3 d4 d5
  have alls : ∀ (tail : List Nat) (D : Nat), Nat.beq (Nat.succ D) (shl1 opsA.toList.length) = true → (∀ j, bit D j = true ↔ j ∈ pi ++ tail) → ∀ i, i < opsA.size → i ∈ pi ++ tail := fun tail D e h i hi => by
    have e := Nat.eq_of_beq_eq_true e
    have : D.testBit i = true := by
      have e2 : D = 2 ^ opsA.size - 1 := by
        have e3 : shl1 opsA.toList.length = 2 ^ opsA.size := by
          show 1 <<< _ = _
          rw [Nat.one_shiftLeft, Array.length_toList]
        rw [e3] at e; omega
      rw [e2, Nat.testBit_two_pow_sub_one]; simpa using hi
    rw [← bit_eq, h] at this; exact this
  have effs1 : ∀ pre i post, pi = pre ++ i :: post → ∀ o, opsA[i]? = some o → acts bs o = true → ∀ j ∈ post, bit (maskAt Ps j) i = true := fun pre i post e o ho ha j hj => by
    obtain ⟨q1, q2, rfl⟩ := List.append_of_mem hj
    exact (d5 (pre ++ i :: q1) j q2 (by rw [e]; simp)).2 i (by simp) o ho ha
  cases two with
  | none =>
    have d1 : Nat.beq (Nat.succ done) (shl1 opsA.toList.length) = true := d1
    refine ⟨⟨edge, on, by simpa [Plan.full, Plan.tail] using d4, fun i hi => d3 i (by simpa [Plan.full, Plan.tail] using hi), fun i hi => ?_, fun pre i post e j hj => ?_, dst, look⟩, fun pre i post e o ho ha j hj => ?_, fun x y e => by cases e⟩
    · have := alls [] done d1 (by simpa using d2) i hi
      simpa [Plan.full, Plan.tail] using this
    · exact (d5 pre i post (by simpa [Plan.full, Plan.tail] using e)).1 j hj
    · exact effs1 pre i post e o ho ha j (by simpa [Plan.tail] using hj)
  | some xy =>
    obtain ⟨x, y⟩ := xy
    have d1 : cond (both (both (Nat.ble (Nat.succ x) opsA.toList.length) (Nat.ble (Nat.succ y) opsA.toList.length)) (both (both (not (bit done x)) (both (within (maskAt Ps x) done) (within effs (maskAt Ps x))))
      (both (both (not (bit done y)) (not (Nat.beq x y))) (both (within (maskAt Ps y) done) (within effs (maskAt Ps y))))))
      (fR (Nat.lor done (Nat.lor (shl1 x) (shl1 y))) fun done => Nat.beq (Nat.succ done) (shl1 opsA.toList.length)) false = true := d1
    obtain ⟨c1, c2⟩ := cond_f d1
    simp only [both_eq, Bool.not_eq_true'] at c1
    obtain ⟨⟨x0, y0⟩, ⟨x1, x2, x3⟩, ⟨y1, y2⟩, y3, y4⟩ := c1
    have x0 : x < opsA.size := by have := bles_eq x0; simpa using this
    have y0 : y < opsA.size := by have := bles_eq y0; simpa using this
    have hxy : x ≠ y := fun e => by subst e; simp at y2
    rw [fR_eq] at c2
    have hxd : x ∉ pi := fun h => by rw [(d2 x).2 h] at x1; cases x1
    have hyd : y ∉ pi := fun h => by rw [(d2 y).2 h] at y1; cases y1
    have hall := alls [x, y] _ c2 (fun j => by
      rw [bit_or, bit_or, bit_shl1, bit_shl1]
      simp only [Bool.or_eq_true, decide_eq_true_eq, d2 j, List.mem_append, List.mem_cons, List.not_mem_nil, or_false]
      constructor
      · rintro (h | h | h)
        · exact .inl h
        · exact .inr (.inl h.symm)
        · exact .inr (.inr h.symm)
      · rintro (h | h | h)
        · exact .inl h
        · exact .inr (.inl h.symm)
        · exact .inr (.inr h.symm))
    have px : ∀ j, bit (maskAt Ps x) j = true → j ∈ pi := fun j hj => (d2 j).1 (within_bit x2 hj)
    have py : ∀ j, bit (maskAt Ps y) j = true → j ∈ pi := fun j hj => (d2 j).1 (within_bit y3 hj)
    have mk : ∀ u v, (u = x ∧ v = y ∨ u = y ∧ v = x) → PlanOk opsA ⟨Ps, pi, some (u, v)⟩ := fun u v huv => by
      have pu : ∀ j, bit (maskAt Ps u) j = true → j ∈ pi := by rcases huv with ⟨rfl, rfl⟩ | ⟨rfl, rfl⟩ <;> assumption
      have pv : ∀ j, bit (maskAt Ps v) j = true → j ∈ pi := by rcases huv with ⟨rfl, rfl⟩ | ⟨rfl, rfl⟩ <;> assumption
      have hu : u ∉ pi := by rcases huv with ⟨rfl, rfl⟩ | ⟨rfl, rfl⟩ <;> assumption
      have hv : v ∉ pi := by rcases huv with ⟨rfl, rfl⟩ | ⟨rfl, rfl⟩ <;> assumption
      have huv' : u ≠ v := by rcases huv with ⟨rfl, rfl⟩ | ⟨rfl, rfl⟩ <;> first | assumption | exact Ne.symm hxy
      refine ⟨edge, on, ?_, fun i hi => ?_, fun i hi => ?_, ?_, dst, look⟩
      · show (pi ++ [u, v]).Nodup
        rw [List.nodup_append]
        refine ⟨d4, by simp [huv'], fun a ha b hb => ?_⟩
        simp at hb
        rcases hb with rfl | rfl
        · exact fun e => hu (e ▸ ha)
        · exact fun e => hv (e ▸ ha)
      · have hi : i ∈ pi ++ [u, v] := hi
        simp at hi
        rcases hi with hi | rfl | rfl
        · exact d3 i hi
        · rcases huv with ⟨rfl, rfl⟩ | ⟨rfl, rfl⟩ <;> assumption
        · rcases huv with ⟨rfl, rfl⟩ | ⟨rfl, rfl⟩ <;> assumption
      · show i ∈ pi ++ [u, v]
        have := hall i hi
        simp at this ⊢
        rcases huv with ⟨rfl, rfl⟩ | ⟨rfl, rfl⟩
        · exact this
        · rcases this with h | h | h
          · exact .inl h
          · exact .inr (.inr h)
          · exact .inr (.inl h)
      · refine order_ok (l := pi) [u, v] (fun p i post e j hj => (d5 p i post e).1 j hj) fun p i post e j hj => ?_
        match p, e with
        | [], e =>
          simp at e
          obtain ⟨rfl, _⟩ := e
          simpa using pu j hj
        | [_], e =>
          simp at e
          obtain ⟨rfl, rfl, _⟩ := e
          simp [pv j hj]
        | _ :: _ :: _, e => simp at e
    refine ⟨mk x y (.inl ⟨rfl, rfl⟩), fun pre i post e o ho ha j hj => ?_, fun u v e => ?_⟩
    · rcases List.mem_append.1 hj with hj | hj
      · exact effs1 pre i post e o ho ha j hj
      · have hi : i ∈ pi := by
          have e : pi = pre ++ i :: post := e
          rw [e]; simp
        have hb := d2e i hi o ho ha
        have hj : j ∈ [x, y] := hj
        simp at hj
        rcases hj with rfl | rfl
        · exact within_bit x3 hb
        · exact within_bit y4 hb
    · cases e
      exact mk y x (.inr ⟨rfl, rfl⟩)
theorem planK_spec {bs : Bool} {opsA : Array Oper} {p : Plan} (h : planK bs opsA.toList = some p) : PlanOk opsA p ∧ EffOk bs opsA p := by
  unfold planK at h
  obtain ⟨Ps, h1, hlen, hm⟩ := closC_spec (R := Option Plan) opsA.toList opsA.toList [] [] (fun Ps => remC bs opsA.toList Ps 0 fun l => loopC (Nat.succ opsA.toList.length) l 0 [] fun pi => cond (planOk bs opsA.toList Ps pi none) (some ⟨Ps, pi, none⟩)
    (lastC pi fun pi two => cond (planOk bs opsA.toList Ps pi two) (some ⟨Ps, pi, two⟩) none)) rfl rfl (fun i o hi => by simp at hi)
  rw [h1] at h
  revert h
  refine remC_any (Pr := fun r => r = some p → PlanOk opsA p ∧ EffOk bs opsA p) _ _ _ _ fun l => loopC_any (Pr := fun r => r = some p → PlanOk opsA p ∧ EffOk bs opsA p) _ _ _ _ _ fun pi => ?_
  have one : ∀ (pi : List Nat) (two : Option (Nat × Nat)) (r : Option Plan), (r = some p → PlanOk opsA p ∧ EffOk bs opsA p) → cond (planOk bs opsA.toList Ps pi two) (some ⟨Ps, pi, two⟩) r = some p → PlanOk opsA p ∧ EffOk bs opsA p := fun pi two r hr hp => by
    cases hok : planOk bs opsA.toList Ps pi two with
    | false => rw [hok] at hp; exact hr hp
    | true =>
      rw [hok] at hp
      simp only [cond_true, Option.some.injEq] at hp
      subst hp
      exact planOk_spec hlen hm hok
  exact one pi none _ (lastC_any (Pr := fun r => r = some p → PlanOk opsA p ∧ EffOk bs opsA p) _ _ fun l t => one l t none fun e => by cases e)
end Go.Refl
end
section
namespace Go.Refl
open Go.RowKit
section
variable {P : Program} {E : Env} {C : Ctx} (hE : EnvOk P E C)
include hE
def OperAt (P : Program) (C : Ctx) (rd : Option Nat) (opsA : Array Oper) (o : Oper) (a : AF) (h : AH) (v : AV) (df : List ADef) (h' : AH) : Prop :=
  ∀ (σ : Sig) (w : World) (act : Act) (K : Act → World → Prop) (Q : Exit → Act → World → Prop), HRel C σ h w → act.tmps.size = a.n → (∀ t ∈ o.looksAt opsA, VR σ (tget a.tm t) (act.tmps.getD t undef)) →
    DsR σ a.df act.defers → RdOk σ rd →
    (∀ (σ' : Sig) (act' : Act) (z : Value) (w' : World), σ.le σ' → HRel C σ' h' w' → act'.tmps = act.tmps → DsR σ' df act'.defers → VR σ' v z → K (act'.put o.dst z) w') → o.wpIn (fenceOf σ rd) 0 P act w K Q
theorem operK_at (hH : HookOk P E C) {rec : Rec} (hrec : RecOk P C rec) {rd : Option Nat} {opsA : Array Oper} {o : Oper} {a : AF} {h : AH} {k : AF → AH → Bool} (hk : operK E rec rd o a h k = true) :
    ∃ v df h', put ⟨a.tm, a.n, df⟩ o.dst v (fun a => k a h') = true ∧ OperAt P C rd opsA o a h v df h' := by
  obtain ⟨tm2, n1, n2⟩ := narrow (o.looksAt opsA) a.tm a.n
  have hag := looks_operands hE n1
  obtain ⟨dst, op, type, pos, after, guard⟩ := o
  unfold operK at hk
  split at hk
  ·
    rename_i f args tys heq
    simp only at heq
    subst heq
    have hag1 : Agree [f] a.tm tm2 := hag.sub (by simp [Op.operands, Call.operands])
    have hag2 : Agree args.toList a.tm tm2 := hag.sub (by intro x hx; simp [Op.operands, Call.operands]; exact .inr (by simpa using hx))
    rw [ev_congr hag1, evL_congr hag2] at hk
    obtain ⟨fv, h1, hf⟩ := ev_spec (P := P) (C := C) hE hk
    obtain ⟨vs, h2, hl, hv⟩ := evL_spec (P := P) (C := C) hE h1
    obtain ⟨v, h', h3, happ⟩ := applyK_spec hE hH hrec h2
    refine ⟨v, a.df, h', h3, fun σ w act K Q kr hsz hlk hds hrd hK => ⟨about_any, ?_⟩⟩
    have htm := n2 σ act.tmps hsz hlk
    have hopr : OpR σ tm2 act.eval := ⟨fun t => htm.2 t, fun _ => rfl, fun _ => rfl, fun _ => rfl⟩
    have ha : ARel σ vs (args.toList.map act.eval) := ⟨by simp [hl], fun i v x e1 e2 => by
      rw [List.getElem?_map] at e2
      cases ho : args.toList[i]? with
      | none => rw [ho] at e2; cases e2
      | some o => rw [ho] at e2; cases e2; exact hv σ h w act.eval kr hopr i v o e1 ho⟩
    obtain ⟨d, hd, hcase⟩ := happ σ rd w (act.eval f) (args.toList.map act.eval) kr (hf σ h w act.eval kr hopr) ha
    rw [Oper.semAt_eq _ _ _ (fun c e => by cases e)]
    have hargs : (args.map act.eval) = (args.toList.map act.eval).toArray := by apply Array.ext'; simp
    have hexec : ∀ r w', (invoke d.target d.args).run P w = .ok r w' → (execOp act.eval ⟨dst, .call ⟨.value f, args, tys⟩, type, pos, after, guard⟩).run P w = .ok r w' := fun r w' hr => by
      simp only [execOp, resolve, hargs, Sem.run_bind, hd, Result.andThen_ok, hr]
    have next : ∀ e w'', CP C σ v h' e w'' → (match e with
        | .returned u => K (act.put dst u) w''
        | .panicked chain => Q (.panic chain) act w''
        | .outgrown => LetsOut Q) := fun e w'' hc => by
      obtain ⟨x, σ', rfl, hle, k', hx⟩ := hc
      exact hK σ' act x w'' hle k' rfl (hds.mono hle) hx
    rcases hcase with ⟨g, xs, hi, hcall⟩ | ⟨l, g, tmps, assign, body, hi, hround⟩
    · rw [hexec _ _ hi]
      exact ⟨fence_depth σ rd, hcall.mono fun e w'' hc => by have := next e w'' hc; cases e <;> exact this⟩
    · rw [hexec _ _ hi]
      exact ⟨fence_depth σ rd, hround.mono fun e w'' hc => by have := next e w'' hc; cases e <;> exact this⟩
  ·
    rename_i f args tys heq
    simp only at heq
    subst heq
    cases rd with
    | some l => exact absurd hk (by simp)
    | none =>
      simp only at hk
      have hag1 : Agree [f] a.tm tm2 := hag.sub (by simp [Op.operands, Call.operands])
      have hag2 : Agree args.toList a.tm tm2 := hag.sub (by intro x hx; simp [Op.operands, Call.operands]; exact .inr (by simpa using hx))
      rw [ev_congr hag1, evL_congr hag2] at hk
      obtain ⟨fv, h1, hf⟩ := ev_spec (P := P) (C := C) hE hk
      obtain ⟨vs, h2, hl, hv⟩ := evL_spec (P := P) (C := C) hE h1
      split at h2
      · rename_i f' first captured
        refine ⟨.tup [], _, h, h2, fun σ w act K Q kr hsz hlk hds hrd hK => ⟨about_any, ?_⟩⟩
        have htm := n2 σ act.tmps hsz hlk
        have hopr : OpR σ tm2 act.eval := ⟨fun t => htm.2 t, fun _ => rfl, fun _ => rfl, fun _ => rfl⟩
        have ha : ARel σ vs (args.toList.map act.eval) := ⟨by simp [hl], fun i v x e1 e2 => by
          rw [List.getElem?_map] at e2
          cases ho : args.toList[i]? with
          | none => rw [ho] at e2; cases e2
          | some o => rw [ho] at e2; cases e2; exact hv σ h w act.eval kr hopr i v o e1 ho⟩
        have hargs : (args.map act.eval) = (args.toList.map act.eval).toArray := by apply Array.ext'; simp
        have := (hf σ h w act.eval kr hopr).conc (by simp)
        simp only [conc] at this
        cases hfi : concL σ first with
        | none => rw [hfi] at this; cases this
        | some fi =>
          cases hca : concL σ captured with
          | none => rw [hfi, hca] at this; cases this
          | some ca =>
            rw [hfi, hca] at this
            simp only [Option.bind_some, Option.map_some, Option.some.injEq] at this
            have hexec : (Oper.semAt (fenceOf σ none).round act.eval ⟨dst, .defer ⟨.value f, args, tys⟩, type, pos, after, guard⟩).run P w =
                .ok (.defer { target := .fn (.func f') ca.toArray, args := (fi ++ args.toList.map act.eval).toArray }) w := by
              show (execOp act.eval ⟨dst, .defer ⟨.value f, args, tys⟩, type, pos, after, guard⟩).run P w = _
              simp only [execOp, resolve, hargs, ← this, Deferred.ofValue, Sem.run_bind, Sem.run_pure, Result.andThen_ok]
              rw [List.append_toArray]
            rw [hexec]
            exact hK σ { act with defers := { target := .fn (.func f') ca.toArray, args := (fi ++ args.toList.map act.eval).toArray } :: act.defers } undef w (Sig.le.refl σ) kr rfl
              ⟨.call ((ARel.of_conc hfi).append ha) hca, hds⟩ (undef_tup σ)
      · cases h2
  ·
    rename_i hnc hnd
    rw [opK_congr hag] at hk
    obtain ⟨v, h', h1, hop⟩ := opK_spec hE hk
    refine ⟨v, a.df, h', h1, fun σ w act K Q kr hsz hlk hds hrd hK => ⟨about_any, ?_⟩⟩
    have htm := n2 σ act.tmps hsz hlk
    have hopr : OpR σ tm2 act.eval := ⟨fun t => htm.2 t, fun _ => rfl, fun _ => rfl, fun _ => rfl⟩
    obtain ⟨σ', n, z, w', hle, hr, k', hn, hz⟩ := hop σ w act.eval ⟨dst, op, type, pos, after, guard⟩ rfl kr hopr
    have hnd' : ∀ c, op ≠ .defer c := fun c e => by
      subst e
      exact absurd (show false = true from hk) (by decide)
    rw [Oper.semAt_eq _ _ _ hnd', hr]
    rcases hn with rfl | ⟨rfl, rfl⟩
    · exact hK σ' act z w' hle k' rfl (hds.mono hle) hz
    · exact hK σ' act undef w' hle k' rfl (hds.mono hle) hz
end
inductive EK where
  | skip
  | move
  | read
  | row (b : Nat) (cs : List AV) (e z : Nat)
structure En where
  i : Nat
  o : Oper
  tm : Tr AV
  v : AV
  kd : EK
noncomputable section
def againE (E : Env) (e : En) (h : AH) : Bool :=
  match e.kd with
  | .skip => true
  | .move => true
  | .read => opK E e.o.op e.tm h fun v h' => cond (Nat.beq h'.nx h.nx) (eqA v e.v) false
  | .row b cs t z => match h.m.get b with
    | some (.cells cs' t' z' false) => both (eqAL eqA1 cs' cs) (both (Nat.beq t' t) (Nat.beq z' z))
    | _ => false
def againL (E : Env) (es : List En) (h : AH) : Bool := lrec true (fun e _ ih => cond (againE E e h) ih false) es
def enterK (bs : Bool) (E : Env) (ops : List Oper) (i : Nat) (o : Oper) (a : AF) (h : AH) (g : En → AF → AH → Bool) : Bool :=
  wantK ops o a.tm fun w => cond w
    (match cls bs o.op with
     | 0 => opK E o.op a.tm h fun v _ => put a o.dst v fun a' => g ⟨i, o, a.tm, v, .move⟩ a' h
     | 1 => opK E o.op a.tm h fun v _ => put a o.dst v fun a' => g ⟨i, o, a.tm, v, .read⟩ a' h
     | 2 => opK E o.op a.tm h fun v h' => match h'.m.get h.nx with
       | some (.cells cs t z false) => cond (Nat.beq h'.nx (Nat.succ h.nx)) (put a o.dst v fun a' => g ⟨i, o, a.tm, v, .row h.nx cs t z⟩ a' h') false
       | _ => false
     | _ => false)
    (put a o.dst (.tup []) fun a' => g ⟨i, o, a.tm, .tup [], .skip⟩ a' h)
def closeL (P : Nat) (es : List En) : List En := lrec [] (fun e _ ih => cond (bit P e.i) ih (e :: ih)) es
def twoK (E : Env) (ops : List Oper) (x y : Nat) (es : List En) (a : AF) (h : AH) (k : AF → AH → Bool) : Bool :=
  match nth ops x, nth ops y with
  | some { dst := none, op := .store t1 (.tmp p1) (.tmp v1), guard := none, .. }, some { dst := none, op := .store t2 (.tmp p2) (.tmp v2), guard := none, .. } =>
    match tget a.tm p1, tget a.tm p2 with
    | .ptr b1 o1, .ptr b2 o2 => cond (Nat.beq b1 b2) false (cond (againL E es h)
        (storeK E t1 b1 o1 (tget a.tm v1) h fun h1 => cond (againL E es h1) (storeK E t2 b2 o2 (tget a.tm v2) h1 fun h2 => cond (againL E es h2)
          (storeK E t2 b2 o2 (tget a.tm v2) h fun h3 => cond (againL E es h3) (storeK E t1 b1 o1 (tget a.tm v1) h3 fun h4 => cond (againL E es h4) (k a h2) false) false) false) false) false)
    | _, _ => false
  | _, _ => false
def drawK (bs : Bool) (E : Env) (rec : Rec) (rd : Option Nat) (ops : List Oper) (Ps : List Nat) (two : Option (Nat × Nat)) (pi : List Nat) : List En → AF → AH → (AF → AH → Bool) → Bool :=
  lrec (fun es a h k => match two with
      | none => cond (againL E es h) (k a h) false
      | some (x, y) => twoK E ops x y es a h k)
    (fun i _ ih es a h k => match nth ops i with
      | none => false
      | some o => cond (acts bs o)
          (cond (againL E es h) (wantK ops o a.tm fun w => cond w (operK E rec rd o a h fun a h => ih (closeL (maskAt Ps i) es) a h k) (put a o.dst (.tup []) fun a => ih (closeL (maskAt Ps i) es) a h k)) false)
          (enterK bs E ops i o a h fun e a h => ih (e :: es) a h k)) pi
def drawn (E : Env) : Drawn := fun rec rd ops a h k => cond
  (match planK false ops with
  | some p => drawK false E rec rd ops p.Ps p.two p.pi [] a h k
  | none => false) true
  (match planK true ops with
  | some p => drawK true E rec rd ops p.Ps p.two p.pi [] a h k
  | none => false)
end
end Go.Refl
end
section
namespace Go.Refl
open Go.RowKit
theorem put_raw {a : AF} {dst : Option Tmp} {v : AV} {k : AF → Bool} (hk : put a dst v k = true) : ∃ a', k a' = true ∧ a'.n = a.n ∧ a'.df = a.df ∧
    (∀ t, tget a'.tm t = if dst = some t then v else tget a.tm t) ∧ ∀ d, dst = some d → d < a.n := by
  unfold put at hk
  split at hk
  · exact ⟨a, hk, rfl, rfl, fun t => by simp, fun d e => by cases e⟩
  · rename_i d
    obtain ⟨h1, h2⟩ := cond_f hk
    have h1 := bles_eq h1
    obtain ⟨tm, h3, h4⟩ := Tr.set_spec _ _ _ _ h2
    refine ⟨_, h3, rfl, rfl, fun t => ?_, fun d' e => by cases e; exact h1⟩
    unfold tget
    rw [h4 t]
    by_cases e : t = d
    · subst e; simp
    · have : ¬ (some d = some t) := fun h => e (by cases h; rfl)
      rw [if_neg e, if_neg this]
theorem put_get {act : Act} {dst : Option Tmp} {z : Value} {t : Nat} (h : dst = some t) (ht : t < act.tmps.size) : (act.put dst z).tmps.getD t undef = z := by
  subst h
  show (act.tmps.setIfInBounds t z).getD t undef = z
  simp [ht]
theorem put_get_ne {act : Act} {dst : Option Tmp} {z : Value} {t : Nat} (h : dst ≠ some t) : (act.put dst z).tmps.getD t undef = act.tmps.getD t undef := by
  cases dst with
  | none => rfl
  | some d =>
    have : d ≠ t := fun e => h (by rw [e])
    show (act.tmps.setIfInBounds d z).getD t undef = _
    simp [Array.getElem?_setIfInBounds, this]
theorem DsR.sub {σ σ' : Sig} (h : σ.sub σ') : ∀ {ds : List ADef} {es : List Deferred}, DsR σ ds es → DsR σ' ds es
  | [], [], _ => trivial
  | d :: ds, e :: es, ⟨h1, h2⟩ => ⟨by
      cases h1 with
      | mark hb => exact .mark (h _ _ hb)
      | call a b => exact .call ⟨a.1, fun i v x e1 e2 => (a.2 i v x e1 e2).mono h⟩ (concL_mono h _ _ b), DsR.sub h h2⟩
  | [], _ :: _, h => h.elim
  | _ :: _, [], h => h.elim
theorem put_size {act : Act} {dst : Option Tmp} {z : Value} : (act.put dst z).tmps.size = act.tmps.size := by
  cases dst with
  | none => rfl
  | some d => show (act.tmps.setIfInBounds d z).size = _; simp
theorem put_df {act : Act} {dst : Option Tmp} {z : Value} : (act.put dst z).defers = act.defers := by cases dst <;> rfl
section
variable {P : Program} {E : Env} {C : Ctx}
def EnOk (C : Ctx) (P : Program) (E : Env) (opsA : Array Oper) (e : En) : Prop :=
  match e.kd with
  | .skip => wantK opsA.toList e.o e.tm (· == false) = true ∧ e.v = .tup []
  | .move => wantK opsA.toList e.o e.tm (· == true) = true ∧ ∀ h2 (g' : AV → AH → Bool), g' e.v h2 = true → opK E e.o.op e.tm h2 g' = true
  | .read => wantK opsA.toList e.o e.tm (· == true) = true ∧ (isPure e.o.op = true ∨ isRead e.o.op = true)
  | .row b cs t _ => wantK opsA.toList e.o e.tm (· == true) = true ∧
      ∀ (σ : Sig) (hp : AH) (w : World) (act : Act), HRel C σ hp w → (∀ t ∈ e.o.looksAt opsA, VR σ (tget e.tm t) (act.tmps.getD t undef)) → ∃ vals zz, concL σ cs = some vals ∧
        (execOp act.eval e.o).run P w = .ok (.value zz) (w.alloc (.cells vals.toArray t)) ∧ ∀ σ' : Sig, σ' b = some ⟨w.heap.size, 0, 0⟩ → conc σ' e.v = some zz
def En.rowOf (e : En) : Option Nat := match e.kd with | .row b _ _ _ => some b | _ => none
structure EsOk (bs : Bool) (C : Ctx) (P : Program) (E : Env) (opsA : Array Oper) (Ps : List Nat) (pre : List Nat) (es : List En) (a : AF) (h : AH) : Prop where
  at_ : ∀ e ∈ es, opsA[e.i]? = some e.o ∧ e.i ∈ pre ∧ cls bs e.o.op ≠ 3
  dst : ∀ e ∈ es, ∀ d, e.o.dst = some d → d < a.n ∧ tget a.tm d = e.v
  ok : ∀ e ∈ es, EnOk C P E opsA e
  pair : ∀ k ∈ es, ∀ j ∈ es, bit (maskAt Ps k.i) j.i = true → ∀ t, j.o.dst = some t → t ∈ k.o.looksAt opsA → tget k.tm t = j.v
  uniq : ∀ k ∈ es, ∀ j ∈ es, k.i = j.i → k = j
structure St (C : Ctx) (opsA : Array Oper) (Ps : List Nat) (pre : List Nat) (es : List En) (a : AF) (h : AH) (σ : Sig) (w : World) (act : Act) (D : List En) (listed : Array Bool) : Prop where
  hr : HRel C σ h w
  size : act.tmps.size = a.n
  tm : ∀ t, (∀ e ∈ D, e.o.dst ≠ some t) → VR σ (tget a.tm t) (act.tmps.getD t undef)
  df : DsR σ a.df act.defers
  looks : ∀ e ∈ D, ∀ t ∈ e.o.looksAt opsA, (∃ j ∈ D, bit (maskAt Ps e.i) j.i = true ∧ j.o.dst = some t) ∨ VR σ (tget e.tm t) (act.tmps.getD t undef)
  rows : ∀ e ∈ D, ∀ b, e.rowOf = some b → σ b = none ∧ b < σ.nx
  sub : ∀ e ∈ D, e ∈ es
  apart : ∀ k ∈ D, ∀ j ∈ D, ∀ b, k.rowOf = some b → j.rowOf = some b → k.i = j.i
  lsize : listed.size = opsA.size
  told : ∀ i, i < opsA.size → (listed.getD i false = true ↔ i ∈ pre ∧ ∀ e ∈ D, e.i ≠ i)
  closed : ∀ i, listed.getD i false = true → ∀ j, bit (maskAt Ps i) j = true → listed.getD j false = true
theorem listed_true {listed : Array Bool} {i : Nat} (hi : i < listed.size) (d : Bool) : listed.getD i d = listed.getD i false := by
  simp [hi]
theorem ready_mask {opsA : Array Oper} {p : Plan} (hp : PlanOk opsA p) {listed : Array Bool} (hc : ∀ i, listed.getD i false = true → ∀ j, bit (maskAt p.Ps i) j = true → listed.getD j false = true)
    {i : Nat} {o : Oper} (ho : opsA[i]? = some o) (hr : i ∈ Region.ready .any opsA listed) : ∀ j, bit (maskAt p.Ps i) j = true → listed.getD j false = true := fun j hj => by
  obtain ⟨_, o', ho', hall⟩ := mem_ready.1 hr
  rw [ho] at ho'; cases ho'
  obtain ⟨e, he, hb, hor⟩ := hp.edge i o ho j hj
  have hl := hall e he (by rw [bindsA_eq]; exact hb)
  rcases hor with rfl | hbit
  · exact hl
  · exact hc _ hl j hbit
theorem getD_set (listed : Array Bool) (i j : Nat) (hi : i < listed.size) : (listed.setIfInBounds i true).getD j false = (if i = j then true else listed.getD j false) := by
  by_cases e : i = j
  · subst e; simp [hi]
  · simp [Array.getElem?_setIfInBounds_ne e, e]
open Classical in
theorem read_any {op : Op} {tm : Tr AV} (hp : isPure op = true ∨ isRead op = true) {h : AH} {v : AV} (hk : opK E op tm h (fun u h' => cond (Nat.beq h'.nx h.nx) (eqA u v) false) = true) :
    opK E op tm h (fun u h' => eqA u v && decide (h' = h)) = true := by
  rcases hp with hp | hp
  · rw [pure_const hp] at hk ⊢
    have e1 : (fun (u : AV) (_ : AH) => cond (Nat.beq h.nx h.nx) (eqA u v) false) = fun u _ => eqA u v := by
      funext u _; simp
    have e2 : (fun (u : AV) (_ : AH) => eqA u v && decide (h = h)) = fun u _ => eqA u v := by
      funext u _; simp
    rw [e1] at hk
    rw [e2]; exact hk
  · exact read_same hp hk
theorem againL_mem : ∀ {es : List En} {h : AH}, againL E es h = true → ∀ e ∈ es, againE E e h = true
  | [], h, _, e, he => by simp at he
  | x :: es, h, hk, e, he => by
    obtain ⟨h1, h2⟩ := cond_f (show cond (againE E x h) (againL E es h) false = true from hk)
    rcases List.mem_cons.1 he with rfl | he
    · exact h1
    · exact againL_mem h2 e he
variable (hE : EnvOk P E C)
include hE
theorem perform {bs : Bool} {opsA : Array Oper} {p : Plan} {pre : List Nat} {es : List En} {a : AF} {h : AH} {σ : Sig} {w : World} {act : Act} {D : List En} {listed : Array Bool}
    (hes : EsOk bs C P E opsA p.Ps pre es a h) (st : St C opsA p.Ps pre es a h σ w act D listed) {e : En} (heD : e ∈ D) (hag : againE E e h = true)
    (hlk : ∀ t ∈ e.o.looksAt opsA, VR σ (tget e.tm t) (act.tmps.getD t undef)) {rd : Option Nat} {K : Act → World → Prop} {Q : Exit → Act → World → Prop}
    {σ0 : Sig} (hbase : σ0.le σ) (hrow0 : ∀ b, e.rowOf = some b → σ0.nx ≤ b)
    (hK : ∀ (σ' : Sig) (z : Value) (w' : World), σ.sub σ' → σ0.le σ' → HRel C σ' h w' → VR σ' e.v z → (∀ b, σ b = none → b < σ.nx → e.rowOf ≠ some b → σ' b = none) → K (act.put e.o.dst z) w') :
    wpOpIn (fenceOf σ0 rd) 0 P opsA Q e.i K act w := by
  classical
  have he := st.sub e heD
  obtain ⟨hat, hpre, hcls⟩ := hes.at_ e he
  have hok := hes.ok e he
  have hnd : ∀ c, e.o.op ≠ .defer c := fun c ec => hcls (by rw [ec]; cases bs <;> rfl)
  have go : ∀ (z : Value) (r : Next) (w' : World) (σ' : Sig), Region.wanted e.o (yielded opsA act.tmps) = true → σ.sub σ' → σ0.le σ' → (execOp act.eval e.o).run P w = .ok r w' → HRel C σ' h w' → (r = .value z ∨ r = .skip ∧ z = undef) → VR σ' e.v z →
      (∀ b, σ b = none → b < σ.nx → e.rowOf ≠ some b → σ' b = none) → wpOpIn (fenceOf σ0 rd) 0 P opsA Q e.i K act w := fun z r w' σ' hw hle hle0 hx kr hr hv hb => by
    unfold wpOpIn
    rw [hat]
    simp only [hw, if_true]
    refine ⟨about_any, ?_⟩
    rw [Oper.semAt_eq _ _ _ hnd, hx]
    rcases hr with rfl | ⟨rfl, rfl⟩
    · exact hK σ' z w' hle hle0 kr hv hb
    · exact hK σ' undef w' hle hle0 kr hv hb
  unfold EnOk at hok
  unfold againE at hag
  cases hkd : e.kd with
  | skip =>
    rw [hkd] at hok
    obtain ⟨h1, h2⟩ := hok
    have hw := want_at hE h1 hlk
    unfold wpOpIn
    rw [hat]
    simp only [hw, Bool.false_eq_true, if_false]
    exact ⟨fun f _ => fence_fn σ0 rd f, hK σ undef w (Sig.sub.refl σ) hbase st.hr (by rw [h2]; exact undef_tup σ) fun b hb _ _ => hb⟩
  | move =>
    rw [hkd] at hok
    obtain ⟨h1, h2⟩ := hok
    have hw := want_at hE h1 hlk
    obtain ⟨v, h', h3, σ', r, z, w', q1, q2, q3, q4, q5⟩ := op_at (P := P) (C := C) hE (o := e.o) (h2 h (fun u h' => decide (u = e.v ∧ h' = h)) (by simp)) st.hr hlk
    simp only [decide_eq_true_eq] at h3
    obtain ⟨rfl, rfl⟩ := h3
    exact go z r w' σ' hw q1.get (hbase.trans q1) q2 q3 q4 q5 fun b hb hlt _ => q1.not b hlt hb
  | read =>
    rw [hkd] at hok hag
    obtain ⟨h1, h2⟩ := hok
    have hw := want_at hE h1 hlk
    obtain ⟨v, h', h3, σ', r, z, w', q1, q2, q3, q4, q5⟩ := op_at (P := P) (C := C) hE (o := e.o) (read_any h2 hag) st.hr hlk
    simp only [Bool.and_eq_true, decide_eq_true_eq] at h3
    obtain ⟨h3, rfl⟩ := h3
    have := eqA_eq h3
    subst this
    exact go z r w' σ' hw q1.get (hbase.trans q1) q2 q3 q4 q5 fun b hb hlt _ => q1.not b hlt hb
  | row b cs t zz =>
    rw [hkd] at hok hag
    obtain ⟨h1, h3⟩ := hok
    have hw := want_at hE h1 hlk
    have hrow : e.rowOf = some b := by unfold En.rowOf; rw [hkd]
    obtain ⟨vals, zz, q1, q2, q3⟩ := h3 σ h w act st.hr hlk
    obtain ⟨hb1, hb2⟩ := st.rows e heD b hrow
    simp only at hag
    split at hag
    · rename_i cs' t' z' hget
      simp only [both_eq] at hag
      obtain ⟨a1, a2, a3⟩ := hag
      have a1 := eqAL_eq (fun _ _ => eqA1_eq) a1
      have a2 := beq_eq a2
      subst a1 a2
      have hle := Sig.sub_put (b := b) ⟨w.heap.size, 0, 0⟩ hb1
      have hnx : σ.nx = h.nx := st.hr.nx
      have hv2 := concL_mono hle _ _ q1
      have k2 := st.hr.new_at hget (by omega) hb1 0 0 (.cells vals.toArray t') ⟨vals.toArray, (0, 0), alloc_get _ _, by simp [concL_length q1], fun i v hv => .inr (by
        obtain ⟨z, hz, hc⟩ := concL_get hv2 i v hv
        exact ⟨z, by simpa using hz, hc⟩), fun _ => .inl rfl, fun _ => ⟨rfl, by simp [concL_length q1]⟩⟩
      have hb0 := hrow0 b hrow
      have hle2 : σ0.le (σ.put b ⟨w.heap.size, 0, 0⟩) := ⟨fun c x hc => hle c x (hbase.get c x hc), Nat.le_trans hbase.nx (Nat.le_max_left _ _), fun c hc hn => by
        rw [Sig.put_other _ (by omega)]; exact hbase.not c hc hn⟩
      refine go _ _ _ _ hw hle hle2 q2 k2 (.inl rfl) (.inr (q3 _ (Sig.put_same _ _ _))) fun c hc hlt hne => ?_
      rw [Sig.put_other _ (fun e => hne (by rw [hrow, e]))]; exact hc
    · cases hag
end
end Go.Refl
end
section
namespace Go.Refl
open Go.RowKit
theorem first_not {α : Type} {Pr : α → Prop} [DecidablePred Pr] : ∀ (l : List α), (∃ i ∈ l, ¬ Pr i) → ∃ p1 i p2, l = p1 ++ i :: p2 ∧ (∀ j ∈ p1, Pr j) ∧ ¬ Pr i
  | [], ⟨i, hi, _⟩ => by simp at hi
  | x :: l, ⟨i, hi, hn⟩ => by
    by_cases hx : Pr x
    · have : i ∈ l := by
        rcases List.mem_cons.1 hi with rfl | h
        · exact absurd hx hn
        · exact h
      obtain ⟨p1, j, p2, e, h1, h2⟩ := first_not l ⟨i, this, hn⟩
      exact ⟨x :: p1, j, p2, by rw [e]; rfl, fun y hy => by
        rcases List.mem_cons.1 hy with rfl | hy
        · exact hx
        · exact h1 y hy, h2⟩
    · exact ⟨[], x, l, rfl, by simp, hx⟩
theorem Sig.le_bump (σ : Sig) : σ.le σ.bump := ⟨fun _ _ h => h, Nat.le_succ _, fun _ _ h => h⟩
theorem closeL_mem {P : Nat} : ∀ {es : List En} {e : En}, e ∈ closeL P es ↔ e ∈ es ∧ bit P e.i = false
  | [], e => by
    have : closeL P [] = [] := rfl
    simp [this]
  | x :: es, e => by
    have ih := closeL_mem (P := P) (es := es) (e := e)
    have h : closeL P (x :: es) = cond (bit P x.i) (closeL P es) (x :: closeL P es) := rfl
    rw [h]
    cases hb : bit P x.i with
    | true =>
      simp only [cond_true, ih, List.mem_cons]
      constructor
      · rintro ⟨h1, h2⟩; exact ⟨.inr h1, h2⟩
      · rintro ⟨rfl | h1, h2⟩
        · rw [hb] at h2; cases h2
        · exact ⟨h1, h2⟩
    | false =>
      simp only [cond_false, ih, List.mem_cons]
      constructor
      · rintro (rfl | ⟨h1, h2⟩)
        · exact ⟨.inl rfl, hb⟩
        · exact ⟨.inr h1, h2⟩
      · rintro ⟨rfl | h1, h2⟩
        · exact .inl rfl
        · exact .inr ⟨h1, h2⟩
section
variable {P : Program} {E : Env} {C : Ctx} {opsA : Array Oper} {p : Plan} (hp : PlanOk opsA p)
include hp
theorem before {pre rest : List Nat} (hpi : p.full = pre ++ rest) {i : Nat} (hi : i ∈ pre) : ∀ j, bit (maskAt p.Ps i) j = true → j ∈ pre := fun j hj => by
  obtain ⟨p1, p2, rfl⟩ := List.append_of_mem hi
  have := hp.pred p1 i (p2 ++ rest) (by rw [hpi]; simp) j hj
  simp [this]
theorem self_not {i : Nat} (hi : i ∈ p.full) : bit (maskAt p.Ps i) i = false := by
  cases h : bit (maskAt p.Ps i) i with
  | false => rfl
  | true =>
    obtain ⟨p1, p2, e⟩ := List.append_of_mem hi
    have h1 := hp.pred p1 i p2 e i h
    have h2 := hp.nodup
    rw [e, List.nodup_append] at h2
    exact absurd rfl (h2.2.2 i h1 i (by simp))
theorem ready_ne {listed : Array Bool} (hsz : listed.size = opsA.size) (h : ∃ i, i < opsA.size ∧ listed.getD i false = false) : Region.ready .any opsA listed ≠ [] := by
  obtain ⟨i, hi, hl⟩ := h
  obtain ⟨p1, j, p2, e, h1, h2⟩ := first_not (Pr := fun j => listed.getD j false = true) p.full ⟨i, hp.all i hi, by rw [hl]; simp⟩
  have hj : j < opsA.size := hp.lt j (by rw [e]; simp)
  have hmem : j ∈ Region.ready .any opsA listed := by
    rw [mem_ready]
    refine ⟨?_, opsA[j], by simp [hj], fun ed hed hb => ?_⟩
    · rw [listed_true (by omega)]; simpa using h2
    · exact h1 _ (hp.pred p1 j p2 e _ (hp.on j _ (by simp [hj]) ed hed (by rw [← bindsA_eq]; exact hb)))
  intro h0
  rw [h0] at hmem; simp at hmem
theorem ready_nil {pre : List Nat} {es : List En} {a : AF} {h : AH} {σ : Sig} {w : World} {act : Act} {listed : Array Bool} (hpi : p.full = pre) (st : St C opsA p.Ps pre es a h σ w act [] listed) : Region.ready .any opsA listed = [] := by
  cases hr : Region.ready .any opsA listed with
  | nil => rfl
  | cons i l =>
    have hi : i ∈ Region.ready .any opsA listed := by rw [hr]; simp
    obtain ⟨h0, o, ho, _⟩ := mem_ready.1 hi
    have hlt := (Array.getElem?_eq_some_iff.1 ho).1
    rw [listed_true (by rw [st.lsize]; exact hlt)] at h0
    have := (st.told i hlt).2 ⟨by rw [← hpi]; exact hp.all i hlt, by simp⟩
    rw [this] at h0; cases h0
theorem listed_not {pre : List Nat} {es : List En} {a : AF} {h : AH} {σ : Sig} {w : World} {act : Act} {D : List En} {listed : Array Bool} (st : St C opsA p.Ps pre es a h σ w act D listed) {i : Nat} (hi : i ∈ Region.ready .any opsA listed) :
    i < opsA.size ∧ listed.getD i false = false := by
  obtain ⟨h0, o, ho, _⟩ := mem_ready.1 hi
  have hlt := (Array.getElem?_eq_some_iff.1 ho).1
  rw [listed_true (by rw [st.lsize]; exact hlt)] at h0
  exact ⟨hlt, h0⟩
variable (hE : EnvOk P E C)
include hE
theorem stepD {bs : Bool} {pre rest : List Nat} (hpi : p.full = pre ++ rest) {es : List En} {a : AF} {h : AH} {σ : Sig} {w : World} {act : Act} {D : List En} {listed : Array Bool}
    (hes : EsOk bs C P E opsA p.Ps pre es a h) (st : St C opsA p.Ps pre es a h σ w act D listed) {e : En} (heD : e ∈ D) (hr : e.i ∈ Region.ready .any opsA listed) (hag : againE E e h = true)
    {rd : Option Nat} {K : Act → World → Prop} {Q : Exit → Act → World → Prop} {σ0 : Sig} (hbase : σ0.le σ) (hrow0 : ∀ e ∈ D, ∀ b, e.rowOf = some b → σ0.nx ≤ b)
    (hK : ∀ (σ' : Sig) (w' : World) (act' : Act), σ0.le σ' → St C opsA p.Ps pre es a h σ' w' act' (D.filter fun x => decide (x.i ≠ e.i)) (listed.setIfInBounds e.i true) → K act' w') :
    wpOpIn (fenceOf σ0 rd) 0 P opsA Q e.i K act w := by
  have he := st.sub e heD
  obtain ⟨hat, hpre, hcls⟩ := hes.at_ e he
  obtain ⟨hlt, hun⟩ := listed_not hp st hr
  have hmask := ready_mask hp st.closed hat hr
  have hDun : ∀ j ∈ D, listed.getD j.i false = false := fun j hj => by
    have hj' := hes.at_ j (st.sub j hj)
    have hjlt := (Array.getElem?_eq_some_iff.1 hj'.1).1
    cases hb : listed.getD j.i false with
    | false => rfl
    | true => exact absurd rfl (((st.told j.i hjlt).1 hb).2 j hj)
  have hlk : ∀ t ∈ e.o.looksAt opsA, VR σ (tget e.tm t) (act.tmps.getD t undef) := fun t ht => by
    rcases st.looks e heD t ht with ⟨j, hj, hb, _⟩ | h
    · have := hmask j.i hb
      rw [hDun j hj] at this; cases this
    · exact h
  have hmem : ∀ x, x ∈ D.filter (fun x => decide (x.i ≠ e.i)) ↔ x ∈ D ∧ x.i ≠ e.i := fun x => by simp
  refine perform hE hes st heD hag hlk hbase (fun b hb => hrow0 e heD b hb) fun σ' z w' hle hle0 kr hv hrows => ?_
  have hdst : ∀ d, e.o.dst = some d → d < act.tmps.size ∧ tget a.tm d = e.v := fun d hd => by
    rw [st.size]; exact hes.dst e he d hd
  refine hK σ' w' _ hle0 ⟨kr, by rw [put_size]; exact st.size, fun t ht => ?_, by rw [put_df]; exact st.df.sub hle, fun k hk t ht => ?_, fun k hk b hb => ?_, fun k hk => st.sub k ((hmem k).1 hk).1,
    fun k hk j hj => st.apart k ((hmem k).1 hk).1 j ((hmem j).1 hj).1, by simp [st.lsize], fun i hi => ?_, fun i hi j hj => ?_⟩
  · by_cases e1 : e.o.dst = some t
    · rw [put_get e1 (hdst t e1).1, (hdst t e1).2]; exact hv
    · rw [put_get_ne e1]
      refine (st.tm t fun x hx => ?_).mono hle
      by_cases e2 : x.i = e.i
      · rw [hes.uniq x (st.sub x hx) e he e2]; exact e1
      · exact ht x ((hmem x).2 ⟨hx, e2⟩)
  · obtain ⟨hkD, hki⟩ := (hmem k).1 hk
    have hkat := (hes.at_ k (st.sub k hkD)).1
    by_cases e1 : e.o.dst = some t
    · right
      have hb : bit (maskAt p.Ps k.i) e.i = true := by
        rcases hp.look k.i e.i k.o e.o t hkat hat hki e1 ht with hb | hb
        · exact hb
        · have := hmask k.i hb
          rw [hDun k hkD] at this; cases this
      rw [put_get e1 (hdst t e1).1, hes.pair k (st.sub k hkD) e he hb t e1 ht]; exact hv
    · rcases st.looks k hkD t ht with ⟨j, hj, hb, hd⟩ | h
      · left
        refine ⟨j, (hmem j).2 ⟨hj, fun e2 => e1 ?_⟩, hb, hd⟩
        rw [← hes.uniq j (st.sub j hj) e he e2]; exact hd
      · right; rw [put_get_ne e1]; exact h.mono hle
  · obtain ⟨hkD, hki⟩ := (hmem k).1 hk
    obtain ⟨h1, h2⟩ := st.rows k hkD b hb
    refine ⟨hrows b h1 h2 fun he2 => hki (st.apart k hkD e heD b hb he2), ?_⟩
    have e1 := kr.nx; have e2 := st.hr.nx; omega
  · rw [getD_set _ _ _ (by rw [st.lsize]; exact hlt)]
    by_cases e1 : e.i = i
    · subst e1
      simp only [if_true, true_iff]
      exact ⟨hpre, fun x hx => ((hmem x).1 hx).2⟩
    · rw [if_neg e1, st.told i hi]
      refine and_congr_right fun _ => ⟨fun h x hx => h x ((hmem x).1 hx).1, fun h x hx => ?_⟩
      by_cases e2 : x.i = e.i
      · rw [e2]; exact e1
      · exact h x ((hmem x).2 ⟨hx, e2⟩)
  · rw [getD_set _ _ _ (by rw [st.lsize]; exact hlt)] at hi ⊢
    by_cases e2 : e.i = j
    · rw [if_pos e2]
    · rw [if_neg e2]
      by_cases e1 : e.i = i
      · subst e1; exact hmask j hj
      · rw [if_neg e1] at hi; exact st.closed i hi j hj
theorem inner {bs : Bool} {pre rest : List Nat} (hpi : p.full = pre ++ rest) {es : List En} {a : AF} {h : AH} (hes : EsOk bs C P E opsA p.Ps pre es a h) (hag : againL E es h = true) {rd : Option Nat} {Q : Exit → Act → World → Prop} {σ0 : Sig}
    (hx : ∀ (σ : Sig) (w : World) (act : Act) (D : List En) (listed : Array Bool) (fuel : Nat), σ0.le σ → (∀ e ∈ D, ∀ b, e.rowOf = some b → σ0.nx ≤ b) → St C opsA p.Ps pre es a h σ w act D listed → rest.length + D.length ≤ fuel + 1 →
      ∀ i ∈ Region.ready .any opsA listed, i ∉ pre → wpOpIn (fenceOf σ0 rd) 0 P opsA Q i (wpAnyIn (fenceOf σ0 rd) 0 P .any opsA Q fuel (listed.setIfInBounds i true)) act w)
    (hdone : rest = [] → ∀ (σ : Sig) (w : World) (act : Act) (listed : Array Bool), σ0.le σ → St C opsA p.Ps pre es a h σ w act [] listed → Q .normal act w) :
    ∀ (n : Nat) (σ : Sig) (w : World) (act : Act) (D : List En) (listed : Array Bool) (fuel : Nat), D.length ≤ n → σ0.le σ → (∀ e ∈ D, ∀ b, e.rowOf = some b → σ0.nx ≤ b) → St C opsA p.Ps pre es a h σ w act D listed → rest.length + D.length ≤ fuel →
      wpAnyIn (fenceOf σ0 rd) 0 P .any opsA Q fuel listed act w
  | n, σ, w, act, D, listed, fuel, hn, hbase, hrow0, st, hf => by
    by_cases h0 : rest = [] ∧ D = []
    · obtain ⟨rfl, rfl⟩ := h0
      exact wpAnyIn_done (ready_nil hp (by simpa using hpi) st) (hdone rfl σ w act listed hbase st) fuel
    · have hun : ∃ i, i < opsA.size ∧ listed.getD i false = false := by
        cases hD : D with
        | cons e D' =>
          have heD : e ∈ D := by rw [hD]; simp
          have hlt := (Array.getElem?_eq_some_iff.1 (hes.at_ e (st.sub e heD)).1).1
          refine ⟨e.i, hlt, ?_⟩
          cases hb : listed.getD e.i false with
          | false => rfl
          | true => exact absurd rfl (((st.told e.i hlt).1 hb).2 e heD)
        | nil =>
          cases hrest : rest with
          | nil => exact absurd ⟨hrest, hD⟩ h0
          | cons x rest' =>
            have hlt := hp.lt x (by rw [hpi, hrest]; simp)
            refine ⟨x, hlt, ?_⟩
            cases hb : listed.getD x false with
            | false => rfl
            | true =>
              have h1 := ((st.told x hlt).1 hb).1
              have h2 := hp.nodup
              rw [hpi, hrest, List.nodup_append] at h2
              exact absurd rfl (h2.2.2 x h1 x (by simp))
      have hne := ready_ne hp st.lsize hun
      cases fuel with
      | zero =>
        exfalso
        have h1 : rest = [] := List.length_eq_zero_iff.1 (by omega)
        have h2 : D = [] := List.length_eq_zero_iff.1 (by omega)
        exact h0 ⟨h1, h2⟩
      | succ fuel =>
        refine ⟨fun h1 => absurd h1 hne, fun i hi => ?_⟩
        by_cases hipre : i ∈ pre
        · obtain ⟨hlt, hl⟩ := listed_not hp st hi
          have : ∃ e ∈ D, e.i = i := by
            apply Classical.byContradiction
            intro hno
            have := (st.told i hlt).2 ⟨hipre, fun e he e1 => hno ⟨e, he, e1⟩⟩
            rw [hl] at this; cases this
          obtain ⟨e, heD, rfl⟩ := this
          have hlen : (D.filter fun x => decide (x.i ≠ e.i)).length < D.length := by
            rw [List.length_filter_lt_length_iff_exists]
            exact ⟨e, heD, by simp⟩
          refine stepD hp hE hpi hes st heD hi (againL_mem hag e (st.sub e heD)) hbase hrow0 fun σ' w' act' hle0 st' => ?_
          cases n with
          | zero => omega
          | succ n =>
            exact inner hpi hes hag hx hdone n σ' w' act' _ _ fuel (by omega) hle0 (fun x hx => hrow0 x (List.mem_filter.1 hx).1) st' (by omega)
        · exact hx σ w act D listed fuel hbase hrow0 st hf i hi hipre
end
end Go.Refl
end
