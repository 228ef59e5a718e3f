/-
  A part of the proof of TopCrashRecovery: an abstract machine that the kernel runs, and its soundness.
-/
import Derived.Test.YtpncejdamjbnlaaGreatDoorRg
import Derived.OrdersIn
set_option linter.all false
section
namespace Go.Refl
open Go.RowKit
def Tr.full (f : Nat → AV) : Nat → Tr AV
  | 0 => .leaf
  | d + 1 => .node (some (f 0)) (Tr.full (fun k => f (4 * k + 1)) d) (Tr.full (fun k => f (4 * k + 2)) d) (Tr.full (fun k => f (4 * k + 3)) d) (Tr.full (fun k => f (4 * k + 4)) d)
theorem Tr.full_get : ∀ (d : Nat) (f : Nat → AV) (k : Nat), k < d → (Tr.full f d).get k = some (f k)
  | 0, f, k, h => by omega
  | d + 1, f, 0, h => rfl
  | d + 1, f, k + 1, h => by
    show (Tr.node _ _ _ _ _ : Tr AV).get (k + 1) = _
    rw [Tr.get_succ, sw_spec _ _ _ _ _ (Nat.mod_lt _ (by decide))]
    have hk : k / 4 < d := by omega
    have h4 : k % 4 < 4 := Nat.mod_lt _ (by decide)
    rw [Tr.full_get d _ _ hk, Tr.full_get d _ _ hk, Tr.full_get d _ _ hk, Tr.full_get d _ _ hk]
    split
    · congr 2; omega
    · split
      · congr 2; omega
      · split
        · congr 2; omega
        · congr 2; omega
theorem Tr.full_any : ∀ (d : Nat) (f : Nat → AV) (k : Nat), (Tr.full f d).get k = none ∨ (Tr.full f d).get k = some (f k)
  | 0, f, k => .inl (Tr.get_leaf k)
  | d + 1, f, 0 => .inr rfl
  | d + 1, f, k + 1 => by
    show (Tr.node _ _ _ _ _ : Tr AV).get (k + 1) = none ∨ (Tr.node _ _ _ _ _ : Tr AV).get (k + 1) = _
    rw [Tr.get_succ, sw_spec _ _ _ _ _ (Nat.mod_lt _ (by decide))]
    have h4 : k % 4 < 4 := Nat.mod_lt _ (by decide)
    split
    · have := Tr.full_any d (fun k => f (4 * k + 1)) (k / 4)
      have e : 4 * (k / 4) + 1 = k + 1 := by omega
      simpa only [e] using this
    · split
      · have := Tr.full_any d (fun k => f (4 * k + 2)) (k / 4)
        have e : 4 * (k / 4) + 2 = k + 1 := by omega
        simpa only [e] using this
      · split
        · have := Tr.full_any d (fun k => f (4 * k + 3)) (k / 4)
          have e : 4 * (k / 4) + 3 = k + 1 := by omega
          simpa only [e] using this
        · have := Tr.full_any d (fun k => f (4 * k + 4)) (k / 4)
          have e : 4 * (k / 4) + 4 = k + 1 := by omega
          simpa only [e] using this
def Agree (os : List Operand) (tm tm2 : Tr AV) : Prop := ∀ t, Operand.tmp t ∈ os → tget tm t = tget tm2 t
theorem Agree.sub {os os' : List Operand} {tm tm2 : Tr AV} (h : Agree os tm tm2) (hs : ∀ x ∈ os', x ∈ os) : Agree os' tm tm2 := fun t ht => h t (hs _ ht)
section
variable {E : Env} {tm tm2 : Tr AV}
theorem ev_tmp (t : Nat) (tm : Tr AV) (g : AV → Bool) : ev E (.tmp t) tm g = g (tget tm t) := by
  simp only [ev, tget]
  cases tm.get t <;> rfl
theorem ev_congr {o : Operand} (h : Agree [o] tm tm2) : ev E o tm = ev E o tm2 := by
  funext g
  cases o with
  | tmp t => rw [ev_tmp, ev_tmp, h t (by simp)]
  | _ => rfl
theorem evL_congr : ∀ {l : List Operand}, Agree l tm tm2 → evL E l tm = evL E l tm2
  | [], _ => rfl
  | o :: l, h => by
    funext g
    show ev E o tm (fun v => evL E l tm fun l => g (v :: l)) = ev E o tm2 (fun v => evL E l tm2 fun l => g (v :: l))
    rw [ev_congr (h.sub (by simp)), evL_congr (h.sub (by intro x hx; simp [hx]))]
theorem fillK_congr {place : Nat → (Nat → Nat → Bool) → Bool} : ∀ {ps : List (Nat × Operand)}, Agree (ps.map (·.2)) tm tm2 → fillK E place tm ps = fillK E place tm2 ps
  | [], _ => rfl
  | p :: ps, h => by
    funext cs g
    show ev E p.2 tm (fun v => place p.1 fun off size => cond (Nat.beq (cellsOf v).length size) (spliceK off (cellsOf v) cs fun cs => fillK E place tm ps cs g) false) =
      ev E p.2 tm2 (fun v => place p.1 fun off size => cond (Nat.beq (cellsOf v).length size) (spliceK off (cellsOf v) cs fun cs => fillK E place tm2 ps cs g) false)
    rw [ev_congr (h.sub (by simp)), fillK_congr (ps := ps) (h.sub (by intro x hx; simp at hx ⊢; exact .inr hx))]
theorem optK_congr {o : Option Operand} (h : Agree o.toList tm tm2) : optK o (fun o f => ev E o tm f) = optK o (fun o f => ev E o tm2 f) := by
  funext g
  cases o with
  | none => rfl
  | some o => simp only [optK]; rw [ev_congr (h.sub (by simp))]
theorem opK_congr {op : Op} {h : AH} {g : AV → AH → Bool} (ha : Agree op.operands.toList tm tm2) : opK E op tm h g = opK E op tm2 h g := by
  cases op with
  | move x => simp only [opK, ev_congr (o := x) (ha.sub (by simp [Op.operands]))]
  | assign x => simp only [opK, ev_congr (o := x) (ha.sub (by simp [Op.operands]))]
  | pick c x y => simp only [opK, ev_congr (o := x) (ha.sub (by simp [Op.operands])), ev_congr (o := y) (ha.sub (by simp [Op.operands])), ev_congr (o := c) (ha.sub (by simp [Op.operands]))]
  | alloc t => rfl
  | box t x => simp only [opK, ev_congr (o := x) (ha.sub (by simp [Op.operands]))]
  | build t ps =>
    have hp : Agree (ps.toList.map (·.2)) tm tm2 := ha.sub (by simp [Op.operands])
    simp only [opK, fillK_congr hp]
  | buildSlice t n ps =>
    have hp : Agree (ps.toList.map (·.2)) tm tm2 := ha.sub (by simp [Op.operands])
    simp only [opK, fillK_congr hp]
  | load t x => simp only [opK, ev_congr (o := x) (ha.sub (by simp [Op.operands]))]
  | store t x y => simp only [opK, ev_congr (o := x) (ha.sub (by simp [Op.operands])), ev_congr (o := y) (ha.sub (by simp [Op.operands]))]
  | nilCheck x => simp only [opK, ev_congr (o := x) (ha.sub (by simp [Op.operands]))]
  | binOp op t x y _ => simp only [opK, ev_congr (o := x) (ha.sub (by simp [Op.operands])), ev_congr (o := y) (ha.sub (by simp [Op.operands]))]
  | unOp op t x => simp only [opK, ev_congr (o := x) (ha.sub (by simp [Op.operands]))]
  | convert s d x => simp only [opK, ev_congr (o := x) (ha.sub (by simp [Op.operands]))]
  | makeFunc f a c =>
    have h1 : Agree a.toList tm tm2 := ha.sub (by intro x hx; simp [Op.operands]; exact .inl (by simpa using hx))
    have h2 : Agree c.toList tm tm2 := ha.sub (by intro x hx; simp [Op.operands]; exact .inr (by simpa using hx))
    cases f <;> first | rfl | simp only [opK, evL_congr h1, evL_congr h2]
  | makeSlice t x y => simp only [opK, ev_congr (o := x) (ha.sub (by simp [Op.operands])), ev_congr (o := y) (ha.sub (by simp [Op.operands]))]
  | slice t x lo hi mx =>
    have h1 : Agree lo.toList tm tm2 := ha.sub (by intro z hz; simp [Op.operands] at hz ⊢; simp [hz])
    have h2 : Agree hi.toList tm tm2 := ha.sub (by intro z hz; simp [Op.operands] at hz ⊢; simp [hz])
    have h3 : Agree mx.toList tm tm2 := ha.sub (by intro z hz; simp [Op.operands] at hz ⊢; simp [hz])
    simp only [opK, ev_congr (o := x) (ha.sub (by simp [Op.operands])), optK_congr h1, optK_congr h2, optK_congr h3]
  | fieldAddr t x f => simp only [opK, ev_congr (o := x) (ha.sub (by simp [Op.operands]))]
  | field t x f => simp only [opK, ev_congr (o := x) (ha.sub (by simp [Op.operands]))]
  | indexAddr t x y => simp only [opK, ev_congr (o := x) (ha.sub (by simp [Op.operands])), ev_congr (o := y) (ha.sub (by simp [Op.operands]))]
  | index t x y => simp only [opK, ev_congr (o := x) (ha.sub (by simp [Op.operands])), ev_congr (o := y) (ha.sub (by simp [Op.operands]))]
  | lookup t x y _ => simp only [opK, ev_congr (o := x) (ha.sub (by simp [Op.operands])), ev_congr (o := y) (ha.sub (by simp [Op.operands]))]
  | mapUpdate t x y z => simp only [opK, ev_congr (o := x) (ha.sub (by simp [Op.operands])), ev_congr (o := y) (ha.sub (by simp [Op.operands])), ev_congr (o := z) (ha.sub (by simp [Op.operands]))]
  | insert t x y z => simp only [opK, ev_congr (o := x) (ha.sub (by simp [Op.operands])), ev_congr (o := y) (ha.sub (by simp [Op.operands])), ev_congr (o := z) (ha.sub (by simp [Op.operands]))]
  | range t x => simp only [opK, ev_congr (o := x) (ha.sub (by simp [Op.operands]))]
  | next x b => cases b <;> first | rfl | simp only [opK, ev_congr (o := x) (ha.sub (by simp [Op.operands]))]
  | extract x i => simp only [opK, ev_congr (o := x) (ha.sub (by simp [Op.operands]))]
  | makeMap t r => cases r <;> rfl
  | call c =>
    obtain ⟨callee, args, tys⟩ := c
    cases callee with
    | value f => rfl
    | invoke r n => rfl
    | builtin b =>
      have hargs : Agree args.toList tm tm2 := ha.sub (by intro x hx; simp [Op.operands, Call.operands]; simpa using hx)
      have hone : ∀ x ∈ args.toList, ev E x tm = ev E x tm2 := fun x hx => ev_congr (hargs.sub (by intro y hy; simp at hy; rw [hy]; exact hx))
      simp only [opK]
      split
      · rename_i x t h1 h2; rw [hone x (by rw [h1]; simp)]
      · rename_i x t h1 h2; rw [hone x (by rw [h1]; simp)]
      · rename_i x y h1; rw [hone x (by rw [h1]; simp), hone y (by rw [h1]; simp)]
      · rename_i x y h1; rw [hone x (by rw [h1]; simp), hone y (by rw [h1]; simp)]
      · rename_i x y _ _ h1 h2; rw [hone x (by rw [h1]; simp), hone y (by rw [h1]; simp)]
      · rename_i x y _ _ h1 h2; rw [hone x (by rw [h1]; simp), hone y (by rw [h1]; simp)]
      · rfl
  | _ => rfl
theorem wantK_congr {opsA : Array Oper} {o : Oper} {g : Bool → Bool} (ha : ∀ t ∈ o.looksAt opsA, tget tm t = tget tm2 t) : wantK opsA.toList o tm g = wantK opsA.toList o tm2 g := by
  unfold wantK
  split
  · rfl
  · rename_i j want hg
    simp only [nth_eq, Array.getElem?_toList]
    split
    · rename_i d _ _ _ _ _ ho
      have hd : tget tm d = tget tm2 d := ha d (by
        unfold Oper.looksAt
        rw [hg]
        simp [ho])
      unfold tget at hd
      have key : ∀ o : Option AV, ocase (g false) (fun v => wantV want v g) o = wantV want (o.getD (.tup [])) g := fun o => by cases o <;> rfl
      rw [key, key, hd]
    · rfl
end
theorem narrow (ts : List Nat) (tm : Tr AV) (n : Nat) : ∃ tm2, (∀ t ∈ ts, tget tm t = tget tm2 t) ∧
    ∀ σ (tmps : Array Value), tmps.size = n → (∀ t ∈ ts, VR σ (tget tm t) (tmps.getD t undef)) → TmR σ tm2 n tmps := by
  classical
  obtain ⟨d, hd⟩ : ∃ d : Nat, ∀ t ∈ ts, t < d := by
    clear n
    induction ts with
    | nil => exact ⟨0, fun t h => by simp at h⟩
    | cons t ts ih =>
      obtain ⟨d, hd⟩ := ih
      refine ⟨max d (t + 1), fun s hs => ?_⟩
      rcases List.mem_cons.1 hs with rfl | hs
      · omega
      · have := hd s hs; omega
  obtain ⟨F, hF⟩ : ∃ F : Nat → AV, ∀ t, F t = if t ∈ ts then tget tm t else .bad := ⟨_, fun _ => rfl⟩
  have get : ∀ t o, (Tr.full F (d + n)).get t = o → tget (Tr.full F (d + n)) t = o.getD (.tup []) := fun t o h => by
    unfold tget; rw [h]
  refine ⟨Tr.full F (d + n), fun t ht => ?_, fun σ tmps hs hv => ⟨hs, fun i => ?_⟩⟩
  · have := hd t ht
    rw [get t _ (Tr.full_get (d + n) F t (by omega)), hF, if_pos ht]; rfl
  · by_cases hi : i ∈ ts
    · have := hd i hi
      rw [get i _ (Tr.full_get (d + n) F i (by omega)), hF, if_pos hi]; exact hv i hi
    · rcases Tr.full_any (d + n) F i with h2 | h2
      · have hin : ¬ i < d + n := fun hlt => by
          rw [Tr.full_get _ _ _ hlt] at h2; cases h2
        have : tmps.getD i undef = undef := by
          rw [Array.getD_eq_getD_getElem?, Array.getElem?_eq_none (by omega)]; rfl
        rw [get i _ h2, this]; exact undef_tup σ
      · rw [get i _ h2, hF, if_neg hi]; exact .inl rfl
end Go.Refl
end
section
namespace Go.Refl
open Go.RowKit
noncomputable def eqA0 (x y : AV) : Bool :=
  match x, y with
  | .bool a, .bool b => cond a b (not b)
  | .int k m, .int k' n => both (eqK k k') (eqI m n)
  | .str a, .str b => eqS a b
  | .pnil, .pnil => true
  | .snil, .snil => true
  | .mnil, .mnil => true
  | .fnil, .fnil => true
  | .inil, .inil => true
  | .ptr b o, .ptr b' o' => both (Nat.beq b b') (Nat.beq o o')
  | .sl b o l c k, .sl b' o' l' c' k' => both (both (Nat.beq b b') (Nat.beq o o')) (both (both (Nat.beq l l') (Nat.beq c c')) (cond k k' (not k')))
  | .map b, .map b' => Nat.beq b b'
  | .yield b, .yield b' => Nat.beq b b'
  | _, _ => false
noncomputable def eqAL (e : AV → AV → Bool) (a : List AV) : List AV → Bool :=
  lrec (fun b => match b with | [] => true | _ => false)
    (fun x _ ih b => match b with | [] => false | y :: b => cond (e x y) (ih b) false) a
noncomputable def eqA1 (x y : AV) : Bool :=
  match x, y with
  | .fn f a c, .fn f' a' c' => both (Nat.beq f f') (both (eqAL eqA0 a a') (eqAL eqA0 c c'))
  | .iface t v, .iface t' v' => both (Nat.beq t t') (eqA0 v v')
  | x, y => eqA0 x y
noncomputable def eqA (x y : AV) : Bool :=
  match x, y with
  | .agg a, .agg b => eqAL eqA1 a b
  | .tup a, .tup b => eqAL eqA1 a b
  | x, y => eqA1 x y
theorem cond_beq {a b : Bool} (h : cond a b (not b) = true) : a = b := by cases a <;> cases b <;> simp_all
theorem eqA0_eq {x y : AV} (h : eqA0 x y = true) : x = y := by
  unfold eqA0 at h
  split at h
  · rw [cond_beq h]
  · simp only [both_eq] at h; rw [eqK_eq h.1]; have := h.2; rw [eqI_eq] at this; rw [beq_iff_eq.1 this]
  · rw [eqS_eq] at h; rw [beq_iff_eq.1 h]
  · rfl
  · rfl
  · rfl
  · rfl
  · rfl
  · simp only [both_eq] at h; rw [beq_eq h.1, beq_eq h.2]
  · simp only [both_eq] at h; rw [beq_eq h.1.1, beq_eq h.1.2, beq_eq h.2.1.1, beq_eq h.2.1.2, cond_beq h.2.2]
  · rw [beq_eq h]
  · rw [beq_eq h]
  · cases h
theorem eqAL_eq {e : AV → AV → Bool} (he : ∀ x y, e x y = true → x = y) : ∀ {a b : List AV}, eqAL e a b = true → a = b
  | [], [], _ => rfl
  | [], _ :: _, h => absurd (show false = true from h) (by decide)
  | _ :: _, [], h => absurd (show false = true from h) (by decide)
  | x :: a, y :: b, h => by
    obtain ⟨h1, h2⟩ := cond_f (show cond (e x y) (eqAL e a b) false = true from h)
    rw [he _ _ h1, eqAL_eq he h2]
theorem eqA1_eq {x y : AV} (h : eqA1 x y = true) : x = y := by
  unfold eqA1 at h
  split at h
  · simp only [both_eq] at h; rw [beq_eq h.1, eqAL_eq (fun _ _ => eqA0_eq) h.2.1, eqAL_eq (fun _ _ => eqA0_eq) h.2.2]
  · simp only [both_eq] at h; rw [beq_eq h.1, eqA0_eq h.2]
  · exact eqA0_eq h
theorem eqA_eq {x y : AV} (h : eqA x y = true) : x = y := by
  unfold eqA at h
  split at h
  · rw [eqAL_eq (fun _ _ => eqA1_eq) h]
  · rw [eqAL_eq (fun _ _ => eqA1_eq) h]
  · exact eqA1_eq h
def isPure (op : Op) : Bool :=
  match op with
  | .move _ | .assign _ | .pick _ _ _ | .nilCheck _ | .binOp _ _ _ _ _ | .unOp _ _ _ | .fieldAddr _ _ _ | .field _ _ _ | .indexAddr _ _ _ | .index _ _ _ | .extract _ _ | .build _ _ => true
  | .makeFunc (.func _) _ _ => true
  | _ => false
def isRead (op : Op) : Bool :=
  match op with
  | .load _ _ | .lookup _ _ _ _ => true
  | .convert _ _ _ => true
  | .slice _ _ _ _ _ => true
  | .call { callee := .builtin .len, .. } => true
  | .call { callee := .builtin .cap, .. } => true
  | _ => false
section
variable {E : Env} {tm : Tr AV}
theorem pure_any {op : Op} (hp : isPure op = true) (h h2 : AH) (g : AV → Bool) : opK E op tm h (fun v _ => g v) = opK E op tm h2 (fun v _ => g v) := by
  cases op with
  | makeFunc f a c => cases f <;> first | rfl | cases hp
  | move x => rfl
  | assign x => rfl
  | pick c x y => rfl
  | nilCheck x => rfl
  | binOp op t x y n => rfl
  | unOp op t x => rfl
  | fieldAddr t x f => rfl
  | field t x f => rfl
  | indexAddr t x y => rfl
  | index t x y => rfl
  | extract x i => rfl
  | build t ps => rfl
  | _ => cases hp
theorem pure_const {op : Op} (hp : isPure op = true) (h : AH) (g : AV → AH → Bool) : opK E op tm h g = opK E op tm h (fun v _ => g v h) := by
  cases op with
  | makeFunc f a c => cases f <;> first | rfl | cases hp
  | move x => rfl
  | assign x => rfl
  | pick c x y => rfl
  | nilCheck x => rfl
  | binOp op t x y n => rfl
  | unOp op t x => rfl
  | fieldAddr t x f => rfl
  | field t x f => rfl
  | indexAddr t x y => rfl
  | index t x y => rfl
  | extract x i => rfl
  | build t ps => rfl
  | _ => cases hp
theorem intN_raw {v : AV} {f : Nat → Bool} (h : intN v f = true) : ∃ n, f n = true ∧ ∀ f' : Nat → Bool, f' n = true → intN v f' = true := by
  unfold intN at h
  split at h
  · rename_i k n; exact ⟨n, h, fun f' h' => h'⟩
  · cases h
theorem bndK_raw {o : Option AV} {d : Nat} {f : Nat → Bool} (h : bndK o d f = true) : ∃ n, f n = true ∧ ∀ f' : Nat → Bool, f' n = true → bndK o d f' = true := by
  cases o with
  | none => exact ⟨d, h, fun f' h' => h'⟩
  | some v => exact intN_raw h
open Classical in
theorem slice_same {t : TypeId} {x : AV} {lo hi mx : Option AV} {h : AH} {g : AV → Bool} (hk : sliceK E t x lo hi mx h (fun v h' => cond (Nat.beq h'.nx h.nx) (g v) false) = true) :
    sliceK E t x lo hi mx h (fun v h' => g v && decide (h' = h)) = true := by
  have key : ∀ v, cond (Nat.beq h.nx h.nx) (g v) false = (g v && decide (h = h)) := fun v => by simp
  have bad : ∀ (o : AO) (f : Nat → AV), newK h o (fun b h' => cond (Nat.beq h'.nx h.nx) (g (f b)) false) = true → False := fun o f hb => by
    obtain ⟨m, h1, _⟩ := newK_spec hb
    simp at h1
  unfold sliceK at hk ⊢
  split at hk
  · exact hk
  · rename_i a ha
    simp only at hk ⊢
    split at hk
    · simpa only [key] using hk
    · simpa only [key] using hk
    · split at hk
      · exact hk
      · rename_i ea he
        split at hk
        · obtain ⟨k1, hk2, b1⟩ := bndK_raw hk
          obtain ⟨k2, hk3, b2⟩ := bndK_raw hk2
          refine b1 _ (b2 _ ?_)
          obtain ⟨c1, hk4⟩ := cond_f hk3
          rw [c1]
          rcases cond_eq hk4 with ⟨c2, hk5⟩ | ⟨c2, hk5⟩
          · rw [c2]
            rcases cond_eq hk5 with ⟨c3, hk6⟩ | ⟨c3, hk6⟩
            · rw [c3]
              rcases cond_eq hk6 with ⟨c4, hk7⟩ | ⟨c4, hk7⟩
              · rw [c4]; simpa using hk7
              · exfalso
                split at hk7
                · obtain ⟨_, hk8⟩ := cond_f hk7
                  rw [fn_eq] at hk8
                  exact bad _ _ hk8
                · cases hk7
            · rw [c3]; simpa using hk6
          · rw [c2]
            simp only [fn_eq] at hk5 ⊢
            simpa using hk5
        · split at hk
          · exact hk
          · obtain ⟨k1, hk2, b1⟩ := intN_raw hk
            obtain ⟨k2, hk3, b2⟩ := intN_raw hk2
            obtain ⟨k3, hk4, b3⟩ := bndK_raw hk3
            refine b1 _ (b2 _ (b3 _ ?_))
            simpa only [key] using hk4
    · simpa only [key] using hk
    · exact hk
theorem strK_eq : ∀ (l : List UInt8) (g : List Nat → Bool), strK l g = g (l.map UInt8.toNat)
  | [], g => rfl
  | c :: l, g => by
    show strK l (fun s => fn_ c.toNat fun n => g (n :: s)) = _
    rw [strK_eq l, fn_eq]; rfl
theorem cst1_mono {v : Value} {f f' : AV → Bool} (hf : ∀ v, f v = true → f' v = true) (h : cst1 v f = true) : cst1 v f' = true := by
  unfold cst1 at h ⊢
  split at h
  · exact hf _ h
  · rw [fi_eq] at h ⊢; exact hf _ h
  · rw [strK_eq] at h ⊢; exact hf _ h
  · exact hf _ h
  · rename_i l c
    cases l with
    | succ l => cases h
    | zero =>
      cases c with
      | succ c => cases h
      | zero => exact hf _ h
  · exact hf _ h
  · exact hf _ h
  · exact hf _ h
  · split at h
    · exact hf _ h
    · cases h
  · split at h
    · exact hf _ h
    · cases h
  · cases h
theorem cstL_mono : ∀ {l : List Value} {f f' : List AV → Bool}, (∀ v, f v = true → f' v = true) → cstL l f = true → cstL l f' = true
  | [], f, f', hf, h => hf _ h
  | v :: l, f, f', hf, h => cst1_mono (v := v) (f' := fun v => cstL l fun l => f' (v :: l)) (fun x hx => cstL_mono (l := l) (fun y hy => hf _ hy) hx) (show cst1 v (fun v => cstL l fun l => f (v :: l)) = true from h)
theorem cst_mono {v : Value} {f f' : AV → Bool} (hf : ∀ v, f v = true → f' v = true) (h : cst v f = true) : cst v f' = true := by
  unfold cst at h ⊢
  split at h
  · exact cstL_mono (fun x hx => hf _ hx) h
  · exact cst1_mono hf h
theorem ev_mono {o : Operand} {f f' : AV → Bool} (hf : ∀ v, f v = true → f' v = true) (h : ev E o tm f = true) : ev E o tm f' = true := by
  cases o with
  | tmp t => rw [ev_tmp] at h ⊢; exact hf _ h
  | const v => exact cst_mono hf h
  | global n =>
    obtain ⟨h1, h2⟩ := cond_f (show cond (Nat.ble (Nat.succ n) E.ng) (f (.ptr n 0)) false = true from h)
    show cond (Nat.ble (Nat.succ n) E.ng) (f' (.ptr n 0)) false = true
    rw [h1]; exact hf _ h2
  | func fn => exact hf _ h
theorem optK_mono {o : Option Operand} {f f' : Option AV → Bool} (hf : ∀ v, f v = true → f' v = true) (h : optK o (fun o f => ev E o tm f) f = true) : optK o (fun o f => ev E o tm f) f' = true := by
  cases o with
  | none => exact hf _ h
  | some o => exact ev_mono (fun v hv => hf _ hv) h
theorem wr_raw {k : IntKind} {n : Int} {f : AV → Bool} (h : wr k n f = true) : ∃ v, f v = true ∧ ∀ f' : AV → Bool, f' v = true → wr k n f' = true := by
  unfold wr at h ⊢
  rw [fi_eq] at h
  rcases cond_eq h with ⟨c, h1⟩ | ⟨c, h1⟩
  · exact ⟨_, h1, fun f' h' => by rw [fi_eq, c]; exact h'⟩
  · rw [fi_eq] at h1
    exact ⟨_, h1, fun f' h' => by rw [fi_eq, c, cond_false, fi_eq]; exact h'⟩
theorem u8s_eq : ∀ (s : List Nat) (f : List AV → Bool), u8s s f = f (s.map fun n => .int .u8 (.ofNat n))
  | [], f => rfl
  | n :: s, f => by
    show u8s s (fun l => f (.int .u8 (.ofNat n) :: l)) = _
    rw [u8s_eq s]; rfl
theorem dropK_raw {α : Type} : ∀ (n : Nat) (l : List α) (f : List α → Bool), dropK n l f = true → f (l.drop n) = true ∧ ∀ f' : List α → Bool, f' (l.drop n) = true → dropK n l f' = true
  | 0, l, f, h => ⟨h, fun f' h' => h'⟩
  | n + 1, [], f, h => ⟨h, fun f' h' => h'⟩
  | n + 1, x :: l, f, h => dropK_raw n l f h
theorem takeK_raw : ∀ (n : Nat) (l : List AV) (f : List AV → Bool), takeK n l f = true → ∃ r, f r = true ∧ ∀ f' : List AV → Bool, f' r = true → takeK n l f' = true
  | 0, l, f, h => ⟨[], h, fun f' h' => h'⟩
  | n + 1, [], f, h => absurd (show false = true from h) (by decide)
  | n + 1, v :: l, f, h => by
    obtain ⟨h1, h2⟩ := cond_t (show cond (isBad v) false (takeK n l fun r => f (v :: r)) = true from h)
    obtain ⟨r, h3, r3⟩ := takeK_raw n l _ h2
    exact ⟨v :: r, h3, fun f' h' => by
      show cond (isBad v) false (takeK n l fun r => f' (v :: r)) = true
      rw [h1]; exact r3 _ h'⟩
theorem rdK_raw {h : AH} {b o n : Nat} {f : List AV → Bool} (hk : rdK h b o n f = true) : ∃ r, f r = true ∧ ∀ f' : List AV → Bool, f' r = true → rdK h b o n f' = true := by
  unfold rdK at hk ⊢
  split at hk
  · obtain ⟨h1, r1⟩ := dropK_raw _ _ _ hk
    obtain ⟨r, h2, r2⟩ := takeK_raw _ _ _ h1
    exact ⟨r, h2, fun f' h' => r1 _ (r2 _ h')⟩
  · cases hk
theorem ofU8s_raw : ∀ {l : List AV} {f : List Nat → Bool} (_ : ofU8s l f = true), ∃ s, f s = true ∧ ∀ f' : List Nat → Bool, f' s = true → ofU8s l f' = true
  | [], f, h => ⟨[], h, fun f' h' => h'⟩
  | v :: l, f, h => by
    obtain ⟨n, rfl, h'⟩ : ∃ n, v = .int .u8 (.ofNat n) ∧ cond (Nat.ble n 255) (ofU8s l fun s => f (n :: s)) false = true := by
      cases v with
      | int k z =>
        cases k <;> cases z <;> first | exact ⟨_, rfl, h⟩ | exact absurd (show false = true from h) (by decide)
      | _ => exact absurd (show false = true from h) (by decide)
    · obtain ⟨h1, h2⟩ := cond_f h'
      obtain ⟨s, h3, r3⟩ := ofU8s_raw h2
      exact ⟨n :: s, h3, fun f' hf => by
        show cond (Nat.ble n 255) (ofU8s l fun s => f' (n :: s)) false = true
        rw [h1]; exact r3 _ hf⟩
open Classical in
theorem read_same {op : Op} (hp : isRead op = true) {h : AH} {g : AV → Bool} (hk : opK E op tm h (fun v h' => cond (Nat.beq h'.nx h.nx) (g v) false) = true) :
    opK E op tm h (fun v h' => g v && decide (h' = h)) = true := by
  have key : ∀ v, cond (Nat.beq h.nx h.nx) (g v) false = (g v && decide (h = h)) := fun v => by simp
  cases op with
  | load t x =>
    have e : ∀ f : AV → AH → Bool, opK E (.load t x) tm h f = opK E (.load t x) tm h (fun v _ => f v h) := fun f => rfl
    rw [e] at hk ⊢; simpa only [key] using hk
  | lookup t x y ok =>
    have e : ∀ f : AV → AH → Bool, opK E (.lookup t x y ok) tm h f = opK E (.lookup t x y ok) tm h (fun v _ => f v h) := fun f => rfl
    rw [e] at hk ⊢; simpa only [key] using hk
  | convert s d x =>
    have bad : ∀ (o : AO) (f : Nat → AV), newK h o (fun b h' => cond (Nat.beq h'.nx h.nx) (g (f b)) false) = true → False := fun o f hb => by
      obtain ⟨m, h1, _⟩ := newK_spec hb
      simp at h1
    simp only [opK] at hk ⊢
    refine ev_mono (fun v hk => ?_) hk
    split at hk
    · split at hk
      · obtain ⟨n, h1, r1⟩ := wr_raw hk
        exact r1 _ (by simpa using h1)
      · exfalso
        split at hk
        · rw [u8s_eq] at hk
          rw [fn_eq] at hk
          exact bad _ (fun b => .sl b 0 _ _ true) hk
        · cases hk
      · split at hk
        · simpa only [key] using hk
        · cases hk
      · split at hk
        · obtain ⟨cs, h1, r1⟩ := rdK_raw hk
          obtain ⟨s, h2, r2⟩ := ofU8s_raw h1
          exact r1 _ (r2 _ (by simpa using h2))
        · cases hk
      · split at hk
        · obtain ⟨h1, h2⟩ := cond_f hk
          rw [h1]
          split at h2
          · rw [cond_true]; simpa only [key] using h2
          · cases h2
        · cases hk
      · cases hk
    · cases hk
  | slice t x lo hi mx =>
    simp only [opK] at hk ⊢
    refine ev_mono (fun v hk => optK_mono (fun lo hk => optK_mono (fun hi hk => optK_mono (fun mx hk => slice_same hk) hk) hk) hk) hk
  | call c =>
    obtain ⟨callee, args, tys⟩ := c
    cases callee with
    | value f => cases hp
    | invoke r n => cases hp
    | builtin b =>
      cases b with
      | len =>
        cases ha : args.toList with
        | nil => simp [opK, ha] at hk
        | cons x l => cases l with
          | cons y l' => simp [opK, ha] at hk
          | nil => cases ht : tys.toList with
            | nil => simp [opK, ha, ht] at hk
            | cons t l => cases l with
              | cons _ _ => simp [opK, ha, ht] at hk
              | nil =>
                simp only [opK, ha, ht] at hk ⊢
                refine ev_mono (fun v hv => ?_) hk
                split at hv
                · split at hv <;> first | (simpa using hv) | (exact absurd hv (by decide)) | (split at hv <;> first | (simpa using hv) | (exact absurd hv (by decide)))
                · cases hv
      | cap =>
        cases ha : args.toList with
        | nil => simp [opK, ha] at hk
        | cons x l => cases l with
          | cons y l' => simp [opK, ha] at hk
          | nil => cases ht : tys.toList with
            | nil => simp [opK, ha, ht] at hk
            | cons t l => cases l with
              | cons _ _ => simp [opK, ha, ht] at hk
              | nil =>
                simp only [opK, ha, ht] at hk ⊢
                refine ev_mono (fun v hv => ?_) hk
                split at hv
                · split at hv <;> first | (simpa using hv) | (exact absurd hv (by decide))
                · cases hv
      | _ => cases hp
  | _ => cases hp
end
end Go.Refl
end
section
namespace Go.Refl
open Go.RowKit
section
variable {E : Env} {tm : Tr AV}
theorem cst1_raw {v : Value} {f : AV → Bool} (h : cst1 v f = true) : ∃ a, f a = true ∧ ∀ f' : AV → Bool, f' a = true → cst1 v f' = true := by
  unfold cst1 at h ⊢
  split at h
  · exact ⟨_, h, fun f' h' => h'⟩
  · rw [fi_eq] at h; exact ⟨_, h, fun f' h' => by simp only [fi_eq]; exact h'⟩
  · rw [strK_eq] at h; exact ⟨_, h, fun f' h' => by simp only [strK_eq]; exact h'⟩
  · exact ⟨_, h, fun f' h' => h'⟩
  · rename_i l c
    cases l with
    | succ l => cases h
    | zero =>
      cases c with
      | succ c => cases h
      | zero => exact ⟨_, h, fun f' h' => h'⟩
  · exact ⟨_, h, fun f' h' => h'⟩
  · exact ⟨_, h, fun f' h' => h'⟩
  · exact ⟨_, h, fun f' h' => h'⟩
  · rename_i f0 a c
    cases ha : a.toList with
    | cons _ _ => simp [ha] at h
    | nil =>
      cases hc : c.toList with
      | cons _ _ => simp [ha, hc] at h
      | nil =>
        simp only [ha, hc] at h
        exact ⟨_, h, fun f' h' => by simp only [ha, hc]; exact h'⟩
  · rename_i vs
    cases ha : vs.toList with
    | cons _ _ => simp [ha] at h
    | nil =>
      simp only [ha] at h
      exact ⟨_, h, fun f' h' => by simp only [ha]; exact h'⟩
  · cases h
theorem cstL_raw : ∀ {l : List Value} {f : List AV → Bool}, cstL l f = true → ∃ a, f a = true ∧ ∀ f' : List AV → Bool, f' a = true → cstL l f' = true
  | [], f, h => ⟨_, h, fun f' h' => h'⟩
  | v :: l, f, h => by
    obtain ⟨a, h1, r1⟩ := cst1_raw (show cst1 v (fun v => cstL l fun l => f (v :: l)) = true from h)
    obtain ⟨b, h2, r2⟩ := cstL_raw h1
    exact ⟨a :: b, h2, fun f' h' => r1 (fun v => cstL l fun l => f' (v :: l)) (r2 (fun l => f' (a :: l)) h')⟩
theorem cst_raw {v : Value} {f : AV → Bool} (h : cst v f = true) : ∃ a, f a = true ∧ ∀ f' : AV → Bool, f' a = true → cst v f' = true := by
  unfold cst at h ⊢
  split at h
  · obtain ⟨a, h1, r1⟩ := cstL_raw h
    exact ⟨_, h1, fun f' h' => r1 (fun l => f' (.agg l)) h'⟩
  · exact cst1_raw h
theorem ev_raw {o : Operand} {f : AV → Bool} (h : ev E o tm f = true) : ∃ a, f a = true ∧ ∀ f' : AV → Bool, f' a = true → ev E o tm f' = true := by
  cases o with
  | tmp t => rw [ev_tmp] at h; exact ⟨_, h, fun f' h' => by rw [ev_tmp]; exact h'⟩
  | const v => exact cst_raw h
  | global n =>
    obtain ⟨h1, h2⟩ := cond_f (show cond (Nat.ble (Nat.succ n) E.ng) (f (.ptr n 0)) false = true from h)
    exact ⟨_, h2, fun f' h' => by show cond (Nat.ble (Nat.succ n) E.ng) (f' (.ptr n 0)) false = true; rw [h1]; exact h'⟩
  | func fn => exact ⟨_, h, fun f' h' => h'⟩
def isMove (op : Op) : Bool :=
  match op with
  | .move _ | .assign _ | .pick _ _ _ | .nilCheck _ | .fieldAddr _ _ _ | .indexAddr _ _ _ | .extract _ _ => true
  | _ => false
theorem move_raw {op : Op} (hp : isMove op = true) {h : AH} {g : AV → Bool} (hk : opK E op tm h (fun v _ => g v) = true) :
    ∃ v, g v = true ∧ ∀ h2 (g' : AV → AH → Bool), g' v h2 = true → opK E op tm h2 g' = true := by
  cases op with
  | move x =>
    obtain ⟨a, h1, r1⟩ := ev_raw (E := E) (tm := tm) (o := x) (f := g) hk
    exact ⟨a, h1, fun h2 g' h' => r1 (fun v => g' v h2) h'⟩
  | assign x =>
    obtain ⟨a, h1, r1⟩ := ev_raw (E := E) (tm := tm) (o := x) (f := g) hk
    exact ⟨a, h1, fun h2 g' h' => r1 (fun v => g' v h2) h'⟩
  | pick c x y =>
    simp only [opK] at hk ⊢
    obtain ⟨a, h1, r1⟩ := ev_raw hk
    split at h1
    · rename_i b
      cases b with
      | true =>
        obtain ⟨v, h2, r2⟩ := ev_raw (show ev E x tm (fun v => g v) = true from h1)
        exact ⟨v, h2, fun h3 g' h' => r1 _ (r2 (fun v => g' v h3) h')⟩
      | false =>
        obtain ⟨v, h2, r2⟩ := ev_raw (show ev E y tm (fun v => g v) = true from h1)
        exact ⟨v, h2, fun h3 g' h' => r1 _ (r2 (fun v => g' v h3) h')⟩
    · cases h1
  | nilCheck x =>
    simp only [opK] at hk ⊢
    obtain ⟨a, h1, r1⟩ := ev_raw hk
    split at h1
    · exact ⟨_, h1, fun h3 g' h' => r1 _ h'⟩
    · cases h1
  | fieldAddr t x f =>
    simp only [opK] at hk ⊢
    obtain ⟨a, h1, r1⟩ := ev_raw hk
    split at h1
    · rename_i fs _ _ _ b o ht
      split at h1
      · rename_i fd hf
        split at h1
        · rename_i fa hfa
          obtain ⟨h2, h3⟩ := cond_f h1
          rw [fn_eq] at h3
          refine ⟨_, h3, fun h4 g' h' => r1 _ ?_⟩
          simp only [ht, hf, hfa, h2, fn_eq]
          exact h'
        · cases h1
      · cases h1
    · cases h1
  | indexAddr t x i =>
    simp only [opK] at hk ⊢
    obtain ⟨a, h1, r1⟩ := ev_raw hk
    obtain ⟨b, h2, r2⟩ := ev_raw h1
    obtain ⟨n, h3, r3⟩ := intN_raw h2
    split at h3
    · rename_i len e _ _ _ ht
      split at h3
      · rename_i b o ea he
        obtain ⟨h4, h5⟩ := cond_f h3
        rw [fn_eq] at h5
        refine ⟨_, h5, fun h6 g' h' => r1 _ (r2 _ (r3 _ ?_))⟩
        simp only [ht, he, h4, fn_eq]
        exact h'
      · cases h3
    · rename_i e _ _ _ ht
      split at h3
      · rename_i b o len _ _ ea he
        obtain ⟨h4, h5⟩ := cond_f h3
        rw [fn_eq] at h5
        refine ⟨_, h5, fun h6 g' h' => r1 _ (r2 _ (r3 _ ?_))⟩
        simp only [ht, he, h4, fn_eq]
        exact h'
      · cases h3
    · cases h3
  | extract x i =>
    simp only [opK] at hk ⊢
    obtain ⟨a, h1, r1⟩ := ev_raw hk
    split at h1
    · rename_i vs
      split at h1
      · rename_i v hv
        obtain ⟨h2, h3⟩ := cond_t h1
        refine ⟨_, h3, fun h4 g' h' => r1 _ ?_⟩
        simp only [hv, h2]
        exact h'
      · cases h1
    · cases h1
  | _ => cases hp
end
section
variable {P : Program} {E : Env} {C : Ctx} (hE : EnvOk P E C) {tm : Tr AV}
include hE
theorem read_spec {op : Op} (hp : isRead op = true) {h : AH} {g : AV → Bool} (hk : opK E op tm h (fun v h' => cond (Nat.beq h'.nx h.nx) (g v) false) = true) : ∃ v, g v = true ∧ OpS P C op tm h v h := by
  classical
  have h1 := read_same hp hk
  obtain ⟨v, h', h2, h3⟩ := opK_spec hE h1
  simp at h2
  obtain ⟨h4, rfl⟩ := h2
  exact ⟨v, h4, h3⟩
theorem pure_spec {op : Op} (hp : isPure op = true) {h : AH} {g : AV → Bool} (hk : opK E op tm h (fun v _ => g v) = true) : ∃ v, g v = true ∧ OpS P C op tm h v h := by
  classical
  have h1 : opK E op tm h (fun v h' => g v && decide (h' = h)) = true := by
    rw [pure_const hp]
    simpa using hk
  obtain ⟨v, h', h2, h3⟩ := opK_spec hE h1
  simp at h2
  obtain ⟨h4, rfl⟩ := h2
  exact ⟨v, h4, h3⟩
theorem move_spec {op : Op} (hp : isMove op = true) {h : AH} {g : AV → Bool} (hk : opK E op tm h (fun v _ => g v) = true) : ∃ v, g v = true ∧ ∀ h2, OpS P C op tm h2 v h2 := by
  classical
  obtain ⟨v, h1, r1⟩ := move_raw hp hk
  refine ⟨v, h1, fun h2 => ?_⟩
  obtain ⟨v', h', h3, h4⟩ := opK_spec (P := P) (C := C) hE (r1 h2 (fun u h' => decide (u = v) && decide (h' = h2)) (by simp))
  simp at h3
  obtain ⟨rfl, rfl⟩ := h3
  exact h4
end
end Go.Refl
end
section
namespace Go.Refl
open Go.RowKit
theorem overK_raw : ∀ {vs l : List AV} {g : List AV → Bool}, overK vs l g = true → ∃ r, g r = true ∧ ∀ g' : List AV → Bool, g' r = true → overK vs l g' = true
  | [], l, g, h => ⟨l, h, fun g' h' => h'⟩
  | v :: vs, [], g, h => absurd (show false = true from h) (by decide)
  | v :: vs, u :: l, g, h => by
    obtain ⟨h1, h2⟩ := cond_f (show cond (scal v) (overK vs l fun r => g (v :: r)) false = true from h)
    obtain ⟨r, h3, r3⟩ := overK_raw h2
    refine ⟨v :: r, h3, fun g' h' => ?_⟩
    show cond (scal v) (overK vs l fun r => g' (v :: r)) false = true
    rw [h1]; exact r3 _ h'
theorem spliceK_raw : ∀ {o : Nat} {vs l : List AV} {g : List AV → Bool}, spliceK o vs l g = true → ∃ r, g r = true ∧ ∀ g' : List AV → Bool, g' r = true → spliceK o vs l g' = true
  | 0, vs, l, g, h => overK_raw (show overK vs l g = true from h)
  | o + 1, vs, [], g, h => absurd (show false = true from h) (by decide)
  | o + 1, vs, u :: l, g, h => by
    obtain ⟨r, h3, r3⟩ := spliceK_raw (show spliceK o vs l (fun r => g (u :: r)) = true from h)
    exact ⟨u :: r, h3, fun g' h' => r3 (fun r => g' (u :: r)) h'⟩
theorem fillK_raw {E : Env} {place : Nat → (Nat → Nat → Bool) → Bool} {tm : Tr AV} (hpl : ∀ i f, place i f = true → ∃ off size, f off size = true ∧ ∀ f' : Nat → Nat → Bool, f' off size = true → place i f' = true) :
    ∀ {ps : List (Nat × Operand)} {cs : List AV} {g : List AV → Bool}, fillK E place tm ps cs g = true → ∃ r, g r = true ∧ ∀ g' : List AV → Bool, g' r = true → fillK E place tm ps cs g' = true
  | [], cs, g, h => ⟨cs, h, fun g' h' => h'⟩
  | p :: ps, cs, g, h => by
    have h' : ev E p.2 tm (fun v => place p.1 fun off size => cond (Nat.beq (cellsOf v).length size) (spliceK off (cellsOf v) cs fun cs => fillK E place tm ps cs g) false) = true := h
    obtain ⟨v, h1, r1⟩ := ev_raw h'
    obtain ⟨off, size, h2, r2⟩ := hpl _ _ h1
    obtain ⟨h3, h4⟩ := cond_f h2
    obtain ⟨cs2, h5, r5⟩ := spliceK_raw h4
    obtain ⟨r, h6, r6⟩ := fillK_raw hpl h5
    refine ⟨r, h6, fun g' hg => ?_⟩
    show ev E p.2 tm (fun v => place p.1 fun off size => cond (Nat.beq (cellsOf v).length size) (spliceK off (cellsOf v) cs fun cs => fillK E place tm ps cs g') false) = true
    refine r1 _ (r2 _ ?_)
    rw [h3]
    exact r5 _ (r6 _ hg)
section
variable {P : Program} {E : Env} {C : Ctx} (hE : EnvOk P E C)
theorem wantK_raw {ops : List Oper} {o : Oper} {tm : Tr AV} {g : Bool → Bool} (hk : wantK ops o tm g = true) : ∃ b, g b = true ∧ ∀ g' : Bool → Bool, g' b = true → wantK ops o tm g' = true := by
  unfold wantK at hk ⊢
  split at hk
  · exact ⟨true, hk, fun g' h' => h'⟩
  · split at hk
    · rename_i d _ _ _ _ _ ho
      cases ht : tm.get d with
      | none => rw [ht] at hk; exact ⟨false, hk, fun g' h' => h'⟩
      | some v =>
        rw [ht] at hk
        have hk2 : wantV _ v g = true := hk
        cases v with
        | bool b => exact ⟨_, bBool_eq hk2, fun g' h' => by
            show bBool _ g' = true
            generalize (cond b _ _ : Bool) = u at h' ⊢
            cases u <;> exact h'⟩
        | bad => cases hk2
        | _ => exact ⟨false, hk2, fun g' h' => h'⟩
    · exact ⟨false, hk, fun g' h' => h'⟩
include hE
theorem want_at {opsA : Array Oper} {o : Oper} {tm : Tr AV} {b : Bool} (hk : wantK opsA.toList o tm (fun u => u == b) = true) {σ : Sig} {act : Act}
    (ha : ∀ t ∈ o.looksAt opsA, VR σ (tget tm t) (act.tmps.getD t undef)) : Region.wanted o (yielded opsA act.tmps) = b := by
  obtain ⟨tm2, h1, h2⟩ := narrow (o.looksAt opsA) tm act.tmps.size
  rw [wantK_congr h1] at hk
  obtain ⟨b', h3, h4⟩ := wantK_spec (P := P) (E := E) (C := C) hE hk
  have : b' = b := by simpa using h3
  subst this
  exact h4 σ _ _ (h2 σ act.tmps rfl ha)
theorem looks_operands {opsA : Array Oper} {o : Oper} {tm tm2 : Tr AV} (h : ∀ t ∈ o.looksAt opsA, tget tm t = tget tm2 t) : Agree o.op.operands.toList tm tm2 := fun t ht =>
  h t (List.mem_append_left _ (List.mem_filterMap.2 ⟨.tmp t, ht, rfl⟩))
theorem op_at {opsA : Array Oper} {o : Oper} {tm : Tr AV} {h : AH} {g : AV → AH → Bool} (hk : opK E o.op tm h g = true) {σ : Sig} {w : World} {act : Act} (kr : HRel C σ h w)
    (ha : ∀ t ∈ o.looksAt opsA, VR σ (tget tm t) (act.tmps.getD t undef)) :
    ∃ v h', g v h' = true ∧ ∃ σ' r z w', σ.le σ' ∧ (execOp act.eval o).run P w = .ok r w' ∧ HRel C σ' h' w' ∧ (r = .value z ∨ r = .skip ∧ z = undef) ∧ VR σ' v z := by
  obtain ⟨tm2, h1, h2⟩ := narrow (o.looksAt opsA) tm act.tmps.size
  rw [opK_congr (looks_operands hE h1)] at hk
  obtain ⟨v, h', h3, h4⟩ := opK_spec (P := P) (C := C) hE hk
  have ht := h2 σ act.tmps rfl ha
  obtain ⟨σ', n, z, w', q1, q2, q3, q4, q5⟩ := h4 σ w act.eval o rfl kr ⟨fun t => ht.2 t, fun _ => rfl, fun _ => rfl, fun _ => rfl⟩
  exact ⟨v, h', h3, σ', n, z, w', q1, q2, q3, q4, q5⟩
theorem row_at {opsA : Array Oper} {o : Oper} {t : TypeId} {len : Nat} {ps : Array (Nat × Operand)} (ho : o.op = .buildSlice t len ps) {tm : Tr AV} {h : AH} {g : AV → AH → Bool} (hk : opK E (.buildSlice t len ps) tm h g = true) :
    ∃ v cs e z m, g v ⟨m, h.nx + 1⟩ = true ∧ h.m.Put h.nx (.cells cs e z false) m ∧
      ∀ (σ : Sig) (hp : AH) (w : World) (act : Act), HRel C σ hp w → (∀ t ∈ o.looksAt opsA, VR σ (tget tm t) (act.tmps.getD t undef)) → ∃ vals zz, concL σ cs = some vals ∧
        (execOp act.eval o).run P w = .ok (.value zz) (w.alloc (.cells vals.toArray e)) ∧ ∀ σ' : Sig, σ' h.nx = some ⟨w.heap.size, 0, 0⟩ → conc σ' v = some zz := by
  simp only [opK] at hk
  split at hk
  · rename_i e _ _ _ ht
    split at hk
    · rename_i ea he
      obtain ⟨h5, h6⟩ := cond_f hk
      simp only [both_eq, Bool.not_eq_true'] at h5
      obtain ⟨a1, a4, a5⟩ := h5
      have a1 := ble_eq a1
      have a5 := beq_eq a5
      obtain ⟨zv, z1, z2, z3⟩ := zero_cells hE he a4 a5
      have h7 := repK_spec hE _ _ _ h6
      obtain ⟨cs', h8, r8⟩ := fillK_raw (fun i f hf => ⟨i * ea.size, ea.size, by rw [fn_eq] at hf; exact hf, fun f' hf' => by rw [fn_eq]; exact hf'⟩) h7
      obtain ⟨m, hg, hp⟩ := newK_spec h8
      refine ⟨_, cs', e, ea.size, m, hg, hp, fun σ hp' w act k ha => ?_⟩
      obtain ⟨tm2, n1, n2⟩ := narrow (o.looksAt opsA) tm act.tmps.size
      have hag := looks_operands hE n1
      rw [ho] at hag
      have hp2 : Agree (ps.toList.map (·.2)) tm tm2 := hag.sub (by simp [Op.operands])
      have htm := n2 σ act.tmps rfl ha
      classical
      have h9 := r8 (fun c => decide (c = cs')) (by simp)
      rw [fillK_congr hp2] at h9
      obtain ⟨cs2, h10, hs⟩ := fillK_spec (P := P) (C := C) (pc := fun i => some (i * ea.size, ea.size)) hE (fun i f hf => ⟨_, _, by rw [fn_eq] at hf; exact hf, rfl⟩) h9
      have : cs2 = cs' := by simpa using h10
      subst this
      obtain ⟨l', r1, r2⟩ := hs σ hp' w act.eval _ k ⟨fun t => htm.2 t, fun _ => rfl, fun _ => rfl, fun _ => rfl⟩ (concL_rep (z3 σ) len)
      refine ⟨l', .slice (some ⟨w.heap.size, 0, none⟩) len len, r2, ?_, fun σ' h' => by simp [conc, h']⟩
      have a1' : ¬ (2 ^ 24 < len * ea.size) := by have : len * ea.size ≤ 65536 := a1; omega
      have r0 : (Array.range (len * ea.size)).map (fun i => zv.cells[i % zv.cells.size]!) = (List.replicate len zv.cells.toList).flatten.toArray := by
        apply Array.ext'; rw [← z2, range_rep']
      have r1' : Instr.fill (fun i => some (i * ea.size, ea.size)) (List.replicate len zv.cells.toList).flatten.toArray (ps.toList.map fun (i, x) => (i, act.eval x)) = some l'.toArray := r1
      by_cases h0 : len * ea.size = 0
      · have r3 : (List.replicate len zv.cells.toList).flatten.toArray = #[] := by rw [← r0, h0]; simp
        rw [r3] at r1'
        simp [execOp, ho, Instr.buildSlice, run_und hE ht, run_size hE he, a1', h0, show Array.range 0 = #[] from by simp, r1', newRow]
      · simp [execOp, ho, Instr.buildSlice, run_und hE ht, run_size hE he, a1', h0, z1, r0, r1', newRow]
    · cases hk
  · cases hk
theorem alloc_at {opsA : Array Oper} {o : Oper} {t : TypeId} (ho : o.op = .alloc t) {tm : Tr AV} {h : AH} {g : AV → AH → Bool} (hk : opK E (.alloc t) tm h g = true) :
    ∃ v cs e z m, g v ⟨m, h.nx + 1⟩ = true ∧ h.m.Put h.nx (.cells cs e z false) m ∧
      ∀ (σ : Sig) (hp : AH) (w : World) (act : Act), HRel C σ hp w → (∀ t ∈ o.looksAt opsA, VR σ (tget tm t) (act.tmps.getD t undef)) → ∃ vals zz, concL σ cs = some vals ∧
        (execOp act.eval o).run P w = .ok (.value zz) (w.alloc (.cells vals.toArray e)) ∧ ∀ σ' : Sig, σ' h.nx = some ⟨w.heap.size, 0, 0⟩ → conc σ' v = some zz := by
  simp only [opK] at hk
  split at hk
  · rename_i a ht
    obtain ⟨hz, hk⟩ := cond_t hk
    unfold varK at hk
    rw [ht] at hk
    simp only at hk
    obtain ⟨m, hg, hp⟩ := newK_spec hk
    refine ⟨_, _, t, 0, m, hg, hp, fun σ hp' w act k ha => ?_⟩
    obtain ⟨z, hzr, hzc⟩ := run_zero hE ht w hz
    refine ⟨z.cells.toList, .pointer (some ⟨w.heap.size, 0, none⟩), cells_conc (hzc σ), ?_, fun σ' h' => by simp [conc, h']⟩
    simp [execOp, ho, Instr.alloc, hzr, newVar, newRow]
  · cases hk
theorem make_at {opsA : Array Oper} {o : Oper} {t : TypeId} {l c : Operand} (ho : o.op = .makeSlice t l c) {tm : Tr AV} {h : AH} {g : AV → AH → Bool} (hk : opK E (.makeSlice t l c) tm h g = true) :
    ∃ v cs e z m, g v ⟨m, h.nx + 1⟩ = true ∧ h.m.Put h.nx (.cells cs e z false) m ∧
      ∀ (σ : Sig) (hp : AH) (w : World) (act : Act), HRel C σ hp w → (∀ t ∈ o.looksAt opsA, VR σ (tget tm t) (act.tmps.getD t undef)) → ∃ vals zz, concL σ cs = some vals ∧
        (execOp act.eval o).run P w = .ok (.value zz) (w.alloc (.cells vals.toArray e)) ∧ ∀ σ' : Sig, σ' h.nx = some ⟨w.heap.size, 0, 0⟩ → conc σ' v = some zz := by
  simp only [opK] at hk
  obtain ⟨lv, h1, r1⟩ := ev_raw hk
  obtain ⟨cv, h2, r2⟩ := ev_raw h1
  have hl : ∀ (σ : Sig) (hp : AH) (w : World) (tm2 : Tr AV) (ρ : Operand → Value), HRel C σ hp w → OpR σ tm2 ρ → Agree [l] tm tm2 → VR σ lv (ρ l) := fun σ hp w tm2 ρ k hr ha => by
    classical
    have := r1 (fun u => decide (u = lv)) (by simp)
    rw [ev_congr ha] at this
    obtain ⟨v, e1, e2⟩ := ev_spec (P := P) (C := C) hE this
    have : v = lv := by simpa using e1
    subst this
    exact e2 σ hp w ρ k hr
  have hc : ∀ (σ : Sig) (hp : AH) (w : World) (tm2 : Tr AV) (ρ : Operand → Value), HRel C σ hp w → OpR σ tm2 ρ → Agree [c] tm tm2 → VR σ cv (ρ c) := fun σ hp w tm2 ρ k hr ha => by
    classical
    have := r2 (fun u => decide (u = cv)) (by simp)
    rw [ev_congr ha] at this
    obtain ⟨v, e1, e2⟩ := ev_spec (P := P) (C := C) hE this
    have : v = cv := by simpa using e1
    subst this
    exact e2 σ hp w ρ k hr
  obtain ⟨kl, ln, rfl, h3⟩ := intN_spec h2
  obtain ⟨kc, cn, rfl, h4⟩ := intN_spec h3
  split at h4
  · rename_i e _ _ _ ht
    split at h4
    · rename_i ea he
      obtain ⟨h5, h6⟩ := cond_f h4
      simp only [both_eq, Bool.not_eq_true'] at h5
      obtain ⟨⟨a1, a2⟩, a3, a4, a5⟩ := h5
      have a1 := ble_eq a1
      have a2 := ble_eq a2
      have a3 := ble_eq a3
      have a5 := beq_eq a5
      obtain ⟨m, hg, hp⟩ := newK_spec (repK_spec hE _ _ _ h6)
      refine ⟨_, _, e, ea.size, m, hg, hp, fun σ hp' w act k ha => ?_⟩
      obtain ⟨tm2, n1, n2⟩ := narrow (o.looksAt opsA) tm act.tmps.size
      have hag := looks_operands hE n1
      rw [ho] at hag
      have htm := n2 σ act.tmps rfl ha
      have hopr : OpR σ tm2 act.eval := ⟨fun t => htm.2 t, fun _ => rfl, fun _ => rfl, fun _ => rfl⟩
      have e1 := (hl σ hp' w tm2 act.eval k hopr (hag.sub (by simp [Op.operands]))).conc (by simp)
      have e2 := (hc σ hp' w tm2 act.eval k hopr (hag.sub (by simp [Op.operands]))).conc (by simp)
      simp only [conc, Option.some.injEq] at e1 e2
      obtain ⟨zv, z1, z2, z3⟩ := zero_cells hE he a4 a5
      obtain ⟨i, i1, i2⟩ := run_bytes hE he w
      have w1 : IntKind.i64.wrap (ln : Int) = ln := wrap_in .i64 _ (Nat.ble_eq_true_of_le (by omega : _ ≤ 0x8000000000000000))
      have w2 : IntKind.i64.wrap (cn : Int) = cn := wrap_in .i64 _ (Nat.ble_eq_true_of_le (by omega : _ ≤ 0x8000000000000000))
      have hb : ea.bytes * cn ≤ 4294967296 := Nat.le_trans (Nat.mul_le_mul a3 a2) (by decide)
      refine ⟨(List.replicate cn zv.cells.toList).flatten, .slice (some ⟨w.heap.size, 0, none⟩) ln cn, concL_rep (z3 σ) cn, ?_, fun σ' h' => by simp [conc, h']⟩
      have r0 : (Array.range (cn * ea.size)).map (fun i => zv.cells[i % zv.cells.size]!) = (List.replicate cn zv.cells.toList).flatten.toArray := by
        apply Array.ext'; rw [← z2, range_rep']
      have hneg : ¬ ((cn : Int) < 0) := by omega
      have hbig : ¬ (281474976710656 < (ea.bytes : Int) * cn) := by
        have : ((ea.bytes * cn : Nat) : Int) ≤ 4294967296 := Int.ofNat_le.2 hb
        rw [Int.natCast_mul] at this; omega
      have hlc : ¬ ((cn : Int) < ln) := by omega
      have hl0 : ¬ ((ln : Int) < 0) := by omega
      rw [← r0]
      by_cases h0 : cn * ea.size = 0
      · simp [execOp, ho, Instr.makeSlice, ← e1, ← e2, run_und hE ht, asInt, asIntOf, i1, i2, w1, w2, hneg, hbig, hlc, hl0, run_size hE he, h0, show Array.range 0 = #[] from by simp, newRow]
      · simp [execOp, ho, Instr.makeSlice, ← e1, ← e2, run_und hE ht, asInt, asIntOf, i1, i2, w1, w2, hneg, hbig, hlc, hl0, run_size hE he, h0, z1, newRow]
    · cases h4
  · cases h4
def isNew (op : Op) : Bool :=
  match op with
  | .buildSlice _ _ _ | .alloc _ | .makeSlice _ _ _ => true
  | _ => false
theorem new_at {opsA : Array Oper} {o : Oper} (hn : isNew o.op = true) {tm : Tr AV} {h : AH} {g : AV → AH → Bool} (hk : opK E o.op tm h g = true) :
    ∃ v cs e z m, g v ⟨m, h.nx + 1⟩ = true ∧ h.m.Put h.nx (.cells cs e z false) m ∧
      ∀ (σ : Sig) (hp : AH) (w : World) (act : Act), HRel C σ hp w → (∀ t ∈ o.looksAt opsA, VR σ (tget tm t) (act.tmps.getD t undef)) → ∃ vals zz, concL σ cs = some vals ∧
        (execOp act.eval o).run P w = .ok (.value zz) (w.alloc (.cells vals.toArray e)) ∧ ∀ σ' : Sig, σ' h.nx = some ⟨w.heap.size, 0, 0⟩ → conc σ' v = some zz := by
  cases ho : o.op with
  | buildSlice t len ps => rw [ho] at hk; exact row_at hE ho hk
  | alloc t => rw [ho] at hk; exact alloc_at hE ho hk
  | makeSlice t l c => rw [ho] at hk; exact make_at hE ho hk
  | _ => rw [ho] at hn; cases hn
end
end Go.Refl
end
