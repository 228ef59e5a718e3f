/-
  A part of the proof of TopCrashRecovery: an abstract machine that the kernel runs, and its soundness.
-/
import Derived.Test.YtpncejdamjbnlaaGreatDoorRf
import Derived.RangeFuncLeaves
set_option linter.all false
section
namespace Go.Refl
open Go.RowKit
def ARel (σ : Sig) (args : List AV) (vals : List Value) : Prop := args.length = vals.length ∧ ∀ (i : Nat) v x, args[i]? = some v → vals[i]? = some x → VR σ v x
theorem ARel.mono {σ σ' : Sig} (h : σ.le σ') {args : List AV} {vals : List Value} (k : ARel σ args vals) : ARel σ' args vals := ⟨k.1, fun i v x a b => (k.2 i v x a b).mono h⟩
theorem ARel.of_conc {σ : Sig} {args : List AV} {vals : List Value} (h : concL σ args = some vals) : ARel σ args vals := ⟨(concL_length h).symm, fun i v x a b => by
  obtain ⟨z, hz, hc⟩ := concL_get h i v a
  rw [b] at hz; cases hz; exact .inr hc⟩
theorem ARel.append {σ : Sig} {a b : List AV} {x y : List Value} (h : ARel σ a x) (k : ARel σ b y) : ARel σ (a ++ b) (x ++ y) := ⟨by simp [h.1, k.1], fun i v z e1 e2 => by
  by_cases hi : i < a.length
  · rw [List.getElem?_append_left hi] at e1
    rw [List.getElem?_append_left (by rw [← h.1]; exact hi)] at e2
    exact h.2 i v z e1 e2
  · rw [List.getElem?_append_right (by omega)] at e1
    rw [List.getElem?_append_right (by rw [← h.1]; omega), ← h.1] at e2
    exact k.2 _ v z e1 e2⟩
inductive DR (σ : Sig) : ADef → Deferred → Prop
  | mark {b : Nat} {y : Loc} (h : σ b = some y) : DR σ (.mark b) { target := .collected y.blk, args := #[] }
  | call {f : FuncId} {args cap : List AV} {xs cs : List Value} (h1 : ARel σ args xs) (h2 : concL σ cap = some cs) : DR σ (.call f args cap) { target := .fn (.func f) cs.toArray, args := xs.toArray }
def DsR (σ : Sig) : List ADef → List Deferred → Prop
  | [], [] => True
  | d :: ds, e :: es => DR σ d e ∧ DsR σ ds es
  | _, _ => False
theorem DsR.mono {σ σ' : Sig} (h : σ.le σ') : ∀ {ds : List ADef} {es : List Deferred}, DsR σ ds es → DsR σ' ds es
  | [], [], _ => trivial
  | d :: ds, e :: es, ⟨h1, h2⟩ => ⟨by
      cases h1 with
      | mark hb => exact .mark (h _ _ hb)
      | call a b => exact .call (a.mono h) (concL_mono h _ _ b), h2.mono h⟩
  | [], _ :: _, h => h.elim
  | _ :: _, [], h => h.elim
structure FR (σ : Sig) (a : AF) (act : Act) : Prop where
  tm : TmR σ a.tm a.n act.tmps
  df : DsR σ a.df act.defers
theorem FR.mono {σ σ' : Sig} (h : σ.le σ') {a : AF} {act : Act} (k : FR σ a act) : FR σ' a act := ⟨k.tm.mono h, k.df.mono h⟩
theorem FR.opr {σ : Sig} {a : AF} {act : Act} (k : FR σ a act) : OpR σ a.tm act.eval :=
  ⟨fun t => k.tm.2 t, fun _ => rfl, fun _ => rfl, fun _ => rfl⟩
theorem undef_tup (σ : Sig) : VR σ (.tup []) undef := .inr (by simp [conc, concL, undef])
theorem put_spec {a : AF} {dst : Option Tmp} {v : AV} {k : AF → Bool} (hk : put a dst v k = true) : ∃ a', k a' = true ∧ ∀ σ act z, FR σ a act → VR σ v z → FR σ a' (act.put dst z) := by
  unfold put at hk
  split at hk
  · exact ⟨a, hk, fun σ act z h _ => h⟩
  · rename_i d
    obtain ⟨h1, h2⟩ := cond_f hk
    have h1 := bles_eq h1
    obtain ⟨tm, h3, h4⟩ := Tr.set_spec _ _ _ _ h2
    refine ⟨_, h3, fun σ act z h hv => ⟨⟨by show (act.tmps.setIfInBounds d z).size = _; simp [h.tm.1], fun i => ?_⟩, h.df⟩⟩
    show VR σ (tget tm i) ((act.tmps.setIfInBounds d z).getD i undef)
    have hs := h.tm.1
    unfold tget
    rw [h4 i]
    by_cases e : i = d
    · subst e
      simp [hs, h1]; exact hv
    · rw [if_neg e]
      have := h.tm.2 i
      unfold tget at this
      simpa [Array.getElem?_setIfInBounds, Ne.symm e] using this
def AExit.at (e : AExit) : Exit :=
  match e with
  | .normal => .normal
  | .exit id => .exit id
  | .goto l => .goto l
  | .ret => .ret
def AP (C : Ctx) (σ : Sig) (e : AExit) (a : AF) (h : AH) : Exit → Act → World → Prop := fun e' act w => e' = e.at ∧ ∃ σ', σ.le σ' ∧ HRel C σ' h w ∧ FR σ' a act
theorem AP.mono {C : Ctx} {σ σ' : Sig} (hl : σ.le σ') {e : AExit} {a : AF} {h : AH} {e' : Exit} {act : Act} {w : World} (k : AP C σ' e a h e' act w) : AP C σ e a h e' act w := by
  obtain ⟨h1, σ2, h2, h3, h4⟩ := k
  exact ⟨h1, σ2, hl.trans h2, h3, h4⟩
def fenceOf (σ : Sig) (rd : Option Nat) : Fence :=
  match rd with
  | none => Fence.wide
  | some l => Fence.wide.inRound ((σ l).elim 0 Loc.blk)
def RdOk (σ : Sig) (rd : Option Nat) : Prop := ∀ l, rd = some l → ∃ y, σ l = some y
theorem RdOk.mono {σ σ' : Sig} (hl : σ.le σ') {rd : Option Nat} (h : RdOk σ rd) : RdOk σ' rd := fun l e => by
  obtain ⟨y, hy⟩ := h l e
  exact ⟨y, hl _ _ hy⟩
theorem fence_mono {σ σ' : Sig} (hl : σ.le σ') {rd : Option Nat} (h : RdOk σ rd) : fenceOf σ' rd = fenceOf σ rd := by
  cases rd with
  | none => rfl
  | some l =>
    obtain ⟨y, hy⟩ := h l rfl
    simp [fenceOf, hy, hl _ _ hy]
theorem fence_fn (σ : Sig) (rd : Option Nat) (f : FuncId) : (fenceOf σ rd).fn f := by cases rd <;> trivial
theorem fence_depth (σ : Sig) (rd : Option Nat) : (fenceOf σ rd).depth.isSome = true → 1 ≤ 0 := by cases rd <;> simp [fenceOf, Fence.wide]
theorem fence_calls {σ : Sig} {rd : Option Nat} {n : Nat} {P : Program} {f : FuncId} {args : Array Value} {w : World} {R : Ending → World → Prop} (h : CallsIn Fence.wide n P f args w R) : CallsIn (fenceOf σ rd) n P f args w R := by
  cases rd <;> exact h
theorem fence_round {σ : Sig} {rd : Option Nat} {n : Nat} {P : Program} {l f : Nat} {tmps : Array Value} {assign body : Code} {w : World} {R : Ending → World → Prop} (h : RoundIn Fence.wide n P l f tmps assign body w R) :
    RoundIn (fenceOf σ rd) n P l f tmps assign body w R := by
  cases rd <;> exact h
def tkWp (F : Fence) (P : Program) (t : Tk) (Q : Exit → Act → World → Prop) (a : Act) (w : World) : Prop :=
  match t with
  | .code c => c.wpIn F 0 P Q a w
  | .scope body rest => ∀ (b : Frame) (k : List Item) (cs : List Frame), b.roundOf = F.round → F.fn b.fn → F.room (cs.length + 1 + 0) →
    ∃ e a' w', Q e a' w' ∧ ArrivesIn (Machine.fenced P F) P (lone (b.atR a (.code rest :: .inScope body :: k)) cs w) b k cs e a' w'
  | .loop body => ∀ (b : Frame) (k : List Item) (cs : List Frame), b.roundOf = F.round → F.fn b.fn → F.room (cs.length + 1 + 0) →
    ∃ e a' w', Q e a' w' ∧ ArrivesIn (Machine.fenced P F) P (lone (b.atR a (.code body :: .inLoop body :: k)) cs w) b k cs e a' w'
def Sound (P : Program) (C : Ctx) (rd : Option Nat) (t : Tk) (a : AF) (h : AH) (e : AExit) (a' : AF) (h' : AH) : Prop :=
  ∀ σ w act, HRel C σ h w → FR σ a act → RdOk σ rd → tkWp (fenceOf σ rd) P t (AP C σ e a' h') act w
def RecOk (P : Program) (C : Ctx) (rec : Rec) : Prop :=
  ∀ rd t a h k, rec rd t a h k = true → ∃ e a' h', k e a' h' = true ∧ Sound P C rd t a h e a' h'
def CP (C : Ctx) (σ : Sig) (v : AV) (h : AH) : Ending → World → Prop := fun e w => ∃ x σ', e = .returned x ∧ σ.le σ' ∧ HRel C σ' h w ∧ VR σ' v x
def CallOk (P : Program) (C : Ctx) (f : FuncId) (args : List AV) (h : AH) (v : AV) (h' : AH) : Prop :=
  (∀ w xs, (callFunc f xs).run P w = .ok (.enter f xs) w) ∧ ∀ σ w vals, HRel C σ h w → ARel σ args vals → CallsIn Fence.wide 0 P f vals.toArray w (CP C σ v h')
structure HookOk (P : Program) (E : Env) (C : Ctx) : Prop where
  hook : ∀ f args h g, E.hook f args h g = some true → ∃ v h', g v h' = true ∧ CallOk P C f args h v h'
  dhook : ∀ f args, E.dhook f args = true → (∀ w xs, (callFunc f xs).run P w = .ok (.enter f xs) w) ∧ ∀ σ h w vals, HRel C σ h w → ARel σ args vals →
    CallsDIn Fence.wide 0 P f vals.toArray .returning w fun e u w' => (∃ x, e = .returned x) ∧ u = .returning ∧ HRel C σ h w'
def AppOk (P : Program) (C : Ctx) (f : AV) (args : List AV) (h : AH) (v : AV) (h' : AH) : Prop :=
  ∀ σ rd w F vals, HRel C σ h w → VR σ f F → ARel σ args vals → ∃ d, (Deferred.ofValue F vals.toArray).run P w = .ok d w ∧
    ((∃ g xs, (invoke d.target d.args).run P w = .ok (.enter g xs) w ∧ CallsIn (fenceOf σ rd) 0 P g xs w (CP C σ v h')) ∨
     (∃ l g tmps assign body, (invoke d.target d.args).run P w = .ok (.round l g tmps assign body) w ∧ RoundIn (fenceOf σ rd) 0 P l g tmps assign body w (CP C σ v h')))
theorem conc_bool {σ : Sig} {v : AV} {b : Bool} (h : conc σ v = some (.bool b)) : v = .bool b := by
  cases v with
  | bool c => simp [conc] at h; rw [h]
  | fn f a c =>
    simp only [conc] at h
    cases ha : concL σ a with
    | none => rw [ha] at h; cases h
    | some x =>
      cases hc : concL σ c with
      | none => rw [ha, hc] at h; cases h
      | some y => rw [ha, hc] at h; cases h
  | str s => simp only [conc] at h; split at h <;> cases h
  | bad => cases h
  | int k n => cases h
  | pnil => cases h
  | snil => cases h
  | mnil => cases h
  | fnil => cases h
  | inil => cases h
  | _ => simp [conc] at h
section
variable {P : Program} {E : Env} {C : Ctx} (hE : EnvOk P E C)
include hE
def OperOk (P : Program) (C : Ctx) (rd : Option Nat) (o : Oper) (a : AF) (h : AH) (a' : AF) (h' : AH) : Prop :=
  ∀ σ w act K Q, HRel C σ h w → FR σ a act → RdOk σ rd → (∀ σ' act' w', σ.le σ' → HRel C σ' h' w' → FR σ' a' act' → K act' w') → o.wpIn (fenceOf σ rd) 0 P act w K Q
theorem wantK_spec {opsA : Array Oper} {o : Oper} {tm : Tr AV} {g : Bool → Bool} (hk : wantK opsA.toList o tm g = true) :
    ∃ b, g b = true ∧ ∀ σ n tmps, TmR σ tm n tmps → Region.wanted o (yielded opsA tmps) = b := by
  unfold wantK at hk
  unfold Region.wanted
  split at hk
  · rename_i hg
    exact ⟨true, hk, fun σ n tmps h => by rw [hg]⟩
  · rename_i j want hg
    rw [hg]
    simp only [nth_eq, Array.getElem?_toList] at hk
    simp only [yielded]
    split at hk
    · rename_i d _ _ _ _ _ ho
      simp only [ho, Option.bind_some]
      have hget : ∀ σ n (tmps : Array Value), TmR σ tm n tmps → VR σ (tget tm d) (tmps.getD d undef) := fun σ n tmps h => h.2 d
      cases ht : tm.get d with
      | none =>
        rw [ht] at hk
        refine ⟨false, hk, fun σ n tmps h => ?_⟩
        have := hget σ n tmps h
        unfold tget at this; rw [ht] at this
        have := this.conc (by simp)
        simp only [Option.getD_none, conc, concL, Option.map_some, Option.some.injEq] at this
        cases hd : tmps[d]? with
        | none => simp
        | some x =>
          have : x = .tuple #[] := by
            have e : tmps.getD d undef = x := by simp [Array.getD_eq_getD_getElem?, hd]
            rw [← e, ← this]
          subst this; rfl
      | some v =>
        rw [ht] at hk
        have hk2 : wantV want v g = true := hk
        have hv : ∀ σ n (tmps : Array Value), TmR σ tm n tmps → VR σ v (tmps.getD d undef) := fun σ n tmps h => by
          have := hget σ n tmps h; unfold tget at this; rw [ht] at this; exact this
        clear hget ht hk
        rename wantV want v g = true => hk
        unfold wantV at hk
        split at hk
        · rename_i b
          have hk := bBool_eq hk
          refine ⟨_, hk, fun σ n tmps h => ?_⟩
          have := (hv σ n tmps h).conc (by simp)
          simp only [conc, Option.some.injEq] at this
          cases hd : tmps[d]? with
          | none => simp [Array.getD_eq_getD_getElem?, hd, undef] at this
          | some x =>
            have e : tmps.getD d undef = x := by simp [Array.getD_eq_getD_getElem?, hd]
            rw [e] at this; subst this
            cases b <;> cases want <;> rfl
        · cases hk
        · rename_i hnb hnbad
          refine ⟨_, hk, fun σ n tmps h => ?_⟩
          have hc := (hv σ n tmps h).conc (fun e => hnbad e)
          cases hd : tmps[d]? with
          | none => simp
          | some x =>
            have e : tmps.getD d undef = x := by simp [Array.getD_eq_getD_getElem?, hd]
            rw [e] at hc
            cases x with
            | bool b => exact absurd (conc_bool hc) (hnb b)
            | _ => simp
    · rename_i hno
      refine ⟨_, hk, fun σ n tmps h => ?_⟩
      cases ho : opsA[j]? with
      | none => simp
      | some o' =>
        cases hd : o'.dst with
        | none => simp [hd]
        | some d =>
          exfalso
          obtain ⟨p, q, r, s, t, u⟩ := o'
          simp only at hd
          subst hd
          exact hno _ _ _ _ _ _ ho
end
end Go.Refl
end
section
namespace Go.Refl
open Go.RowKit
theorem initK_spec : ∀ (args : List AV) (i : Nat) (t : Tr AV) (g : Tr AV → Bool), initK args i t g = true →
    ∃ tm, g tm = true ∧ ∀ j, tget tm j = if i ≤ j ∧ j < i + args.length then args.getD (j - i) (.tup []) else tget t j
  | [], i, t, g, h => ⟨t, h, fun j => by rw [if_neg (by simp)]⟩
  | v :: args, i, t, g, h => by
    have h' : (t.set i v fun t => fn_ (Nat.succ i) fun i => initK args i t g) = true := h
    obtain ⟨t', h1, h2⟩ := Tr.set_spec _ _ _ _ h'
    rw [fn_eq] at h1
    obtain ⟨tm, h3, h4⟩ := initK_spec args (i + 1) t' g h1
    refine ⟨tm, h3, fun j => ?_⟩
    rw [h4 j]
    by_cases e1 : i + 1 ≤ j ∧ j < i + 1 + args.length
    · rw [if_pos e1, if_pos (by simp; omega)]
      obtain ⟨d, rfl⟩ : ∃ d, j = i + (d + 1) := ⟨j - i - 1, by omega⟩
      have a1 : i + (d + 1) - (i + 1) = d := by omega
      have a2 : i + (d + 1) - i = d + 1 := by omega
      rw [a1, a2]; simp
    · rw [if_neg e1]
      unfold tget
      rw [h2 j]
      by_cases e2 : j = i
      · subst e2; rw [if_pos rfl, if_pos (by simp)]; simp
      · rw [if_neg e2, if_neg (by simp; omega)]
section
variable {P : Program} {E : Env} {C : Ctx} (hE : EnvOk P E C)
include hE
theorem enters {f : FuncId} {fn : Func} {c : Code} (hf : E.fn.get f = some fn) (hb : fn.body = some c) (w : World) (xs : Array Value) : (callFunc f xs).run P w = .ok (.enter f xs) w := by
  obtain ⟨h1, h2⟩ := hE.fn f fn hf
  have h2 : ¬ fn.name = "runtime.NumGoroutine" := by simpa using h2
  simp [callFunc, program, Sem.run, h1, h2, hb]
theorem resK_spec {tm : Tr AV} {h : AH} : ∀ {rs : List ResultVar} {g : List AV → Bool}, resK E tm h rs g = true →
    ∃ vs, g vs = true ∧ ∀ σ w n tmps, HRel C σ h w → TmR σ tm n tmps → ∃ vals, concL σ vs = some vals ∧
      ∀ f : ResultVar → Sem Value, (∀ t, f (.tmp t) = pure (tmps.getD t undef)) → (∀ a t, f (.cell a t) = do loadVar t (← asAddr (tmps.getD a undef))) → (rs.mapM f : Sem (List Value)).run P w = .ok vals w
  | [], g, h => ⟨[], h, fun σ w n tmps _ _ => ⟨[], rfl, fun f _ _ => by simp⟩⟩
  | .tmp t :: rs, g, hk => by
    have hk' : ev E (.tmp t) tm (fun v => cond (isBad v) false (resK E tm h rs fun l => g (v :: l))) = true := hk
    obtain ⟨v, h1, h2⟩ := ev_spec (P := P) (C := C) hE hk'
    obtain ⟨hb, h3⟩ := cond_t h1
    obtain ⟨vs, h4, h5⟩ := resK_spec h3
    refine ⟨_, h4, fun σ w n tmps k ht => ?_⟩
    obtain ⟨vals, q1, q2⟩ := h5 σ w n tmps k ht
    have hv := (h2 σ h w (Act.eval { tmps, defers := [] }) k ⟨fun t => ht.2 t, fun _ => rfl, fun _ => rfl, fun _ => rfl⟩).conc' hb
    refine ⟨tmps.getD t undef :: vals, ?_, ?_⟩
    · have hv' : conc σ v = some (tmps.getD t undef) := hv
      simp only [concL, hv', q1, Option.bind_some, Option.map_some]
    · intro f hf1 hf2
      simp only [List.mapM_cons, hf1, Sem.run_bind, Sem.run_pure, Result.andThen_ok, q2 f hf1 hf2]
  | .cell a t :: rs, g, hk => by
    have hk' : ev E (.tmp a) tm (fun p => match p with
        | .ptr b o => loadK E t b o h fun v => resK E tm h rs fun l => g (v :: l)
        | _ => false) = true := hk
    obtain ⟨v, h1, h2⟩ := ev_spec (P := P) (C := C) hE hk'
    cases v with
    | ptr b o =>
      simp only at h1
      obtain ⟨v, h3, hbv, h4⟩ := loadK_spec (P := P) (C := C) hE h1
      obtain ⟨vs, h5, h6⟩ := resK_spec h3
      refine ⟨_, h5, fun σ w n tmps k ht => ?_⟩
      obtain ⟨vals, q1, q2⟩ := h6 σ w n tmps k ht
      have hv := (h2 σ h w (Act.eval { tmps, defers := [] }) k ⟨fun t => ht.2 t, fun _ => rfl, fun _ => rfl, fun _ => rfl⟩).conc (by simp)
      have hv : conc σ (.ptr b o) = some (tmps.getD a undef) := hv
      simp only [conc, Option.map_eq_some_iff] at hv
      obtain ⟨y, hy, he⟩ := hv
      obtain ⟨z, r1, r2⟩ := h4 σ w y k hy
      refine ⟨z :: vals, by simp only [concL, r2, q1, Option.bind_some, Option.map_some], fun f hf1 hf2 => ?_⟩
      have hA : (asAddr (tmps.getD a undef)).run P w = .ok ⟨y.blk, y.shift + o, none⟩ w := by rw [← he]; rfl
      simp only [List.mapM_cons, hf2, Sem.run_bind, hA, Sem.run_pure, Result.andThen_ok, r1, q2 f hf1 hf2]
    | _ => cases h1
theorem run_results {fn : Func} {tm : Tr AV} {h : AH} {g : AV → Bool} (hk : resK E tm h fn.results.toList (fun vs => match vs with | [v] => g v | vs => g (.tup vs)) = true) :
    ∃ v, g v = true ∧ ∀ σ w n tmps, HRel C σ h w → TmR σ tm n tmps → ∃ x, conc σ v = some x ∧ (results fn tmps).run P w = .ok x w := by
  obtain ⟨vs, h1, h2⟩ := resK_spec (P := P) (C := C) hE hk
  have run : ∀ σ w n tmps, HRel C σ h w → TmR σ tm n tmps → ∃ vals : List Value, concL σ vs = some vals ∧ (results fn tmps).run P w = .ok (if hh : vals.toArray.size = 1 then vals.toArray[0] else .tuple vals.toArray) w := fun σ w n tmps k ht => by
    obtain ⟨vals, q1, q2⟩ := h2 σ w n tmps k ht
    refine ⟨vals, q1, ?_⟩
    unfold results
    rw [Sem.run_bind, Array.mapM_eq_mapM_toList, Sem.run_map, q2 _ (fun _ => rfl) (fun _ _ => rfl)]
    rfl
  split at h1
  · rename_i v
    refine ⟨v, h1, fun σ w n tmps k ht => ?_⟩
    obtain ⟨vals, q1, q2⟩ := run σ w n tmps k ht
    simp only [concL] at q1
    cases hv : conc σ v with
    | none => rw [hv] at q1; cases q1
    | some x => rw [hv] at q1; cases q1; exact ⟨x, rfl, q2⟩
  · rename_i hne
    refine ⟨_, h1, fun σ w n tmps k ht => ?_⟩
    obtain ⟨vals, q1, q2⟩ := run σ w n tmps k ht
    have hl := concL_length q1
    have : ¬ vals.toArray.size = 1 := fun e => by
      simp at e
      rw [e] at hl
      match vs, hl with
      | [v], _ => exact hne v rfl
    rw [dif_neg this] at q2
    exact ⟨.tuple vals.toArray, by simp [conc, q1], q2⟩
theorem leaveK_spec (hH : HookOk P E C) : ∀ {ds : List ADef} {h : AH} {g : AH → Bool}, leaveK E ds h g = true →
    ∃ h', g h' = true ∧ ∀ σ w es fn tmps R, HRel C σ h w → DsR σ ds es → (∀ w', HRel C σ h' w' → LeavesInM Fence.wide 0 P fn tmps R [] .returning w') → LeavesInM Fence.wide 0 P fn tmps R es .returning w
  | [], h, g, hk => ⟨h, hk, fun σ w es fn tmps R k hd hl => by
    cases es with
    | nil => exact hl w k
    | cons e es => exact hd.elim⟩
  | .mark b :: ds, h, g, hk => by
    have hk' : (match h.m.get b with
        | some (.dfr false) => h.m.set b (.dfr true) fun m => leaveK E ds ⟨m, h.nx⟩ g
        | _ => false) = true := hk
    split at hk'
    · rename_i hb
      obtain ⟨m, h1, h2⟩ := Tr.set_spec _ _ _ _ hk'
      obtain ⟨h', h3, h4⟩ := leaveK_spec hH h1
      refine ⟨h', h3, fun σ w es fn tmps R k hd hl => ?_⟩
      cases es with
      | nil => exact hd.elim
      | cons e es =>
        obtain ⟨hd1, hd2⟩ := hd
        cases hd1 with
        | mark hy =>
          rename_i y
          have ho : w.heap[y.blk]? = some (.deferred (some [])) := k.obj b _ y hb hy
          have hlt := (Array.getElem?_eq_some_iff.1 ho).1
          refine ⟨by simp, .inl ⟨y.blk, { w with heap := w.heap.setIfInBounds y.blk (.deferred none) }, rfl, ?_, h4 σ _ es fn tmps R (turn_obj k hb hy rfl rfl h2 _ hlt rfl (by show _ = _; simp [hlt])) hd2 hl⟩⟩
          simp [Instr.takeDeferred, getObj, setObj, Sem.run, ho]
    · cases hk'
  | .call f args captured :: ds, h, g, hk => by
    have hk' : cond (E.dhook f (args ++ captured)) (leaveK E ds h g) false = true := hk
    obtain ⟨h0, h1⟩ := cond_f hk'
    obtain ⟨h', h3, h4⟩ := leaveK_spec hH h1
    obtain ⟨d1, d2⟩ := hH.dhook _ _ h0
    refine ⟨h', h3, fun σ w es fn tmps R k hd hl => ?_⟩
    cases es with
    | nil => exact hd.elim
    | cons e es =>
      obtain ⟨hd1, hd2⟩ := hd
      cases hd1 with
      | call ha hc =>
        rename_i xs cs
        refine ⟨by simp, .inr ⟨by simp [Fence.wide], .func f, cs.toArray, f, (xs ++ cs).toArray, rfl, ?_, fun _ _ => trivial, ?_⟩⟩
        · simp only [invoke]; rw [List.append_toArray]; exact d1 _ _
        · refine (d2 σ h w (xs ++ cs) k (ha.append (ARel.of_conc hc))).mono fun e u' w' hr => ?_
          obtain ⟨⟨x, rfl⟩, rfl, k'⟩ := hr
          exact h4 σ w' es fn tmps R k' hd2 hl
theorem callK_spec (hH : HookOk P E C) {rec : Rec} (hrec : RecOk P C rec) {f : FuncId} {args : List AV} {h : AH} {g : AV → AH → Bool} (hk : callK E rec f args h g = true) :
    ∃ v h', g v h' = true ∧ CallOk P C f args h v h' := by
  unfold callK at hk
  split at hk
  · rename_i r hr
    subst hk
    exact hH.hook _ _ _ _ hr
  · split at hk
    · cases hk
    · rename_i fn hf
      split at hk
      · cases hk
      · rename_i c hb
        obtain ⟨h1, h2⟩ := cond_f hk
        have h1 := ble_eq h1
        obtain ⟨tm, h3, h4⟩ := initK_spec _ _ _ _ h2
        obtain ⟨e, a', h', h5, h6⟩ := hrec _ _ _ _ _ h3
        have hend : ∃ v h2, g v h2 = true ∧ (e = .normal ∨ e = .ret) ∧ ∀ σ w act, HRel C σ h' w → FR σ a' act →
            ∀ R, (∀ e w', CP C σ v h2 e w' → R e w') → LeavesInM Fence.wide 0 P fn act.tmps R act.defers .returning w := by
          have key : ∀ (hk : leaveK E a'.df h' (fun h => resK E a'.tm h fn.results.toList fun vs => match vs with | [v] => g v h | vs => g (.tup vs) h) = true), ∃ v h2, g v h2 = true ∧ ∀ σ w act, HRel C σ h' w → FR σ a' act →
              ∀ R, (∀ e w', CP C σ v h2 e w' → R e w') → LeavesInM Fence.wide 0 P fn act.tmps R act.defers .returning w := fun hk => by
            obtain ⟨h2, q1, q2⟩ := leaveK_spec hE hH hk
            obtain ⟨v, q3, q4⟩ := run_results (P := P) (C := C) hE (g := fun v => g v h2) q1
            refine ⟨v, h2, q3, fun σ w act k hfr R hR => q2 σ w act.defers fn act.tmps _ k hfr.df fun w' k' => ?_⟩
            obtain ⟨x, r1, r2⟩ := q4 σ w' _ _ k' hfr.tm
            exact ⟨x, r2, hR _ _ ⟨x, σ, rfl, Sig.le.refl σ, k', .inr r1⟩⟩
          unfold endK at h5
          split at h5
          · obtain ⟨v, h2, a1, a2⟩ := key h5
            exact ⟨v, h2, a1, .inl rfl, a2⟩
          · obtain ⟨v, h2, a1, a2⟩ := key h5
            exact ⟨v, h2, a1, .inr rfl, a2⟩
          · cases h5
        obtain ⟨v, h2, b1, b2, b3⟩ := hend
        refine ⟨v, h2, b1, enters hE hf hb, fun σ w vals k ha => ?_⟩
        have hfn := (hE.fn f fn hf).1
        refine callsIn_of_wp_marks hfn hb trivial ?_
        have hlen : vals.toArray.size = args.length := by simp [ha.1]
        have hfr : FR σ ⟨tm, fn.ntmps, []⟩ { tmps := vals.toArray ++ Array.replicate (fn.ntmps - vals.toArray.size) undef, defers := [] } := by
          refine ⟨⟨by simp; have := ha.1; omega, fun i => ?_⟩, trivial⟩
          show VR σ (tget tm i) ((vals.toArray ++ Array.replicate (fn.ntmps - vals.toArray.size) undef).getD i undef)
          rw [h4 i]
          have hl := ha.1
          by_cases hi : i < args.length
          · rw [if_pos (by omega)]
            have e1 : args[i]? = some args[i] := List.getElem?_eq_getElem hi
            have e2 : vals[i]? = some (vals[i]'(by omega)) := List.getElem?_eq_getElem (by omega)
            have := ha.2 i _ _ e1 e2
            have e3 : (vals.toArray ++ Array.replicate (fn.ntmps - vals.toArray.size) undef).getD i undef = vals[i]'(by omega) := by
              rw [Array.getD_eq_getD_getElem?, Array.getElem?_append_left (by simp; omega)]; simp; rw [e2]; rfl
            rw [e3]
            simpa [List.getD_eq_getElem?_getD, e1] using this
          · rw [if_neg (by omega)]
            have e3 : (vals.toArray ++ Array.replicate (fn.ntmps - vals.toArray.size) undef).getD i undef = undef := by
              rw [Array.getD_eq_getD_getElem?, Array.getElem?_append_right (by simp; omega)]
              simp only [Array.getElem?_replicate]; split <;> rfl
            rw [e3]; exact undef_tup σ
        have hw := h6 σ w _ k hfr (fun l e => by cases e)
        refine wpIn_mono hw fun e' act' w' hq => ?_
        obtain ⟨rfl, σ', hle, k', hfr'⟩ := hq
        have hL2 := b3 σ' w' act' k' hfr' (CP C σ v h2) fun e w2 hc => by
          obtain ⟨x, σ2, c1, c2, c3⟩ := hc
          exact ⟨x, σ2, c1, hle.trans c2, c3⟩
        rcases b2 with rfl | rfl
        · exact hL2
        · exact hL2
end
end Go.Refl
end
section
namespace Go.Refl
open Go.RowKit
theorem zipPut_spec {n : Nat} : ∀ (ps : List Nat) (vs : List AV) (t : Tr AV) (g : Tr AV → Bool), zipPut n ps vs t g = true →
    ∃ t', g t' = true ∧ vs.length = ps.length ∧ ∀ σ (tmps : Array Value) (vals : List Value), TmR σ t n tmps → ARel σ vs vals → TmR σ t' n ((ps.zip vals).foldl (fun (tmps : Array Value) (x : Nat × Value) => tmps.setIfInBounds x.1 x.2) tmps)
  | [], [], t, g, h => ⟨t, h, rfl, fun σ tmps vals ht _ => by simpa using ht⟩
  | [], _ :: _, t, g, h => absurd (show false = true from h) (by decide)
  | p :: ps, [], t, g, h => absurd (show false = true from h) (by decide)
  | p :: ps, v :: vs, t, g, h => by
    have h' : cond (Nat.ble (Nat.succ p) n) (t.set p v fun t => zipPut n ps vs t g) false = true := h
    obtain ⟨h1, h2⟩ := cond_f h'
    have h1 := bles_eq h1
    obtain ⟨t', h3, h4⟩ := Tr.set_spec _ _ _ _ h2
    obtain ⟨t2, h5, h6, h7⟩ := zipPut_spec ps vs t' g h3
    refine ⟨t2, h5, by simp [h6], fun σ tmps vals ht hv => ?_⟩
    match vals, hv with
    | [], hv => exact absurd hv.1 (by simp)
    | x :: vals, hv =>
      simp only [List.zip_cons_cons, List.foldl_cons]
      refine h7 σ _ vals ⟨by simp [ht.1], fun i => ?_⟩ ⟨by simpa using hv.1, fun i v x a b => hv.2 (i + 1) v x (by simpa using a) (by simpa using b)⟩
      unfold tget
      rw [h4 i]
      by_cases e : i = p
      · subst e
        have := hv.2 0 v x (by simp) (by simp)
        simp [ht.1, h1]; exact this
      · rw [if_neg e]
        have := ht.2 i
        unfold tget at this
        simpa [Array.getElem?_setIfInBounds, Ne.symm e] using this
theorem HRel.same {C : Ctx} {σ : Sig} {h : AH} {w : World} (k : HRel C σ h w) {b : Nat} {ao : AO} (hb : h.m.get b = some ao) : h.m.Put b ao h.m := fun c => by
  by_cases e : c = b
  · subst e; rw [if_pos rfl, hb]
  · rw [if_neg e]
section
variable {P : Program} {E : Env} {C : Ctx} (hE : EnvOk P E C)
include hE
omit hE in
theorem jumpOf_none {e : AExit} : jumpOf e = none ↔ e = .normal := by cases e <;> simp [jumpOf]
theorem yieldK_spec {rec : Rec} (hrec : RecOk P C rec) {l : Nat} {args : List AV} {h : AH} {g : AV → AH → Bool} (hk : yieldK rec l args h g = true) :
    ∃ v h', g v h' = true ∧ ∀ σ w vals y, HRel C σ h w → σ l = some y → ARel σ args vals → ∃ fn tmps assign body,
      (Instr.yield y.blk vals.toArray).run P w = .ok (.round y.blk fn tmps assign body) w ∧ RoundIn Fence.wide 0 P y.blk fn tmps assign body w (CP C σ v h') := by
  unfold yieldK at hk
  split at hk
  · rename_i tm n ps assign body d hl
    obtain ⟨tm', h1, hlen, h2⟩ := zipPut_spec _ _ _ _ hk
    obtain ⟨e, a1, h3, h4, hs1⟩ := hrec _ _ _ _ _ h1
    split at h4
    · split at h4
      · rename_i tm2 n2 ps2 assign2 body2 d2 hl2
        obtain ⟨m, h5, hp⟩ := Tr.set_spec _ _ _ _ h4
        obtain ⟨e2, a2, h6, h7, hs2⟩ := hrec _ _ _ _ _ h5
        split at h7
        · rename_i tm3 n3 ps3 assign3 body3 d3 hl3
          have hfin : ∃ st pend h8 m3 v, g v h8 = true ∧ h8 = ⟨m3, h6.nx⟩ ∧ h6.m.Put l (.loop st pend tm3 n3 ps3 assign3 body3 d3) m3 ∧ pend = jumpOf e2 ∧ st = (if (jumpOf e2).isNone then .ready else .done) ∧ v = .bool (jumpOf e2).isNone := by
            split at h7
            · obtain ⟨m3, h8, hp3⟩ := Tr.set_spec _ _ _ _ h7
              exact ⟨_, _, _, m3, _, h8, rfl, hp3, rfl, rfl, rfl⟩
            · rename_i hne
              obtain ⟨m3, h8, hp3⟩ := Tr.set_spec _ _ _ _ h7
              have : (jumpOf e2).isNone = false := by
                cases hj : jumpOf e2 with
                | none => exact absurd (jumpOf_none.1 hj) (fun e => hne e)
                | some c => rfl
              exact ⟨_, _, _, m3, _, h8, rfl, hp3, rfl, by rw [this]; rfl, by rw [this]⟩
          obtain ⟨st, pend, h8, m3, v, hg, rfl, hp3, rfl, rfl, rfl⟩ := hfin
          refine ⟨_, _, hg, fun σ w vals y k hy ha => ?_⟩
          obtain ⟨fn, tmps, D, y', o1, o2, o3, o4⟩ := k.obj l _ y hl hy
          have hget : (getObj y.blk).run P w = .ok (.loop { state := .ready, pending := none, fn, tmps, params := ps, assign, body, defers := D }) w := by simp [getObj, Sem.run, o1]
          have hsz : vals.toArray.size = ps.size := by have := ha.1; simp; simp at hlen; omega
          refine ⟨fn, (ps.zip vals.toArray).foldl (fun tmps (t, a) => tmps.setIfInBounds t a) tmps, assign, body, by simp [Instr.yield, Instr.getLoop, hget, hsz, ha.1.symm ▸ hlen], ?_⟩
          refine roundIn_of_wpIn trivial ?_
          have htm : TmR σ tm' n ((ps.zip vals.toArray).foldl (fun tmps (t, a) => tmps.setIfInBounds t a) tmps) := by
            have := h2 σ tmps vals o2 ha
            rw [← Array.foldl_toList, Array.toList_zip]
            exact this
          have hw := hs1 σ w { tmps := _, defers := [] } k ⟨htm, trivial⟩ (fun l' e => by cases e; exact ⟨y, hy⟩)
          have hf1 : fenceOf σ (some l) = Fence.wide.inRound y.blk := by simp [fenceOf, hy]
          rw [hf1] at hw
          refine wpIn_mono hw fun e' act' w1 hq => ?_
          obtain ⟨rfl, σ1, hle1, k1, hfr1⟩ := hq
          show ∃ w₂, _
          have hy1 := hle1 _ _ hy
          obtain ⟨fn', tmps', D', y'', o1', o2', o3', o4'⟩ := k1.obj l _ y hl2 hy1
          have hlt1 := (Array.getElem?_eq_some_iff.1 o1').1
          have hget1 : (getObj y.blk).run P w1 = .ok (.loop { state := .ready, pending := none, fn := fn', tmps := tmps', params := ps2, assign := assign2, body := body2, defers := D' }) w1 := by simp [getObj, Sem.run, o1']
          have k2 := turn_obj k1 hl2 hy1 rfl rfl hp (.loop { state := .busy, pending := none, fn := fn', tmps := tmps', params := ps2, assign := assign2, body := body2, defers := D' }) hlt1 rfl
            ⟨fn', tmps', D', y'', by simp [hlt1], o2', o3', o4'⟩
          refine ⟨{ w1 with heap := w1.heap.setIfInBounds y.blk (.loop { state := .busy, pending := none, fn := fn', tmps := tmps', params := ps2, assign := assign2, body := body2, defers := D' }) }, ?_, ?_⟩
          · simp [Instr.beginRound, Instr.getLoop, hget1, setObj, Sem.run, o1']
          · have hw2 := hs2 σ1 _ act' k2 hfr1 (fun l' e => by cases e; exact ⟨y, hy1⟩)
            have hf2 : fenceOf σ1 (some l) = Fence.wide.inRound y.blk := by simp [fenceOf, hy1]
            rw [hf2] at hw2
            refine wpIn_mono hw2 fun e' act2 w2 hq => ?_
            obtain ⟨rfl, σ2, hle2, k3, hfr2⟩ := hq
            have hy2 := hle2 _ _ hy1
            obtain ⟨fn2, tmps2, D2, y2, q1, q2, q3, q4⟩ := k3.obj l _ y hl3 hy2
            have hlt2 := (Array.getElem?_eq_some_iff.1 q1).1
            have hget2 : (getObj y.blk).run P w2 = .ok (.loop { state := .busy, pending := none, fn := fn2, tmps := tmps2, params := ps3, assign := assign3, body := body3, defers := D2 }) w2 := by simp [getObj, Sem.run, q1]
            have k4 := turn_obj k3 hl3 hy2 rfl rfl hp3 (.loop { state := if (jumpOf e2).isNone then .ready else .done, pending := jumpOf e2, fn := fn2, tmps := tmps2, params := ps3, assign := assign3, body := body3, defers := D2 }) hlt2 rfl
              ⟨fn2, tmps2, D2, y2, by simp [hlt2], q2, q3, q4⟩
            have hend : (Instr.endRound y.blk (jumpOf e2)).run P w2 = .ok (.bool (jumpOf e2).isNone) { w2 with heap := w2.heap.setIfInBounds y.blk (.loop { state := if (jumpOf e2).isNone then .ready else .done, pending := jumpOf e2, fn := fn2, tmps := tmps2, params := ps3, assign := assign3, body := body3, defers := D2 }) } := by
              simp [Instr.endRound, Instr.getLoop, hget2, setObj, Sem.run, q1]
            have hR : CP C σ (.bool (jumpOf e2).isNone) ⟨m3, h6.nx⟩ (.returned (.bool (jumpOf e2).isNone)) { w2 with heap := w2.heap.setIfInBounds y.blk (.loop { state := if (jumpOf e2).isNone then .ready else .done, pending := jumpOf e2, fn := fn2, tmps := tmps2, params := ps3, assign := assign3, body := body3, defers := D2 }) } :=
              ⟨_, σ2, rfl, hle1.trans hle2, k4, .inr rfl⟩
            cases e2 <;> exact ⟨_, _, hend, hR⟩
        · cases h7
      · cases h4
    · cases h4
  · cases hk
theorem applyK_spec (hH : HookOk P E C) {rec : Rec} (hrec : RecOk P C rec) {f : AV} {args : List AV} {h : AH} {g : AV → AH → Bool} (hk : applyK E rec f args h g = true) :
    ∃ v h', g v h' = true ∧ AppOk P C f args h v h' := by
  unfold applyK at hk
  split at hk
  · rename_i f first captured
    obtain ⟨v, h', hg, h1, h2⟩ := callK_spec hE hH hrec hk
    refine ⟨v, h', hg, fun σ rd w F vals k hF ha => ?_⟩
    have := hF.conc (by simp)
    simp only [conc] at this
    cases hfi : concL σ first with
    | none => rw [hfi] at this; cases this
    | some fi =>
      cases hca : concL σ captured with
      | none => rw [hfi, hca] at this; cases this
      | some ca =>
        rw [hfi, hca] at this
        simp only [Option.bind_some, Option.map_some, Option.some.injEq] at this
        subst this
        refine ⟨_, rfl, .inl ⟨f, (fi ++ vals ++ ca).toArray, ?_, fence_calls (h2 σ w _ k (((ARel.of_conc hfi).append ha).append (ARel.of_conc hca)))⟩⟩
        simp only [invoke]
        rw [List.append_toArray, List.append_toArray]
        exact h1 _ _
  · rename_i l
    obtain ⟨v, h', hg, h1⟩ := yieldK_spec hE hrec hk
    refine ⟨v, h', hg, fun σ rd w F vals k hF ha => ?_⟩
    have := hF.conc (by simp)
    simp only [conc, Option.map_eq_some_iff] at this
    obtain ⟨y, hy, rfl⟩ := this
    obtain ⟨fn, tmps, assign, body, r1, r2⟩ := h1 σ w vals y k hy ha
    refine ⟨_, rfl, .inr ⟨_, _, _, _, _, ?_, fence_round r2⟩⟩
    simp only [invoke]
    simpa using r1
  · cases hk
omit hE in
theorem about_any {σ : Sig} {rd : Option Nat} {o : Oper} {w : World} {act : Act} : ∀ f, o.about P w act.eval = some f → (fenceOf σ rd).fn f := fun f _ => fence_fn σ rd f
theorem operK_spec (hH : HookOk P E C) {rec : Rec} (hrec : RecOk P C rec) {rd : Option Nat} {o : Oper} {a : AF} {h : AH} {k : AF → AH → Bool} (hk : operK E rec rd o a h k = true) :
    ∃ a' h', k a' h' = true ∧ OperOk P C rd o a h a' h' := by
  obtain ⟨dst, op, type, pos, after, guard⟩ := o
  unfold operK at hk
  split at hk
  ·
    rename_i f args tys heq
    simp only at heq
    subst heq
    obtain ⟨fv, h1, hf⟩ := ev_spec (P := P) (C := C) hE hk
    obtain ⟨vs, h2, hl, hv⟩ := evL_spec (P := P) (C := C) hE h1
    obtain ⟨v, h', h3, happ⟩ := applyK_spec hE hH hrec h2
    obtain ⟨a', h4, hput⟩ := put_spec h3
    refine ⟨a', h', h4, fun σ w act K Q kr hfr hrd hK => ⟨about_any, ?_⟩⟩
    have ha : ARel σ vs (args.toList.map act.eval) := ⟨by simp [hl], fun i v x e1 e2 => by
      rw [List.getElem?_map] at e2
      cases ho : args.toList[i]? with
      | none => rw [ho] at e2; cases e2
      | some o => rw [ho] at e2; cases e2; exact hv σ h w act.eval kr hfr.opr i v o e1 ho⟩
    obtain ⟨d, hd, hcase⟩ := happ σ rd w (act.eval f) (args.toList.map act.eval) kr (hf σ h w act.eval kr hfr.opr) ha
    rw [Oper.semAt_eq _ _ _ (fun c e => by cases e)]
    have hargs : (args.map act.eval) = (args.toList.map act.eval).toArray := by apply Array.ext'; simp
    have hexec : ∀ r w', (invoke d.target d.args).run P w = .ok r w' → (execOp act.eval ⟨dst, .call ⟨.value f, args, tys⟩, type, pos, after, guard⟩).run P w = .ok r w' := fun r w' hr => by
      simp only [execOp, resolve, hargs, Sem.run_bind, hd, Result.andThen_ok, hr]
    have next : ∀ e w'', CP C σ v h' e w'' → (match e with
        | .returned u => K (act.put dst u) w''
        | .panicked chain => Q (.panic chain) act w''
        | .outgrown => LetsOut Q) := fun e w'' hc => by
      obtain ⟨x, σ', rfl, hle, k', hx⟩ := hc
      exact hK σ' _ _ hle k' (hput σ' act x (hfr.mono hle) hx)
    rcases hcase with ⟨g, xs, hi, hcall⟩ | ⟨l, g, tmps, assign, body, hi, hround⟩
    · rw [hexec _ _ hi]
      exact ⟨fence_depth σ rd, hcall.mono fun e w'' hc => by have := next e w'' hc; cases e <;> exact this⟩
    · rw [hexec _ _ hi]
      exact ⟨fence_depth σ rd, hround.mono fun e w'' hc => by have := next e w'' hc; cases e <;> exact this⟩
  ·
    rename_i f args tys heq
    simp only at heq
    subst heq
    cases rd with
    | some l => exact absurd hk (by simp)
    | none =>
      simp only at hk
      obtain ⟨fv, h1, hf⟩ := ev_spec (P := P) (C := C) hE hk
      obtain ⟨vs, h2, hl, hv⟩ := evL_spec (P := P) (C := C) hE h1
      split at h2
      · rename_i f' first captured
        obtain ⟨a', h4, hput⟩ := put_spec h2
        refine ⟨a', h, h4, fun σ w act K Q kr hfr hrd hK => ⟨about_any, ?_⟩⟩
        have ha : ARel σ vs (args.toList.map act.eval) := ⟨by simp [hl], fun i v x e1 e2 => by
          rw [List.getElem?_map] at e2
          cases ho : args.toList[i]? with
          | none => rw [ho] at e2; cases e2
          | some o => rw [ho] at e2; cases e2; exact hv σ h w act.eval kr hfr.opr i v o e1 ho⟩
        have hargs : (args.map act.eval) = (args.toList.map act.eval).toArray := by apply Array.ext'; simp
        have := (hf σ h w act.eval kr hfr.opr).conc (by simp)
        simp only [conc] at this
        cases hfi : concL σ first with
        | none => rw [hfi] at this; cases this
        | some fi =>
          cases hca : concL σ captured with
          | none => rw [hfi, hca] at this; cases this
          | some ca =>
            rw [hfi, hca] at this
            simp only [Option.bind_some, Option.map_some, Option.some.injEq] at this
            have hexec : (Oper.semAt (fenceOf σ none).round act.eval ⟨dst, .defer ⟨.value f, args, tys⟩, type, pos, after, guard⟩).run P w =
                .ok (.defer { target := .fn (.func f') ca.toArray, args := (fi ++ args.toList.map act.eval).toArray }) w := by
              show (execOp act.eval ⟨dst, .defer ⟨.value f, args, tys⟩, type, pos, after, guard⟩).run P w = _
              simp only [execOp, resolve, hargs, ← this, Deferred.ofValue, Sem.run_bind, Sem.run_pure, Result.andThen_ok]
              rw [List.append_toArray]
            rw [hexec]
            have hfr2 : FR σ ⟨a.tm, a.n, .call f' (first ++ vs) captured :: a.df⟩ { act with defers := { target := .fn (.func f') ca.toArray, args := (fi ++ args.toList.map act.eval).toArray } :: act.defers } :=
              ⟨hfr.tm, .call ((ARel.of_conc hfi).append ha) hca, hfr.df⟩
            exact hK σ _ _ (Sig.le.refl σ) kr (hput σ _ undef hfr2 (undef_tup σ))
      · cases h2
  ·
    rename_i hnc hnd
    obtain ⟨v, h', h1, hop⟩ := opK_spec hE hk
    obtain ⟨a', h4, hput⟩ := put_spec h1
    refine ⟨a', h', h4, fun σ w act K Q kr hfr hrd hK => ⟨about_any, ?_⟩⟩
    obtain ⟨σ', n, z, w', hle, hr, k', hn, hz⟩ := hop σ w act.eval ⟨dst, op, type, pos, after, guard⟩ rfl kr hfr.opr
    have hnd' : ∀ c, op ≠ .defer c := fun c e => by
      subst e
      exact absurd (show false = true from hk) (by decide)
    rw [Oper.semAt_eq _ _ _ hnd', hr]
    rcases hn with rfl | ⟨rfl, rfl⟩
    · exact hK σ' _ _ hle k' (hput σ' act z (hfr.mono hle) hz)
    · exact hK σ' _ _ hle k' (hput σ' act undef (hfr.mono hle) hz)
end
end Go.Refl
end
section
namespace Go.Refl
open Go.RowKit
section scopes
variable {b : Frame} {a : Act} {k : List Item} {cs : List Frame} {w : World} {P : Program}
theorem stepR_scope {c : Code} : step P (lone (b.atR a (.code (.scope c) :: k)) cs w) = .next (lone (b.atR a (.code c :: .inScope c :: k)) cs w) :=
  step_lone_go (by simp [stepG, stepG.exec, Frame.atR])
theorem stepR_inScope {c : Code} : step P (lone (b.atR a (.inScope c :: k)) cs w) = .next (lone (b.atR a k) cs w) :=
  step_lone_go (by simp [stepG, stepG.exec, Frame.atR])
end scopes
section
variable {P : Program} {E : Env} {C : Ctx} (hE : EnvOk P E C)
include hE
theorem opsK_spec (hH : HookOk P E C) {rec : Rec} (hrec : RecOk P C rec) {rd : Option Nat} {opsA : Array Oper} : ∀ (l : List Oper) (i : Nat), opsA.toList.drop i = l → ∀ {a : AF} {h : AH} {k : AF → AH → Bool}, opsK E rec rd opsA.toList l a h k = true →
    ∃ a' h', k a' h' = true ∧ ∀ σ w act Q, HRel C σ h w → FR σ a act → RdOk σ rd → (∀ σ' act' w', σ.le σ' → HRel C σ' h' w' → FR σ' a' act' → Q .normal act' w') →
      wpOpsIn (fenceOf σ rd) 0 P opsA Q (List.range' i l.length) act w
  | [], i, hd, a, h, k, hk => ⟨a, h, hk, fun σ w act Q kr hfr hrd hQ => hQ σ act w (Sig.le.refl σ) kr hfr⟩
  | o :: l, i, hd, a, h, k, hk => by
    have hk' : wantK opsA.toList o a.tm (fun w => cond w (operK E rec rd o a h fun a h => opsK E rec rd opsA.toList l a h k) (put a o.dst (.tup []) fun a => opsK E rec rd opsA.toList l a h k)) = true := hk
    obtain ⟨bw, h1, hw⟩ := wantK_spec (E := E) (C := C) hE hk'
    have hi : opsA[i]? = some o := by
      have : (opsA.toList.drop i)[0]? = some o := by rw [hd]; rfl
      rw [List.getElem?_drop] at this; simpa using this
    have hd' : opsA.toList.drop (i + 1) = l := by
      rw [← List.drop_drop, hd]; rfl
    cases bw with
    | true =>
      obtain ⟨a1, h2, h3, ho⟩ := operK_spec hE hH hrec (show operK E rec rd o a h (fun a h => opsK E rec rd opsA.toList l a h k) = true from h1)
      obtain ⟨a', h', h4, hs⟩ := opsK_spec hH hrec l (i + 1) hd' h3
      refine ⟨a', h', h4, fun σ w act Q kr hfr hrd hQ => ?_⟩
      simp only [List.length_cons, List.range'_succ, wpOpsIn, hi, hw σ a.n act.tmps hfr.tm, if_true]
      refine ho σ w act _ Q kr hfr hrd fun σ' act' w' hle k' hfr' => ?_
      rw [← fence_mono hle hrd]
      exact hs σ' w' act' Q k' hfr' (hrd.mono hle) fun σ2 act2 w2 hle2 => hQ σ2 act2 w2 (hle.trans hle2)
    | false =>
      obtain ⟨a1, h3, hput⟩ := put_spec (show put a o.dst (.tup []) (fun a => opsK E rec rd opsA.toList l a h k) = true from h1)
      obtain ⟨a', h', h4, hs⟩ := opsK_spec hH hrec l (i + 1) hd' h3
      refine ⟨a', h', h4, fun σ w act Q kr hfr hrd hQ => ?_⟩
      simp only [List.length_cons, List.range'_succ, wpOpsIn, hi, hw σ a.n act.tmps hfr.tm, Bool.false_eq_true, if_false]
      exact ⟨fun f _ => fence_fn σ rd f, hs σ w _ Q kr (hput σ act undef hfr (undef_tup σ)) hrd hQ⟩
theorem opsK_region (hH : HookOk P E C) {rec : Rec} (hrec : RecOk P C rec) {rd : Option Nat} {id : Nat} {opsA : Array Oper} {a : AF} {h : AH} {k : AF → AH → Bool} (hk : opsK E rec rd opsA.toList opsA.toList a h k = true) :
    ∃ a' h', k a' h' = true ∧ Sound P C rd (.code (.region id opsA false)) a h .normal a' h' := by
  obtain ⟨a', h', h1, h2⟩ := opsK_spec hE hH hrec opsA.toList 0 rfl hk
  refine ⟨a', h', h1, fun σ w act kr hfr hrd => wpIn_region ?_⟩
  have := h2 σ w act (AP C σ .normal a' h') kr hfr hrd fun σ' act' w' hle k' hfr' => ⟨rfl, σ', hle, k', hfr'⟩
  rw [List.range_eq_range']
  simpa using this
theorem scopeK_spec {rec : Rec} (hrec : RecOk P C rec) {rd : Option Nat} {body : Code} {k : AExit → AF → AH → Bool} {e : AExit} {a : AF} {h : AH} (hk : scopeK rec rd body k e a h = true) :
    ∃ e' a' h', k e' a' h' = true ∧ ∀ (σ : Sig) (act : Act) (w : World), HRel C σ h w → FR σ a act → RdOk σ rd → ∀ (σ0 : Sig), σ0.le σ → ∀ (m : Machine) (b : Frame) (kk : List Item) (cs : List Frame), b.roundOf = (fenceOf σ rd).round → (fenceOf σ rd).fn b.fn →
      ArrivesIn (Machine.fenced P (fenceOf σ rd)) P m b (.inScope body :: kk) cs e.at act w →
      ∃ e2 act2 w2, AP C σ0 e' a' h' e2 act2 w2 ∧ ArrivesIn (Machine.fenced P (fenceOf σ rd)) P m b kk cs e2 act2 w2 := by
  cases e with
  | normal =>
    refine ⟨.normal, a, h, hk, fun σ act w kr hfr hrd σ0 hle m b kk cs hro hfn harr => ⟨.normal, act, w, ⟨rfl, σ, hle, kr, hfr⟩, ?_⟩⟩
    refine StepsIn.trans harr (.one (fenced_calm (n := 0) hfn ?_ rfl) stepR_inScope)
    cases rd <;> exact fun _ h => by simp [fenceOf, Fence.wide] at h
  | exit id =>
    refine ⟨.exit id, a, h, hk, fun σ act w kr hfr hrd σ0 hle m b kk cs hro hfn harr => ⟨.exit id, act, w, ⟨rfl, σ, hle, kr, hfr⟩, ?_⟩⟩
    have hx : exitTo id (.inScope body :: kk) = exitTo id kk := by simp [exitTo]
    exact ⟨fun k' hk' => harr.1 k' (by rw [hx]; exact hk'), fun hr' hk' => harr.2 hr' (by rw [hx]; exact hk')⟩
  | ret =>
    exact ⟨.ret, a, h, hk, fun σ act w kr hfr hrd σ0 hle m b kk cs hro hfn harr => ⟨.ret, act, w, ⟨rfl, σ, hle, kr, hfr⟩, harr⟩⟩
  | goto l =>
    unfold scopeK at hk
    simp only at hk
    split at hk
    · rename_i rest hf
      obtain ⟨e', a', h', h1, h2⟩ := hrec _ _ _ _ _ hk
      refine ⟨e', a', h', h1, fun σ act w kr hfr hrd σ0 hle m b kk cs hro hfn harr => ?_⟩
      have hroom : (fenceOf σ rd).room (cs.length + 1 + 0) := by cases rd <;> exact fun _ h => by simp [fenceOf, Fence.wide] at h
      obtain ⟨e2, act2, w2, q1, q2⟩ := h2 σ w act kr hfr hrd b kk cs hro hfn hroom
      have hg : gotoIn l (.inScope body :: kk) = some (.code rest :: .inScope body :: kk) := by simp [gotoIn, hf]
      exact ⟨e2, act2, w2, q1.mono hle, .of_steps (harr.1 _ hg) q2⟩
    · rename_i hf
      refine ⟨.goto l, a, h, hk, fun σ act w kr hfr hrd σ0 hle m b kk cs hro hfn harr => ⟨.goto l, act, w, ⟨rfl, σ, hle, kr, hfr⟩, ?_⟩⟩
      have hx : gotoIn l (.inScope body :: kk) = gotoIn l kk := by simp [gotoIn, hf]
      exact ⟨fun k' hk' => harr.1 k' (by rw [hx]; exact hk'), fun hr' hk' => harr.2 hr' (by rw [hx]; exact hk')⟩
theorem rangeK_spec (hH : HookOk P E C) {rec : Rec} (hrec : RecOk P C rec) {rd : Option Nat} {f : Operand} {ps : Array Tmp} {assign body : Code} {a : AF} {h : AH} {k : AExit → AF → AH → Bool} (hk : rangeK E rec rd f ps assign body a h k = true) :
    ∃ e a' h', k e a' h' = true ∧ Sound P C rd (.code (.rangeFunc f ps assign body)) a h e a' h' := by
  have hmark : ∃ (d : Nat) (mark : List ADef) (h1 : AH), (newK h1 (.loop .ready none a.tm a.n ps assign body d) fun l h => ev E f a.tm fun f => match f with
      | .fn f first captured => callK E rec f (first ++ [AV.yield l] ++ captured) h fun _ h =>
        match h.m.get l with
        | some (.loop st pending tm n ps assign body d) =>
          match st with
          | .busy => false
          | _ => h.m.set l (.loop .exhausted pending tm n ps assign body d) fun m => pendK rec rd pending ⟨a.tm, a.n, mark ++ a.df⟩ ⟨m, h.nx⟩ k
        | _ => false
      | _ => false) = true ∧ ∀ σ w act, HRel C σ h w → FR σ a act → RdOk σ rd → ∀ fn, ∃ (σ1 : Sig) (w1 : World) (D : Nat) (ds : List Deferred) (y : Loc), σ.le σ1 ∧ HRel C σ1 h1 w1 ∧ σ1 d = some y ∧ y.blk = D ∧ DsR σ1 (mark ++ a.df) (ds ++ act.defers) ∧
        True ∧ (Instr.enterLoop fn act.tmps ps assign body (fenceOf σ rd).round).run P w = .ok (w1.heap.size, ds) (w1.alloc (.loop { state := .ready, pending := none, fn, tmps := act.tmps, params := ps, assign, body, defers := D })) := by
    unfold rangeK at hk
    cases rd with
    | none =>
      simp only at hk
      obtain ⟨m, h1, hp⟩ := newK_spec hk
      refine ⟨_, [.mark h.nx], _, h1, fun σ w act kr hfr hrd fn => ?_⟩
      refine ⟨σ.put h.nx ⟨w.heap.size, 0, 0⟩, w.alloc (.deferred (some [])), w.heap.size, [{ target := .collected w.heap.size, args := #[] }], ⟨w.heap.size, 0, 0⟩, kr.lp _,
        kr.new hp 0 0 _ (fun σ' _ => alloc_get _ _), Sig.put_same _ _ _, rfl, ⟨.mark (Sig.put_same _ _ _), hfr.df.mono (kr.lp _)⟩, trivial, ?_⟩
      simp [Instr.enterLoop, fenceOf, Fence.wide]
    | some l0 =>
      simp only at hk
      split at hk
      · rename_i st pend tm n ps0 as0 bo0 d hl
        refine ⟨d, [], h, hk, fun σ w act kr hfr hrd fn => ?_⟩
        obtain ⟨y0, hy0⟩ := hrd l0 rfl
        obtain ⟨fn0, tmps0, D, y, o1, o2, o3, o4⟩ := kr.obj l0 _ y0 hl hy0
        have hget : (getObj y0.blk).run P w = .ok (.loop { state := st, pending := pend, fn := fn0, tmps := tmps0, params := ps0, assign := as0, body := bo0, defers := D }) w := by simp [getObj, Sem.run, o1]
        refine ⟨σ, w, D, [], y, Sig.le.refl σ, kr, o3, o4, hfr.df, trivial, ?_⟩
        simp [Instr.enterLoop, fenceOf, hy0, Instr.getLoop, hget]
      · cases hk
  obtain ⟨d, mark, h1, hk1, henter⟩ := hmark
  obtain ⟨m, hk2, hp⟩ := newK_spec hk1
  obtain ⟨fv, hk3, hf⟩ := ev_spec (P := P) (C := C) hE hk2
  split at hk3
  · rename_i f' first captured
    obtain ⟨v, h3, hk4, hent, hcall⟩ := callK_spec hE hH hrec hk3
    split at hk4
    · rename_i st pending tm3 n3 ps3 assign3 body3 d3 hl3
      have hend : ∃ m3, h3.m.Put h1.nx (.loop .exhausted pending tm3 n3 ps3 assign3 body3 d3) m3 ∧ st ≠ .busy ∧ pendK rec rd pending ⟨a.tm, a.n, mark ++ a.df⟩ ⟨m3, h3.nx⟩ k = true := by
        cases st with
        | busy => cases hk4
        | ready => obtain ⟨m3, q1, q2⟩ := Tr.set_spec _ _ _ _ hk4; exact ⟨m3, q2, by simp, q1⟩
        | done => obtain ⟨m3, q1, q2⟩ := Tr.set_spec _ _ _ _ hk4; exact ⟨m3, q2, by simp, q1⟩
        | exhausted => obtain ⟨m3, q1, q2⟩ := Tr.set_spec _ _ _ _ hk4; exact ⟨m3, q2, by simp, q1⟩
      obtain ⟨m3, hp3, hst, hk5⟩ := hend
      have hgo : ∃ e a' h', k e a' h' = true ∧ ∀ σ w act, HRel C σ ⟨m3, h3.nx⟩ w → FR σ ⟨a.tm, a.n, mark ++ a.df⟩ act → RdOk σ rd → ∀ σ0, σ0.le σ →
          (pending = none → AP C σ0 e a' h' .normal act w) ∧ (∀ c, pending = some c → c.wpIn (fenceOf σ rd) 0 P (AP C σ0 e a' h') act w) := by
        unfold pendK at hk5
        split at hk5
        · exact ⟨_, _, _, hk5, fun σ w act kr hfr hrd σ0 hle => ⟨fun _ => ⟨rfl, σ, hle, kr, hfr⟩, fun c e => by cases e⟩⟩
        · rename_i c _ _
          obtain ⟨e, a', h', q1, q2⟩ := hrec _ _ _ _ _ hk5
          exact ⟨e, a', h', q1, fun σ w act kr hfr hrd σ0 hle => ⟨(fun e => by cases e), fun c' e => by cases e; exact wpIn_mono (q2 σ w act kr hfr hrd) fun e' act' w' hq => hq.mono hle⟩⟩
      obtain ⟨e, a', h', hk6, hgo⟩ := hgo
      refine ⟨e, a', h', hk6, fun σ w act kr hfr hrd => wpIn_rangeFunc fun fn _ => ?_⟩
      obtain ⟨σ1, w1, D, ds, y, hle1, k1, hd1, hd2, hdf, _, hrun⟩ := henter σ w act kr hfr hrd fn
      have k2 := k1.new hp 0 0 (.loop { state := .ready, pending := none, fn, tmps := act.tmps, params := ps, assign, body, defers := D }) fun σ' hle => ⟨fn, act.tmps, D, y, alloc_get _ _, (hfr.tm.mono (hle1.trans hle)), hle _ _ hd1, hd2⟩
      have hle2 := k1.lp ⟨w1.heap.size, 0, 0⟩
      generalize (w1.alloc (.loop { state := .ready, pending := none, fn, tmps := act.tmps, params := ps, assign, body, defers := D })) = w2 at k2 hrun
      generalize hσ2 : σ1.put h1.nx ⟨w1.heap.size, 0, 0⟩ = σ2 at k2 hle2
      have hy2 : σ2 h1.nx = some ⟨w1.heap.size, 0, 0⟩ := by rw [← hσ2]; exact Sig.put_same _ _ _
      have hF := (hf σ2 _ _ act.eval k2 ((hfr.mono (hle1.trans hle2)).opr)).conc (by simp)
      simp only [conc] at hF
      cases hfi : concL σ2 first with
      | none => rw [hfi] at hF; cases hF
      | some fi =>
        cases hca : concL σ2 captured with
        | none => rw [hfi, hca] at hF; cases hF
        | some ca =>
          rw [hfi, hca] at hF
          simp only [Option.bind_some, Option.map_some, Option.some.injEq] at hF
          have hy : concL σ2 [AV.yield h1.nx] = some [.func (.yield w1.heap.size) #[] #[]] := by simp [concL, conc, hy2]
          refine ⟨w1.heap.size, ds, w2, { target := .fn (.func f') ca.toArray, args := (fi ++ [Value.func (.yield w1.heap.size) #[] #[]]).toArray }, w2, f', (fi ++ [Value.func (.yield w1.heap.size) #[] #[]] ++ ca).toArray, w2, hrun, ?_, fun f _ => fence_fn σ rd f, ?_, fence_depth σ rd, ?_⟩
          · simp only [resolve, rangeCall, ← hF, Deferred.ofValue, Sem.run_pure]
            have : (fi ++ [Value.func (.yield w1.heap.size) #[] #[]]).toArray = fi.toArray ++ Array.map act.eval #[Operand.const (Value.func (Fn.yield w1.heap.size) #[] #[])] := by
              apply Array.ext'; simp [Act.eval]
            rw [this]
          · simp only [invoke]
            rw [List.append_toArray]
            exact hent _ _
          · refine (fence_calls (hcall σ2 _ _ k2 (((ARel.of_conc hfi).append (ARel.of_conc hy)).append (ARel.of_conc hca)))).mono fun e' w3 hq => ?_
            obtain ⟨x, σ3, rfl, hle3, k3, hx⟩ := hq
            have hy3 := hle3 _ _ hy2
            obtain ⟨fn3, tmps3, D3, y3, q1, q2, q3, q4⟩ := k3.obj _ _ _ hl3 hy3
            have hlt3 := (Array.getElem?_eq_some_iff.1 q1).1
            have hget3 : (getObj w1.heap.size).run P w3 = .ok (.loop { state := st, pending := pending, fn := fn3, tmps := tmps3, params := ps3, assign := assign3, body := body3, defers := D3 }) w3 := by simp [getObj, Sem.run, q1]
            have k4 := turn_obj k3 hl3 hy3 rfl rfl hp3 (.loop { state := .exhausted, pending := pending, fn := fn3, tmps := tmps3, params := ps3, assign := assign3, body := body3, defers := D3 }) hlt3 rfl
              ⟨fn3, tmps3, D3, y3, by simp [hlt3], q2, q3, q4⟩
            have hle13 := (hle1.trans hle2).trans hle3
            refine ⟨pending, { w3 with heap := w3.heap.setIfInBounds w1.heap.size (.loop { state := .exhausted, pending := pending, fn := fn3, tmps := tmps3, params := ps3, assign := assign3, body := body3, defers := D3 }) }, ?_, ?_⟩
            · have hnb : (st == .busy) = false := by cases st <;> first | rfl | exact absurd rfl hst
              simp [Instr.endLoop, Instr.getLoop, hget3, hnb, hst, setObj, Sem.run, q1]
            · have hfr4 : FR σ3 ⟨a.tm, a.n, mark ++ a.df⟩ { act with defers := ds ++ act.defers } := ⟨hfr.tm.mono hle13, hdf.mono (hle2.trans hle3)⟩
              have := hgo σ3 _ { act with defers := ds ++ act.defers } k4 hfr4 (hrd.mono hle13) σ hle13
              rw [fence_mono hle13 hrd] at this
              cases pending with
              | none => exact this.1 rfl
              | some c => exact this.2 c rfl
    · cases hk4
  · cases hk3
abbrev Drawn := Rec → Option Nat → List Oper → AF → AH → (AF → AH → Bool) → Bool
def DrawnOk (P : Program) (C : Ctx) (drawn : Drawn) : Prop :=
  ∀ rec, RecOk P C rec → ∀ rd id (opsA : Array Oper) a h k, drawn rec rd opsA.toList a h k = true → ∃ a' h', k a' h' = true ∧ Sound P C rd (.code (.region id opsA true)) a h .normal a' h'
theorem stepK_ok (hH : HookOk P E C) {drawn : Drawn} (hD : DrawnOk P C drawn) {rec : Rec} (hrec : RecOk P C rec) : RecOk P C (stepK E drawn rec) := by
  intro rd t a h k hk
  have room : ∀ σ (m : Nat), (fenceOf σ rd).room m := fun σ m => by cases rd <;> exact fun _ h => by simp [fenceOf, Fence.wide] at h
  cases t with
  | scope body rest =>
    obtain ⟨e, a1, h1, h2, hs⟩ := hrec _ _ _ _ _ (show rec rd (.code rest) a h (fun e a h => scopeK rec rd body k e a h) = true from hk)
    obtain ⟨e', a', h', h3, hs2⟩ := scopeK_spec hE hrec h2
    refine ⟨e', a', h', h3, fun σ w act kr hfr hrd b kk cs hro hfn hr => ?_⟩
    obtain ⟨e1, act1, w1, ⟨rfl, σ1, hle1, k1, hfr1⟩, harr⟩ := hs σ w act kr hfr hrd b (.inScope body :: kk) cs hro hfn hr
    have hf := fence_mono hle1 hrd
    have := hs2 σ1 act1 w1 k1 hfr1 (hrd.mono hle1) σ hle1
    rw [hf] at this
    exact this _ b kk cs hro hfn harr
  | loop b =>
    obtain ⟨e, a1, h1, h2, hs⟩ := hrec _ _ _ _ _ (show rec rd (.code b) a h (fun e a h => match e with
      | .normal => rec rd (.loop b) a h k
      | e => k e a h) = true from hk)
    cases e with
    | normal =>
      obtain ⟨e', a', h', h3, hs2⟩ := hrec _ _ _ _ _ (show rec rd (.loop b) a1 h1 k = true from h2)
      refine ⟨e', a', h', h3, fun σ w act kr hfr hrd bb kk cs hro hfn hr => ?_⟩
      obtain ⟨e1, act1, w1, ⟨rfl, σ1, hle1, k1, hfr1⟩, harr⟩ := hs σ w act kr hfr hrd bb (.inLoop b :: kk) cs hro hfn hr
      have := hs2 σ1 w1 act1 k1 hfr1 (hrd.mono hle1)
      rw [fence_mono hle1 hrd] at this
      obtain ⟨e2, act2, w2, q1, q2⟩ := this bb kk cs hro hfn hr
      exact ⟨e2, act2, w2, q1.mono hle1, .of_steps (StepsIn.trans harr (.one (fenced_calm hfn hr rfl) stepR_inLoop)) q2⟩
    | exit id =>
      refine ⟨_, _, _, h2, fun σ w act kr hfr hrd bb kk cs hro hfn hr => ?_⟩
      obtain ⟨e1, act1, w1, ⟨rfl, hq⟩, harr⟩ := hs σ w act kr hfr hrd bb (.inLoop b :: kk) cs hro hfn hr
      exact ⟨_, act1, w1, ⟨rfl, hq⟩, .pass (x := .inLoop b) rfl (fun _ _ => .inl (by simp [AExit.at])) harr⟩
    | goto l =>
      refine ⟨_, _, _, h2, fun σ w act kr hfr hrd bb kk cs hro hfn hr => ?_⟩
      obtain ⟨e1, act1, w1, ⟨rfl, hq⟩, harr⟩ := hs σ w act kr hfr hrd bb (.inLoop b :: kk) cs hro hfn hr
      exact ⟨_, act1, w1, ⟨rfl, hq⟩, .pass (x := .inLoop b) rfl (fun _ _ => .inl (by simp [AExit.at])) harr⟩
    | ret =>
      refine ⟨_, _, _, h2, fun σ w act kr hfr hrd bb kk cs hro hfn hr => ?_⟩
      obtain ⟨e1, act1, w1, ⟨rfl, hq⟩, harr⟩ := hs σ w act kr hfr hrd bb (.inLoop b :: kk) cs hro hfn hr
      exact ⟨_, act1, w1, ⟨rfl, hq⟩, .pass (x := .inLoop b) rfl (fun _ _ => .inl (by simp [AExit.at])) harr⟩
  | code c =>
    cases c with
    | skip => exact ⟨_, _, _, (show k .normal a h = true from hk), fun σ w act kr hfr hrd => wpIn_skip ⟨rfl, σ, Sig.le.refl σ, kr, hfr⟩⟩
    | label l => exact ⟨_, _, _, (show k .normal a h = true from hk), fun σ w act kr hfr hrd => wpIn_label ⟨rfl, σ, Sig.le.refl σ, kr, hfr⟩⟩
    | exit id => exact ⟨_, _, _, (show k (.exit id) a h = true from hk), fun σ w act kr hfr hrd => wpIn_exit ⟨rfl, σ, Sig.le.refl σ, kr, hfr⟩⟩
    | goto l => exact ⟨_, _, _, (show k (.goto l) a h = true from hk), fun σ w act kr hfr hrd => wpIn_goto ⟨rfl, σ, Sig.le.refl σ, kr, hfr⟩⟩
    | ret => exact ⟨_, _, _, (show k .ret a h = true from hk), fun σ w act kr hfr hrd => wpIn_ret ⟨rfl, σ, Sig.le.refl σ, kr, hfr⟩⟩
    | refuse s => exact absurd (show false = true from hk) (by decide)
    | region id ops draw =>
      cases draw with
      | false =>
        obtain ⟨a', h', h1, h2⟩ := opsK_region hE hH hrec (id := id) (show opsK E rec rd ops.toList ops.toList a h (fun a h => k .normal a h) = true from hk)
        exact ⟨.normal, a', h', h1, h2⟩
      | true =>
        obtain ⟨a', h', h1, h2⟩ := hD rec hrec rd id ops a h _ (show drawn rec rd ops.toList a h (fun a h => k .normal a h) = true from hk)
        exact ⟨.normal, a', h', h1, h2⟩
    | seq x y =>
      obtain ⟨e, a1, h1, h2, hs⟩ := hrec _ _ _ _ _ (show rec rd (.code x) a h (fun e a h => match e with
        | .normal => rec rd (.code y) a h k
        | e => k e a h) = true from hk)
      cases e with
      | normal =>
        obtain ⟨e', a', h', h3, hs2⟩ := hrec _ _ _ _ _ (show rec rd (.code y) a1 h1 k = true from h2)
        refine ⟨e', a', h', h3, fun σ w act kr hfr hrd => wpIn_seq (wpIn_mono (hs σ w act kr hfr hrd) fun e1 act1 w1 hq => ?_)⟩
        obtain ⟨rfl, σ1, hle1, k1, hfr1⟩ := hq
        have := hs2 σ1 w1 act1 k1 hfr1 (hrd.mono hle1)
        rw [fence_mono hle1 hrd] at this
        exact wpIn_mono this fun e2 act2 w2 hq => hq.mono hle1
      | exit id => exact ⟨_, _, _, h2, fun σ w act kr hfr hrd => wpIn_seq (wpIn_mono (hs σ w act kr hfr hrd) fun e1 act1 w1 hq => by obtain ⟨rfl, hq⟩ := hq; exact ⟨rfl, hq⟩)⟩
      | goto l => exact ⟨_, _, _, h2, fun σ w act kr hfr hrd => wpIn_seq (wpIn_mono (hs σ w act kr hfr hrd) fun e1 act1 w1 hq => by obtain ⟨rfl, hq⟩ := hq; exact ⟨rfl, hq⟩)⟩
      | ret => exact ⟨_, _, _, h2, fun σ w act kr hfr hrd => wpIn_seq (wpIn_mono (hs σ w act kr hfr hrd) fun e1 act1 w1 hq => by obtain ⟨rfl, hq⟩ := hq; exact ⟨rfl, hq⟩)⟩
    | cond c x y =>
      obtain ⟨v, h1, hv⟩ := ev_spec (P := P) (C := C) hE (show ev E c a.tm (fun c => match c with
        | .bool b => cond b (rec rd (.code x) a h k) (rec rd (.code y) a h k)
        | _ => false) = true from hk)
      split at h1
      · rename_i b
        have hb : ∀ σ w act, HRel C σ h w → FR σ a act → act.eval c = .bool b := fun σ w act kr hfr => by
          have := (hv σ h w act.eval kr hfr.opr).conc (by simp)
          simp only [conc, Option.some.injEq] at this; exact this.symm
        cases b with
        | true =>
          obtain ⟨e', a', h', h3, hs⟩ := hrec _ _ _ _ _ (show rec rd (.code x) a h k = true from h1)
          exact ⟨e', a', h', h3, fun σ w act kr hfr hrd => wpIn_cond_true (hb σ w act kr hfr) (hs σ w act kr hfr hrd)⟩
        | false =>
          obtain ⟨e', a', h', h3, hs⟩ := hrec _ _ _ _ _ (show rec rd (.code y) a h k = true from h1)
          exact ⟨e', a', h', h3, fun σ w act kr hfr hrd => wpIn_cond_false (hb σ w act kr hfr) (hs σ w act kr hfr hrd)⟩
      · cases h1
    | block id b =>
      obtain ⟨e, a1, h1, h2, hs⟩ := hrec _ _ _ _ _ (show rec rd (.code b) a h (fun e a h => match e with
        | .exit i => cond (Nat.beq i id) (k .normal a h) (k (.exit i) a h)
        | e => k e a h) = true from hk)
      cases e with
      | normal => exact ⟨_, _, _, h2, fun σ w act kr hfr hrd => wpIn_block (wpIn_mono (hs σ w act kr hfr hrd) fun e1 act1 w1 hq => by obtain ⟨rfl, hq⟩ := hq; exact ⟨rfl, hq⟩)⟩
      | exit i =>
        rcases cond_eq (show cond (Nat.beq i id) (k .normal a1 h1) (k (.exit i) a1 h1) = true from h2) with ⟨hi, h3⟩ | ⟨hi, h3⟩
        · have hi := beq_eq hi
          refine ⟨_, _, _, h3, fun σ w act kr hfr hrd => wpIn_block (wpIn_mono (hs σ w act kr hfr hrd) fun e1 act1 w1 hq => ?_)⟩
          obtain ⟨rfl, hq⟩ := hq
          simp only [AExit.at, Exit.inBlock, hi, if_true]
          exact ⟨rfl, hq⟩
        · have hi : i ≠ id := fun e => by subst e; simp at hi
          refine ⟨_, _, _, h3, fun σ w act kr hfr hrd => wpIn_block (wpIn_mono (hs σ w act kr hfr hrd) fun e1 act1 w1 hq => ?_)⟩
          obtain ⟨rfl, hq⟩ := hq
          simp only [AExit.at, Exit.inBlock, hi, if_false]
          exact ⟨rfl, hq⟩
      | goto l => exact ⟨_, _, _, h2, fun σ w act kr hfr hrd => wpIn_block (wpIn_mono (hs σ w act kr hfr hrd) fun e1 act1 w1 hq => by obtain ⟨rfl, hq⟩ := hq; exact ⟨rfl, hq⟩)⟩
      | ret => exact ⟨_, _, _, h2, fun σ w act kr hfr hrd => wpIn_block (wpIn_mono (hs σ w act kr hfr hrd) fun e1 act1 w1 hq => by obtain ⟨rfl, hq⟩ := hq; exact ⟨rfl, hq⟩)⟩
    | loop b =>
      obtain ⟨e', a', h', h3, hs⟩ := hrec _ _ _ _ _ (show rec rd (.loop b) a h k = true from hk)
      refine ⟨e', a', h', h3, fun σ w act kr hfr hrd bb kk cs hro hfn hr => ?_⟩
      obtain ⟨e1, act1, w1, q1, q2⟩ := hs σ w act kr hfr hrd bb kk cs hro hfn hr
      exact ⟨e1, act1, w1, q1, .of_steps (.one (fenced_calm hfn hr rfl) stepR_loop) q2⟩
    | rangeFunc f ps assign body => exact rangeK_spec hE hH hrec (show rangeK E rec rd f ps assign body a h k = true from hk)
    | scope b =>
      obtain ⟨e, a1, h1, h2, hs⟩ := hrec _ _ _ _ _ (show rec rd (.code b) a h (fun e a h => scopeK rec rd b k e a h) = true from hk)
      obtain ⟨e', a', h', h3, hs2⟩ := scopeK_spec hE hrec h2
      refine ⟨e', a', h', h3, fun σ w act kr hfr hrd bb kk cs hro hfn hr => ?_⟩
      obtain ⟨e1, act1, w1, ⟨rfl, σ1, hle1, k1, hfr1⟩, harr⟩ := hs σ w act kr hfr hrd bb (.inScope b :: kk) cs hro hfn hr
      have hf := fence_mono hle1 hrd
      have := hs2 σ1 act1 w1 k1 hfr1 (hrd.mono hle1) σ hle1
      rw [hf] at this
      obtain ⟨e2, act2, w2, q1, q2⟩ := this _ bb kk cs hro hfn harr
      exact ⟨e2, act2, w2, q1, .of_steps (.one (fenced_calm hfn hr rfl) stepR_scope) q2⟩
theorem run_ok (hH : HookOk P E C) {drawn : Drawn} (hD : DrawnOk P C drawn) : ∀ n, RecOk P C (run E drawn n)
  | 0 => fun rd t a h k hk => absurd (show false = true from hk) (by decide)
  | n + 1 => stepK_ok hE hH hD (run_ok hH hD n)
end
end Go.Refl
end
