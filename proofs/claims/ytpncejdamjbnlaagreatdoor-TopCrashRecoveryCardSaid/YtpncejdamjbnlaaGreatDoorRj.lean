/-
  A part of the proof of TopCrashRecovery: an abstract machine that the kernel runs, and its soundness.
-/
import Derived.Test.YtpncejdamjbnlaaGreatDoorRi
set_option linter.all false
section
namespace Go.Refl
open Go.RowKit
section
variable {P : Program} {E : Env} {C : Ctx} (hE : EnvOk P E C)
include hE
theorem enter_spec {bs : Bool} {opsA : Array Oper} {i : Nat} {o : Oper} {a : AF} {h : AH} {g : En → AF → AH → Bool} (hk : enterK bs E opsA.toList i o a h g = true) :
    ∃ e a' h', g e a' h' = true ∧ e.i = i ∧ e.o = o ∧ e.tm = a.tm ∧ a'.n = a.n ∧ a'.df = a.df ∧ (∀ t, tget a'.tm t = if o.dst = some t then e.v else tget a.tm t) ∧ (∀ d, o.dst = some d → d < a.n) ∧
      EnOk C P E opsA e ∧ (e.rowOf = none ∧ h' = h ∨ ∃ m ao, e.rowOf = some h.nx ∧ h.m.Put h.nx ao m ∧ h' = ⟨m, h.nx + 1⟩) := by
  unfold enterK at hk
  obtain ⟨b, h1, hw⟩ := wantK_raw hk
  cases b with
  | false =>
    obtain ⟨a', h2, q1, q2, q3, q4⟩ := put_raw (show put a o.dst (.tup []) (fun a' => g ⟨i, o, a.tm, .tup [], .skip⟩ a' h) = true from h1)
    exact ⟨_, a', h, h2, rfl, rfl, rfl, q1, q2, q3, q4, ⟨hw (· == false) rfl, rfl⟩, .inl ⟨rfl, rfl⟩⟩
  | true =>
    simp only [cond_true] at h1
    split at h1
    · rename_i hc
      have hm : isMove o.op = true := by
        revert hc
        unfold cls
        cases bs <;> cases isSlice o.op <;> cases isNew o.op <;> cases isMove o.op <;> cases isPure o.op <;> cases isRead o.op <;> decide
      have e1 : opK E o.op a.tm h (fun v _ => put a o.dst v fun a' => g ⟨i, o, a.tm, v, .move⟩ a' h) = true := h1
      obtain ⟨v, h2, r2⟩ := move_raw hm e1
      obtain ⟨a', h3, q1, q2, q3, q4⟩ := put_raw h2
      exact ⟨_, a', h, h3, rfl, rfl, rfl, q1, q2, q3, q4, ⟨hw (· == true) rfl, r2⟩, .inl ⟨rfl, rfl⟩⟩
    · rename_i hc
      have hpr : isPure o.op = true ∨ isRead o.op = true := by
        revert hc
        unfold cls
        cases bs <;> cases isSlice o.op <;> cases isNew o.op <;> cases isMove o.op <;> cases isPure o.op <;> cases isRead o.op <;> decide
      obtain ⟨v, h', h2, _⟩ := opK_spec (P := P) (C := C) hE h1
      obtain ⟨a', h3, q1, q2, q3, q4⟩ := put_raw h2
      exact ⟨_, a', h, h3, rfl, rfl, rfl, q1, q2, q3, q4, ⟨hw (· == true) rfl, hpr⟩, .inl ⟨rfl, rfl⟩⟩
    · rename_i hc
      have hn : isNew o.op = true := by
        revert hc
        unfold cls
        cases bs <;> cases isSlice o.op <;> cases isNew o.op <;> cases isMove o.op <;> cases isPure o.op <;> cases isRead o.op <;> decide
      obtain ⟨v, cs, e, z, m, h2, hput, hfact⟩ := new_at (P := P) (C := C) hE (opsA := opsA) hn h1
      simp only at h2
      rw [hput h.nx, if_pos rfl] at h2
      simp only [Nat.succ_eq_add_one, cond_true, show Nat.beq (h.nx + 1) (h.nx + 1) = true from by simp] at h2
      obtain ⟨a', h3, q1, q2, q3, q4⟩ := put_raw h2
      exact ⟨_, a', _, h3, rfl, rfl, rfl, q1, q2, q3, q4, ⟨hw (· == true) rfl, hfact⟩, .inr ⟨m, _, rfl, hput, rfl⟩⟩
    · cases h1
variable {opsA : Array Oper} {p : Plan} (hp : PlanOk opsA p)
include hp
omit hE in
theorem EsOk.act {bs : Bool} {pre rest : List Nat} {x : Nat} {o : Oper} (hpi : p.full = pre ++ x :: rest) (ho : opsA[x]? = some o) {es : List En} {a a' : AF} {h h' : AH} (hes : EsOk bs C P E opsA p.Ps pre es a h) {v : AV}
    (hn : a'.n = a.n) (ht : ∀ t, tget a'.tm t = if o.dst = some t then v else tget a.tm t) : EsOk bs C P E opsA p.Ps (pre ++ [x]) (closeL (maskAt p.Ps x) es) a' h' := by
  have hsub : ∀ e ∈ closeL (maskAt p.Ps x) es, e ∈ es := fun e he => (closeL_mem.1 he).1
  have hxpre : x ∉ pre := fun hm => by
    have h2 := hp.nodup
    rw [hpi, List.nodup_append] at h2
    exact absurd rfl (h2.2.2 x hm x (by simp))
  refine ⟨fun e he => ?_, fun e he d hd => ?_, fun e he => hes.ok e (hsub e he), fun k hk j hj => hes.pair k (hsub k hk) j (hsub j hj), fun k hk j hj => hes.uniq k (hsub k hk) j (hsub j hj)⟩
  · obtain ⟨h1, h2, h3⟩ := hes.at_ e (hsub e he)
    exact ⟨h1, by simp [h2], h3⟩
  · obtain ⟨h1, h2⟩ := hes.dst e (hsub e he) d hd
    obtain ⟨h3, h4, _⟩ := hes.at_ e (hsub e he)
    refine ⟨by rw [hn]; exact h1, ?_⟩
    rw [ht d, if_neg fun e1 => hxpre ?_]
    · exact h2
    · rw [← hp.dst e.i x e.o o d h3 ho hd e1]; exact h4
omit hE in
theorem St.act {bs : Bool} {pre rest : List Nat} {x : Nat} {o : Oper} (hpi : p.full = pre ++ x :: rest) (ho : opsA[x]? = some o) {es : List En} {a a' : AF} {h h1 : AH} {σ σ' : Sig} {w w' : World} {act act' : Act} {D : List En} {listed : Array Bool}
    (hes : EsOk bs C P E opsA p.Ps pre es a h) (st : St C opsA p.Ps pre es a h σ w act D listed) (hr : x ∈ Region.ready .any opsA listed) {v : AV} {z : Value} (hle : σ.le σ') (kr : HRel C σ' h1 w') (htm : act'.tmps = act.tmps) (hdf : DsR σ' a'.df act'.defers)
    (hv : VR σ' v z) (hn : a'.n = a.n) (ht : ∀ t, tget a'.tm t = if o.dst = some t then v else tget a.tm t) (hd : ∀ d, o.dst = some d → d < a.n) :
    St C opsA p.Ps (pre ++ [x]) (closeL (maskAt p.Ps x) es) a' h1 σ' w' (act'.put o.dst z) D (listed.setIfInBounds x true) := by
  obtain ⟨hlt, hun⟩ := listed_not hp st hr
  have hmask := ready_mask hp st.closed ho hr
  have hxpre : x ∉ pre := fun hm => by
    have h2 := hp.nodup
    rw [hpi, List.nodup_append] at h2
    exact absurd rfl (h2.2.2 x hm x (by simp))
  have hDpre : ∀ e ∈ D, e.i ∈ pre := fun e he => (hes.at_ e (st.sub e he)).2.1
  refine ⟨kr, by rw [put_size, htm, hn]; exact st.size, fun t hD => ?_, by rw [put_df]; exact hdf, fun k hk t hlk => ?_, fun k hk b hb => ?_, fun e he => ?_, st.apart, by simp [st.lsize], fun i hi => ?_, fun i hi j hj => ?_⟩
  · by_cases e1 : o.dst = some t
    · rw [put_get e1 (by rw [htm, st.size]; exact hd t e1), ht t, if_pos e1]; exact hv
    · rw [put_get_ne e1, ht t, if_neg e1, htm]; exact (st.tm t hD).mono hle.get
  · have hkat := (hes.at_ k (st.sub k hk)).1
    rcases st.looks k hk t hlk with h | h
    · exact .inl h
    · right
      have e1 : o.dst ≠ some t := fun e1 => by
        have hki : k.i ≠ x := fun e => hxpre (e ▸ hDpre k hk)
        rcases hp.look k.i x k.o o t hkat ho hki e1 hlk with hb | hb
        · exact hxpre (before hp hpi (hDpre k hk) x hb)
        · have h2 := hmask k.i hb
          exact absurd rfl (((st.told k.i (Array.getElem?_eq_some_iff.1 hkat).1).1 h2).2 k hk)
      rw [put_get_ne e1, htm]; exact h.mono hle.get
  · obtain ⟨q1, q2⟩ := st.rows k hk b hb
    exact ⟨hle.not b q2 q1, Nat.lt_of_lt_of_le q2 hle.nx⟩
  · refine closeL_mem.2 ⟨st.sub e he, ?_⟩
    cases hb : bit (maskAt p.Ps x) e.i with
    | false => rfl
    | true =>
      have h2 := hmask e.i hb
      have hat := (hes.at_ e (st.sub e he)).1
      exact absurd rfl (((st.told e.i (Array.getElem?_eq_some_iff.1 hat).1).1 h2).2 e he)
  · rw [getD_set _ _ _ (by rw [st.lsize]; exact hlt)]
    by_cases e1 : x = i
    · subst e1
      simp only [if_true, true_iff]
      exact ⟨by simp, fun e he e2 => hxpre (e2 ▸ hDpre e he)⟩
    · rw [if_neg e1, st.told i hi]
      simp [Ne.symm e1]
  · rw [getD_set _ _ _ (by rw [st.lsize]; exact hlt)] at hi ⊢
    by_cases e2 : x = j
    · rw [if_pos e2]
    · rw [if_neg e2]
      by_cases e1 : x = i
      · subst e1; exact hmask j hj
      · rw [if_neg e1] at hi; exact st.closed i hi j hj
omit hp in
theorem store_at (hH : HookOk P E C) {rec : Rec} (hrec : RecOk P C rec) {rd : Option Nat} {t p1 v1 : Nat} {ty : TypeId} {pos : String} {after : Array Edge} {a : AF} {h h1 : AH} {b o : Nat} (hb : tget a.tm p1 = .ptr b o)
    (hk : ∀ g : AH → Bool, g h1 = true → storeK E t b o (tget a.tm v1) h g = true) : ∃ v, OperAt P C rd opsA { dst := none, op := .store t (.tmp p1) (.tmp v1), type := ty, pos := pos, after := after, guard := none } a h v a.df h1 := by
  classical
  have hop : operK E rec rd { dst := none, op := .store t (.tmp p1) (.tmp v1), type := ty, pos := pos, after := after, guard := none } a h (fun a' h' => decide (h' = h1 ∧ a' = a)) = true := by
    show opK E (.store t (.tmp p1) (.tmp v1)) a.tm h (fun v h' => put a none v fun a' => decide (h' = h1 ∧ a' = a)) = true
    simp only [opK, ev_tmp, hb]
    exact hk _ (by unfold put; simp)
  obtain ⟨v, df, h', q1, q2⟩ := operK_at hE hH hrec (opsA := opsA) hop
  unfold put at q1
  simp only [decide_eq_true_eq] at q1
  obtain ⟨rfl, q1⟩ := q1
  have : df = a.df := by have := congrArg AF.df q1; simpa using this
  subst this
  exact ⟨v, q2⟩
omit hE hp in
theorem HRel.ext {σ : Sig} {h h' : AH} {w : World} (k : HRel C σ h w) (hm : ∀ b, h'.m.get b = h.m.get b) (hn : h'.nx = h.nx) : HRel C σ h' w :=
  ⟨k.below, k.base, k.glob, fun b hb => k.fresh b (by omega), by rw [hn]; exact k.nx, fun b o x h1 => k.obj b o x (by rw [← hm]; exact h1), fun b o x h1 => k.own b o x (by rw [← hm]; exact h1),
    fun b c o p x y h1 h2 => k.apart b c o p x y (by rw [← hm]; exact h1) (by rw [← hm]; exact h2)⟩
omit hE hp in
theorem againL_of : ∀ {es : List En} {h : AH}, (∀ e ∈ es, againE E e h = true) → againL E es h = true
  | [], h, _ => rfl
  | x :: es, h, hk => by
    show cond (againE E x h) (againL E es h) false = true
    rw [hk x (by simp)]
    exact againL_of fun e he => hk e (by simp [he])
theorem last_step {bs : Bool} (hH : HookOk P E C) {rec : Rec} (hrec : RecOk P C rec) {rd : Option Nat} {pre rest : List Nat} {x : Nat} {t p1 v1 : Nat} {ty : TypeId} {pos : String} {after : Array Edge}
    (hpi : p.full = pre ++ x :: rest) (ho : opsA[x]? = some { dst := none, op := .store t (.tmp p1) (.tmp v1), type := ty, pos := pos, after := after, guard := none }) {es : List En} {a : AF} {h h1 : AH} {b o : Nat} (hb : tget a.tm p1 = .ptr b o)
    (hk : ∀ g : AH → Bool, g h1 = true → storeK E t b o (tget a.tm v1) h g = true) (hes : EsOk bs C P E opsA p.Ps pre es a h)
    {σ0 σ : Sig} {w : World} {act : Act} {D : List En} {listed : Array Bool} {Q : Exit → Act → World → Prop} {K : Act → World → Prop} (hbase : σ0.le σ) (hrd : RdOk σ0 rd) (st : St C opsA p.Ps pre es a h σ w act D listed) (hi : x ∈ Region.ready .any opsA listed)
    (hK : ∀ (σ' : Sig) (w' : World) (act' : Act), σ.le σ' → St C opsA p.Ps (pre ++ [x]) (closeL (maskAt p.Ps x) es) a h1 σ' w' act' D (listed.setIfInBounds x true) → K act' w') : wpOpIn (fenceOf σ0 rd) 0 P opsA Q x K act w := by
  have hxpre : x ∉ pre := fun hm => by
    have h2 := hp.nodup
    rw [hpi, List.nodup_append] at h2
    exact absurd rfl (h2.2.2 x hm x (by simp))
  obtain ⟨v, hop⟩ := store_at hE hH hrec (opsA := opsA) (rd := rd) (ty := ty) (pos := pos) (after := after) hb hk
  have hlk : ∀ u ∈ ({ dst := none, op := .store t (.tmp p1) (.tmp v1), type := ty, pos := pos, after := after, guard := none } : Oper).looksAt opsA, VR σ (tget a.tm u) (act.tmps.getD u undef) := fun u hu => st.tm u fun e he e1 => by
    have hat := (hes.at_ e (st.sub e he))
    have hne : x ≠ e.i := fun e2 => hxpre (e2 ▸ hat.2.1)
    have hb : bit (maskAt p.Ps x) e.i = true := by
      rcases hp.look x e.i _ e.o u ho hat.1 hne e1 hu with hb | hb
      · exact hb
      · exact absurd (before hp hpi hat.2.1 x hb) hxpre
    have := ready_mask hp st.closed ho hi e.i hb
    exact absurd rfl (((st.told e.i (Array.getElem?_eq_some_iff.1 hat.1).1).1 this).2 e he)
  unfold wpOpIn
  rw [ho]
  have hwt : Region.wanted ({ dst := none, op := .store t (.tmp p1) (.tmp v1), type := ty, pos := pos, after := after, guard := none } : Oper) (yielded opsA act.tmps) = true := rfl
  simp only [hwt, if_true]
  have hfn := fence_mono hbase hrd
  rw [← hfn]
  refine hop σ w act _ _ st.hr st.size hlk st.df (hrd.mono hbase) fun σ' act' z w' hle kr htm hdf hv => ?_
  exact hK σ' w' _ hle (St.act hp hpi ho hes st hi (a' := a) (v := v) hle kr htm hdf hv rfl (fun u => by simp) (fun d e => by cases e))
omit hE hp in
theorem spliceK_fn : ∀ (o : Nat) (vs l : List AV), (∀ g, spliceK o vs l g = false) ∨ ∃ r, ∀ g, spliceK o vs l g = g r
  | 0, [], l => .inr ⟨l, fun g => rfl⟩
  | 0, v :: vs, [] => .inl fun g => rfl
  | 0, v :: vs, u :: l => by
    have e : ∀ g, spliceK 0 (v :: vs) (u :: l) g = cond (scal v) (spliceK 0 vs l fun r => g (v :: r)) false := fun g => rfl
    cases hs : scal v with
    | false => left; intro g; rw [e, hs]; rfl
    | true =>
      rcases spliceK_fn 0 vs l with h | ⟨r, h⟩
      · left; intro g; rw [e, hs, cond_true, h]
      · right; exact ⟨v :: r, fun g => by rw [e, hs, cond_true, h]⟩
  | o + 1, vs, [] => .inl fun g => rfl
  | o + 1, vs, u :: l => by
    have e : ∀ g, spliceK (o + 1) vs (u :: l) g = spliceK o vs l fun r => g (u :: r) := fun g => rfl
    rcases spliceK_fn o vs l with h | ⟨r, h⟩
    · left; intro g; rw [e, h]
    · right; exact ⟨u :: r, fun g => by rw [e, h]⟩
omit hE hp in
theorem one_fn {α : Type} : ∀ (f k : Nat) (x : α), (∀ g, Tr.one f k x g = false) ∨ ∃ m, ∀ g, Tr.one f k x g = g m
  | 0, k, x => .inl fun g => rfl
  | f + 1, 0, x => .inr ⟨_, fun g => rfl⟩
  | f + 1, k + 1, x => by
    have e : ∀ g, Tr.one (f + 1) (k + 1) x g = Tr.one f (k / 4) x (fun t => sw (k % 4) (g (.node none t .leaf .leaf .leaf)) (g (.node none .leaf t .leaf .leaf)) (g (.node none .leaf .leaf t .leaf)) (g (.node none .leaf .leaf .leaf t))) := fun g => rfl
    rcases one_fn f (k / 4) x with h | ⟨m, h⟩
    · left; intro g; rw [e, h]
    · have hm : k % 4 = 0 ∨ k % 4 = 1 ∨ k % 4 = 2 ∨ k % 4 = 3 := by omega
      right
      rcases hm with hm | hm | hm | hm
      · exact ⟨_, fun g => by rw [e, h, hm]; rfl⟩
      · exact ⟨_, fun g => by rw [e, h, hm]; rfl⟩
      · exact ⟨_, fun g => by rw [e, h, hm]; rfl⟩
      · exact ⟨_, fun g => by rw [e, h, hm]; rfl⟩
omit hE hp in
theorem set_fn {α : Type} : ∀ (t : Tr α) (k : Nat) (x : α), (∀ g, t.set k x g = false) ∨ ∃ m, ∀ g, t.set k x g = g m := by
  intro t
  induction t with
  | leaf => intro k x; exact one_fn 20 k x
  | node v a b c d iha ihb ihc ihd =>
    intro k x
    cases k with
    | zero => exact .inr ⟨_, fun g => rfl⟩
    | succ k =>
      have e : ∀ g, (Tr.node v a b c d).set (k + 1) x g = sw (k % 4) (a.set (k / 4) x fun t => g (.node v t b c d)) (b.set (k / 4) x fun t => g (.node v a t c d))
        (c.set (k / 4) x fun t => g (.node v a b t d)) (d.set (k / 4) x fun t => g (.node v a b c t)) := fun g => rfl
      have hm : k % 4 = 0 ∨ k % 4 = 1 ∨ k % 4 = 2 ∨ k % 4 = 3 := by omega
      rcases hm with hm | hm | hm | hm
      · rcases iha (k / 4) x with h | ⟨m, h⟩
        · left; intro g; rw [e, hm]; exact h _
        · right; exact ⟨_, fun g => by rw [e, hm]; exact h _⟩
      · rcases ihb (k / 4) x with h | ⟨m, h⟩
        · left; intro g; rw [e, hm]; exact h _
        · right; exact ⟨_, fun g => by rw [e, hm]; exact h _⟩
      · rcases ihc (k / 4) x with h | ⟨m, h⟩
        · left; intro g; rw [e, hm]; exact h _
        · right; exact ⟨_, fun g => by rw [e, hm]; exact h _⟩
      · rcases ihd (k / 4) x with h | ⟨m, h⟩
        · left; intro g; rw [e, hm]; exact h _
        · right; exact ⟨_, fun g => by rw [e, hm]; exact h _⟩
omit hE hp in
theorem storeK_raw {t b o : Nat} {v : AV} {h : AH} {g : AH → Bool} (hk : storeK E t b o v h g = true) : ∃ cs e z cs' h', h.m.get b = some (.cells cs e z false) ∧ h.m.Put b (.cells cs' e z false) h'.m ∧ h'.nx = h.nx ∧ g h' = true ∧
    (∀ g' : AH → Bool, g' h' = true → storeK E t b o v h g' = true) ∧ ∀ g' : List AV → Bool, spliceK o (cellsOf v) cs g' = g' cs' := by
  have hk0 := hk
  unfold storeK at hk
  cases ht : E.ty.get t with
  | none => rw [ht] at hk; cases hk
  | some ta =>
    rw [ht] at hk
    obtain ⟨h1, h2⟩ := cond_f (show cond (Nat.beq (cellsOf v).length ta.size) (wrK h b o (cellsOf v) g) false = true from hk)
    unfold wrK at h2
    split at h2
    · rename_i cs e z hb
      rcases spliceK_fn o (cellsOf v) cs with h3 | ⟨cs', h3⟩
      · rw [h3] at h2; cases h2
      · rw [h3] at h2
        rcases set_fn h.m b (AO.cells cs' e z false) with h4 | ⟨m, h4⟩
        · rw [h4] at h2; cases h2
        · obtain ⟨m', q1, q2⟩ := Tr.set_spec h.m b (AO.cells cs' e z false) (fun m' => @decide (m' = m) (Classical.propDecidable _)) (by rw [h4]; simp)
          have : m' = m := by simpa using q1
          subst this
          rw [h4] at h2
          refine ⟨cs, e, z, cs', ⟨m', h.nx⟩, hb, q2, rfl, h2, fun g' hg' => ?_, h3⟩
          unfold storeK
          rw [ht]
          show cond (Nat.beq (cellsOf v).length ta.size) (wrK h b o (cellsOf v) g') false = true
          rw [h1, cond_true]
          unfold wrK
          rw [hb]
          simp only [h3, h4]
          exact hg'
    · cases h2
theorem twoK_ok {bs : Bool} (hH : HookOk P E C) {rec : Rec} (hrec : RecOk P C rec) {rd : Option Nat} {pre : List Nat} {x y : Nat} (hpi : p.full = pre ++ [x, y]) {p2 : Plan} (hp2 : PlanOk opsA p2) (hPs : p2.Ps = p.Ps) (hpi2 : p2.full = pre ++ [y, x])
    {es : List En} {a : AF} {h : AH} {k : AF → AH → Bool} (hk : twoK E opsA.toList x y es a h k = true) (hes : EsOk bs C P E opsA p.Ps pre es a h) : ∃ h', k a h' = true ∧
      ∀ (σ0 σ : Sig) (w : World) (act : Act) (D : List En) (listed : Array Bool) (fuel : Nat), σ0.le σ → RdOk σ0 rd → (∀ e ∈ D, ∀ b, e.rowOf = some b → σ0.nx ≤ b) →
      St C opsA p.Ps pre es a h σ w act D listed → 2 + D.length ≤ fuel → wpAnyIn (fenceOf σ0 rd) 0 P .any opsA (AP C σ0 .normal a h') fuel listed act w := by
  unfold twoK at hk
  simp only [nth_eq, Array.getElem?_toList] at hk
  split at hk
  · rename_i t1 p1 v1 ty1 pos1 after1 t2 p2' v2 ty2 pos2 after2 hox hoy
    split at hk
    · rename_i b1 o1 b2 o2 hb1 hb2
      obtain ⟨hbne, hk⟩ := cond_t hk
      have hbne : b1 ≠ b2 := fun e => by subst e; simp at hbne
      obtain ⟨hag, hk⟩ := cond_f hk
      obtain ⟨cs1, e1, z1, cs1', h1, s1a, s1b, s1n, s1g, s1r, s1s⟩ := storeK_raw hk
      obtain ⟨hag1, s1g⟩ := cond_f s1g
      obtain ⟨cs2, e2, z2, cs2', h2, s2a, s2b, s2n, s2g, s2r, s2s⟩ := storeK_raw s1g
      obtain ⟨hag2, s2g⟩ := cond_f s2g
      obtain ⟨cs3, e3, z3, cs3', h3, s3a, s3b, s3n, s3g, s3r, s3s⟩ := storeK_raw s2g
      obtain ⟨hag3, s3g⟩ := cond_f s3g
      obtain ⟨cs4, e4, z4, cs4', h4, s4a, s4b, s4n, s4g, s4r, s4s⟩ := storeK_raw s3g
      obtain ⟨hag4, hfin⟩ := cond_f s4g
      have ext : ∀ b, h2.m.get b = h4.m.get b := fun b => by
        rw [s1b b2, if_neg (Ne.symm hbne), s3a] at s2a
        obtain ⟨rfl, rfl, rfl⟩ : cs3 = cs2 ∧ e3 = e2 ∧ z3 = z2 := by simpa using s2a
        rw [s3b b1, if_neg hbne, s1a] at s4a
        obtain ⟨rfl, rfl, rfl⟩ : cs1 = cs4 ∧ e1 = e4 ∧ z1 = z4 := by simpa using s4a
        have d1 : cs2' = cs3' := by
          classical
          have := (s2s fun c => decide (c = cs2')).symm.trans (s3s fun c => decide (c = cs2'))
          simpa [eq_comm] using this
        have d2 : cs1' = cs4' := by
          classical
          have := (s1s fun c => decide (c = cs1')).symm.trans (s4s fun c => decide (c = cs1'))
          simpa [eq_comm] using this
        subst d1 d2
        rw [s2b b, s4b b, s1b b, s3b b]
        by_cases q1 : b = b1
        · subst q1; simp [hbne]
        · by_cases q2 : b = b2
          · subst q2; simp [q1]
          · simp [q1, q2]
      have hn : h2.nx = h4.nx := by omega
      have hag' : ∀ {h : AH} {P : Nat} {es : List En}, againL E es h = true → againL E (closeL P es) h = true := fun hh => againL_of fun e he => againL_mem hh e (closeL_mem.1 he).1
      refine ⟨h2, hfin, fun σ0 σ w act D listed fuel hbase hrd hrow0 st hf => ?_⟩
      have fin : ∀ (q : Plan) (hq : PlanOk opsA q) (u v : Nat) (es2 : List En) (hh : AH), q.full = (pre ++ [u]) ++ [v] → EsOk bs C P E opsA q.Ps ((pre ++ [u]) ++ [v]) es2 a hh → againL E es2 hh = true → (∀ b, h2.m.get b = hh.m.get b) → h2.nx = hh.nx →
          ∀ (σ : Sig) (w : World) (act : Act) (D : List En) (listed : Array Bool) (fuel : Nat), σ0.le σ → (∀ e ∈ D, ∀ b, e.rowOf = some b → σ0.nx ≤ b) → St C opsA q.Ps ((pre ++ [u]) ++ [v]) es2 a hh σ w act D listed → D.length ≤ fuel →
          wpAnyIn (fenceOf σ0 rd) 0 P .any opsA (AP C σ0 .normal a h2) fuel listed act w := fun q hq u v es2 hh hqf hes2 hagh hext hnx σ w act D listed fuel hbase hrow0 st hf => by
        refine inner hq hE (rest := []) (by simpa using hqf) hes2 hagh (fun σ w act D listed fuel hb hr0 st hf i hi hni => ?_) (fun _ σ w act listed hb st => ?_) D.length σ w act D listed fuel (Nat.le_refl _) hbase hrow0 st (by simpa using hf)
        · exfalso
          have hlt := (listed_not hq st hi).1
          have := hq.all i hlt
          rw [hqf] at this
          exact hni this
        · exact ⟨rfl, σ, hb, st.hr.ext hext hnx, ⟨⟨st.size, fun t => st.tm t (by simp)⟩, st.df⟩⟩
      refine inner hp hE hpi hes hag (fun σ w act D listed fuel hb hr0 st hf i hi hni => ?_) (fun e => by cases e) D.length σ w act D listed fuel (Nat.le_refl _) hbase hrow0 st (by simpa using hf)
      have hlt := (listed_not hp st hi).1
      have hm := hp.all i hlt
      rw [hpi] at hm
      have hixy : i = x ∨ i = y := by
        rcases List.mem_append.1 hm with hm | hm
        · exact absurd hm hni
        · simpa using hm
      have hpre1 : ∀ u ∈ (pre ++ [x]), u ∈ pre ++ [x] := fun u h => h
      rcases hixy with rfl | rfl
      · refine last_step hE hp hH hrec hpi hox hb1 s1r hes hb hrd st hi fun σ1 w1 act1 hle1 st1 => ?_
        have hes1 : EsOk bs C P E opsA p.Ps (pre ++ [i]) (closeL (maskAt p.Ps i) es) a h1 := EsOk.act hp hpi hox hes (v := .bad) rfl (fun t => by simp)
        refine inner hp hE (rest := [y]) (by simp [hpi]) hes1 (hag' hag1) (fun σ w act D listed fuel hb' hr0 st hf j hj hnj => ?_) (fun e => by cases e) D.length σ1 w1 act1 D _ fuel (Nat.le_refl _) (hb.trans hle1) hr0 st1 (by simp at hf ⊢; omega)
        have hlt := (listed_not hp st hj).1
        have hm := hp.all j hlt
        rw [hpi] at hm
        have hjy : j = y := by
          simp at hm hnj
          rcases hm with h | h | h
          · exact absurd h hnj.1
          · exact absurd h hnj.2
          · exact h
        subst hjy
        refine last_step hE hp hH hrec (pre := pre ++ [i]) (rest := []) (by simp [hpi]) hoy hb2 s2r hes1 hb' hrd st hj fun σ2 w2 act2 hle2 st2 => ?_
        have hes2 : EsOk bs C P E opsA p.Ps ((pre ++ [i]) ++ [j]) (closeL (maskAt p.Ps j) (closeL (maskAt p.Ps i) es)) a h2 := EsOk.act hp (rest := []) (by simp [hpi]) hoy hes1 (v := .bad) rfl (fun t => by simp)
        exact fin p hp i j _ h2 (by simp [hpi]) hes2 (hag' (hag' hag2)) (fun _ => rfl) rfl σ2 w2 act2 D _ fuel (hb'.trans hle2) hr0 st2 (by simp at hf; omega)
      · rw [← hPs] at st hes
        refine last_step hE hp2 hH hrec (rest := [x]) hpi2 hoy hb2 s3r hes hb hrd st hi fun σ1 w1 act1 hle1 st1 => ?_
        have hes1 : EsOk bs C P E opsA p2.Ps (pre ++ [i]) (closeL (maskAt p2.Ps i) es) a h3 := EsOk.act hp2 (rest := [x]) hpi2 hoy hes (v := .bad) rfl (fun t => by simp)
        refine inner hp2 hE (rest := [x]) (by simp [hpi2]) hes1 (hag' hag3) (fun σ w act D listed fuel hb' hr0 st hf j hj hnj => ?_) (fun e => by cases e) D.length σ1 w1 act1 D _ fuel (Nat.le_refl _) (hb.trans hle1) hr0 st1 (by simp at hf ⊢; omega)
        have hlt := (listed_not hp2 st hj).1
        have hm := hp2.all j hlt
        rw [hpi2] at hm
        have hjy : j = x := by
          simp at hm hnj
          rcases hm with h | h | h
          · exact absurd h hnj.1
          · exact absurd h hnj.2
          · exact h
        subst hjy
        refine last_step hE hp2 hH hrec (pre := pre ++ [i]) (rest := []) (by simp [hpi2]) hox hb1 s4r hes1 hb' hrd st hj fun σ2 w2 act2 hle2 st2 => ?_
        have hes2 : EsOk bs C P E opsA p2.Ps ((pre ++ [i]) ++ [j]) (closeL (maskAt p2.Ps j) (closeL (maskAt p2.Ps i) es)) a h4 := EsOk.act hp2 (rest := []) (by simp [hpi2]) hox hes1 (v := .bad) rfl (fun t => by simp)
        exact fin p2 hp2 i j _ h4 (by simp [hpi2]) hes2 (hag' (hag' hag4)) ext hn σ2 w2 act2 D _ fuel (hb'.trans hle2) hr0 st2 (by simp at hf; omega)
    · cases hk
  · cases hk
theorem drawK_ok {bs : Bool} (hEff : EffOk bs opsA p) (hH : HookOk P E C) {rec : Rec} (hrec : RecOk P C rec) {rd : Option Nat} : ∀ (rest pre : List Nat), p.pi = pre ++ rest → ∀ (es : List En) (a : AF) (h : AH) (k : AF → AH → Bool), drawK bs E rec rd opsA.toList p.Ps p.two rest es a h k = true →
    EsOk bs C P E opsA p.Ps pre es a h → ∃ a' h', k a' h' = true ∧ ∀ (σ0 σ : Sig) (w : World) (act : Act) (D : List En) (listed : Array Bool) (fuel : Nat), σ0.le σ → RdOk σ0 rd → (∀ e ∈ D, ∀ b, e.rowOf = some b → σ0.nx ≤ b) →
      St C opsA p.Ps pre es a h σ w act D listed → (rest ++ p.tail).length + D.length ≤ fuel → wpAnyIn (fenceOf σ0 rd) 0 P .any opsA (AP C σ0 .normal a' h') fuel listed act w
  | [], pre, hpi0, es, a, h, k, hk, hes => by
    have hpi0 : p.pi = pre := by simpa using hpi0
    cases htwo : p.two with
    | none =>
      have hpi : p.full = pre ++ [] := by simp [Plan.full, Plan.tail, htwo, hpi0]
      obtain ⟨hag, hk2⟩ := cond_f (show cond (againL E es h) (k a h) false = true from by rw [htwo] at hk; exact hk)
      refine ⟨a, h, hk2, fun σ0 σ w act D listed fuel hbase hrd hrow0 st hf => ?_⟩
      refine inner hp hE hpi hes hag (fun σ w act D listed fuel hb hr0 st hf i hi hni => ?_) (fun _ σ w act listed hb st => ?_) D.length σ w act D listed fuel (Nat.le_refl _) hbase hrow0 st (by simp [Plan.tail, htwo] at hf; simpa using hf)
      · exfalso
        have hlt := (listed_not hp st hi).1
        have := hp.all i hlt
        rw [hpi] at this
        exact hni (by simpa using this)
      · exact ⟨rfl, σ, hb, st.hr, ⟨⟨st.size, fun t => st.tm t (by simp)⟩, st.df⟩⟩
    | some xy =>
      obtain ⟨x, y⟩ := xy
      have hpi : p.full = pre ++ [x, y] := by simp [Plan.full, Plan.tail, htwo, hpi0]
      have hk2 : twoK E opsA.toList x y es a h k = true := by rw [htwo] at hk; exact hk
      obtain ⟨h', q1, q2⟩ := twoK_ok hE hp hH hrec hpi (hEff.swap x y htwo) rfl (by simp [Plan.full, Plan.tail, hpi0]) hk2 hes (rd := rd)
      exact ⟨a, h', q1, fun σ0 σ w act D listed fuel hbase hrd hrow0 st hf => q2 σ0 σ w act D listed fuel hbase hrd hrow0 st (by simp [Plan.tail, htwo] at hf; omega)⟩
  | x :: rest, pre, hpi0, es, a, h, k, hk, hes => by
    have hpi : p.full = pre ++ x :: (rest ++ p.tail) := by simp [Plan.full, hpi0]
    have hk' : (match nth opsA.toList x with
      | none => false
      | some o => cond (acts bs o)
          (cond (againL E es h) (wantK opsA.toList o a.tm fun w => cond w (operK E rec rd o a h fun a h => drawK bs E rec rd opsA.toList p.Ps p.two rest (closeL (maskAt p.Ps x) es) a h k) (put a o.dst (.tup []) fun a => drawK bs E rec rd opsA.toList p.Ps p.two rest (closeL (maskAt p.Ps x) es) a h k)) false)
          (enterK bs E opsA.toList x o a h fun e a h => drawK bs E rec rd opsA.toList p.Ps p.two rest (e :: es) a h k)) = true := hk
    have hpi2 : p.pi = (pre ++ [x]) ++ rest := by simp [hpi0]
    have hxpre : x ∉ pre := fun hm => by
      have h2 := hp.nodup
      rw [hpi, List.nodup_append] at h2
      exact absurd rfl (h2.2.2 x hm x (by simp))
    rw [nth_eq, Array.getElem?_toList] at hk'
    cases ho : opsA[x]? with
    | none => rw [ho] at hk'; cases hk'
    | some o =>
      rw [ho] at hk'
      simp only at hk'
      cases hact : acts bs o with
      | true =>
        rw [hact] at hk'
        obtain ⟨hag, hk2⟩ := cond_f (show cond (againL E es h) _ false = true from hk')
        obtain ⟨b, hk3, hw⟩ := wantK_raw hk2
        have only : ∀ (σ : Sig) (w : World) (act : Act) (D : List En) (listed : Array Bool), St C opsA p.Ps pre es a h σ w act D listed → ∀ i ∈ Region.ready .any opsA listed, i ∉ pre → i = x := fun σ w act D listed st i hi hni => by
          obtain ⟨hlt, hl⟩ := listed_not hp st hi
          have hm := hp.all i hlt
          rw [hpi] at hm
          rcases List.mem_append.1 hm with hm | hm
          · exact absurd hm hni
          · rcases List.mem_cons.1 hm with rfl | hm
            · rfl
            · exfalso
              obtain ⟨_, oi, hoi, _⟩ := mem_ready.1 hi
              have hb := hEff.eff pre x rest hpi0 o ho hact i hm
              have := ready_mask hp st.closed hoi hi x hb
              have hxlt := (Array.getElem?_eq_some_iff.1 ho).1
              exact hxpre ((st.told x hxlt).1 this).1
        cases b with
        | true =>
          obtain ⟨v, df, h1, hk4, hop⟩ := operK_at hE hH hrec (opsA := opsA) (show operK E rec rd o a h (fun a h => drawK bs E rec rd opsA.toList p.Ps p.two rest (closeL (maskAt p.Ps x) es) a h k) = true from hk3)
          obtain ⟨a1, hk5, q1, q2, q3, q4⟩ := put_raw hk4
          obtain ⟨a', h', hk6, hsim⟩ := drawK_ok hEff hH hrec rest (pre ++ [x]) hpi2 _ a1 h1 k hk5 (EsOk.act hp hpi ho hes q1 q3)
          refine ⟨a', h', hk6, fun σ0 σ w act D listed fuel hbase hrd hrow0 st hf => ?_⟩
          refine inner hp hE hpi hes hag (fun σ w act D listed fuel hb hr0 st hf i hi hni => ?_) (fun e => by cases e) D.length σ w act D listed fuel (Nat.le_refl _) hbase hrow0 st hf
          have := only σ w act D listed st i hi hni
          subst this
          have hlk : ∀ t ∈ o.looksAt opsA, VR σ (tget a.tm t) (act.tmps.getD t undef) := fun t ht => st.tm t fun e he e1 => by
            have hat := (hes.at_ e (st.sub e he))
            have hne : i ≠ e.i := fun e2 => hxpre (e2 ▸ hat.2.1)
            have hb : bit (maskAt p.Ps i) e.i = true := by
              rcases hp.look i e.i o e.o t ho hat.1 hne e1 ht with hb | hb
              · exact hb
              · exact absurd (before hp hpi hat.2.1 i hb) hxpre
            have := ready_mask hp st.closed ho hi e.i hb
            exact absurd rfl (((st.told e.i (Array.getElem?_eq_some_iff.1 hat.1).1).1 this).2 e he)
          have hwt := want_at hE (hw (· == true) rfl) hlk
          unfold wpOpIn
          rw [ho]
          simp only [hwt, if_true]
          have hfn := fence_mono hb hrd
          rw [← hfn]
          refine hop σ w act _ _ st.hr st.size hlk st.df (hrd.mono hb) fun σ' act' z w' hle kr htm hdf hv => ?_
          rw [hfn]
          exact hsim σ0 σ' w' _ D _ fuel (hb.trans hle) hrd hr0 (St.act hp hpi ho hes st hi hle kr htm (by rw [q2]; exact hdf) hv q1 q3 q4) (by simp only [List.length_cons, List.cons_append] at hf; omega)
        | false =>
          obtain ⟨a1, hk5, q1, q2, q3, q4⟩ := put_raw (show put a o.dst (.tup []) (fun a => drawK bs E rec rd opsA.toList p.Ps p.two rest (closeL (maskAt p.Ps x) es) a h k) = true from hk3)
          obtain ⟨a', h', hk6, hsim⟩ := drawK_ok hEff hH hrec rest (pre ++ [x]) hpi2 _ a1 h k hk5 (EsOk.act hp hpi ho hes q1 q3)
          refine ⟨a', h', hk6, fun σ0 σ w act D listed fuel hbase hrd hrow0 st hf => ?_⟩
          refine inner hp hE hpi hes hag (fun σ w act D listed fuel hb hr0 st hf i hi hni => ?_) (fun e => by cases e) D.length σ w act D listed fuel (Nat.le_refl _) hbase hrow0 st hf
          have := only σ w act D listed st i hi hni
          subst this
          have hlk : ∀ t ∈ o.looksAt opsA, VR σ (tget a.tm t) (act.tmps.getD t undef) := fun t ht => st.tm t fun e he e1 => by
            have hat := (hes.at_ e (st.sub e he))
            have hne : i ≠ e.i := fun e2 => hxpre (e2 ▸ hat.2.1)
            have hb : bit (maskAt p.Ps i) e.i = true := by
              rcases hp.look i e.i o e.o t ho hat.1 hne e1 ht with hb | hb
              · exact hb
              · exact absurd (before hp hpi hat.2.1 i hb) hxpre
            have := ready_mask hp st.closed ho hi e.i hb
            exact absurd rfl (((st.told e.i (Array.getElem?_eq_some_iff.1 hat.1).1).1 this).2 e he)
          have hwt := want_at hE (hw (· == false) rfl) hlk
          unfold wpOpIn
          rw [ho]
          simp only [hwt, Bool.false_eq_true, if_false]
          exact ⟨fun f _ => fence_fn σ0 rd f, hsim σ0 σ w _ D _ fuel hb hrd hr0 (St.act hp hpi ho hes st hi (Sig.le.refl σ) st.hr rfl (by rw [q2]; exact st.df) (undef_tup σ) q1 q3 q4) (by simp only [List.length_cons, List.cons_append] at hf; omega)⟩
      | false =>
        rw [hact, cond_false] at hk'
        obtain ⟨e, a1, h1, hk2, e1, e2, e3, q1, q2, q3, q4, hok, hrow⟩ := enter_spec (P := P) (C := C) hE hk'
        have hcls : cls bs e.o.op ≠ 3 := fun hc => by
          rw [e2] at hc
          unfold acts at hact
          rw [hc] at hact
          exact absurd hact (by decide)
        have hes1 : EsOk bs C P E opsA p.Ps (pre ++ [x]) (e :: es) a1 h1 := by
          have hin : ∀ k ∈ es, k.i ∈ pre := fun k hk => (hes.at_ k hk).2.1
          refine ⟨fun k hk => ?_, fun k hk d hd => ?_, fun k hk => ?_, fun k hk j hj hb t hd hlk => ?_, fun k hk j hj he => ?_⟩
          · rcases List.mem_cons.1 hk with rfl | hk
            · exact ⟨by rw [e1, e2]; exact ho, by rw [e1]; simp, hcls⟩
            · obtain ⟨r1, r2, r3⟩ := hes.at_ k hk
              exact ⟨r1, by simp [r2], r3⟩
          · rw [q1]
            rcases List.mem_cons.1 hk with rfl | hk
            · rw [e2] at hd
              exact ⟨q4 d hd, by rw [q3 d, if_pos hd]⟩
            · obtain ⟨r1, r2⟩ := hes.dst k hk d hd
              refine ⟨r1, ?_⟩
              rw [q3 d, if_neg fun hx => hxpre ?_]
              · exact r2
              · rw [← hp.dst k.i x k.o o d (hes.at_ k hk).1 ho hd hx]; exact hin k hk
          · rcases List.mem_cons.1 hk with rfl | hk
            · exact hok
            · exact hes.ok k hk
          · rcases List.mem_cons.1 hk with rfl | hk3
            · rcases List.mem_cons.1 hj with rfl | hj
              · rw [e1] at hb
                rw [self_not hp (by rw [hpi]; simp)] at hb; cases hb
              · rw [e3]; exact (hes.dst j hj t hd).2
            · rcases List.mem_cons.1 hj with rfl | hj
              · rw [e1] at hb
                exact absurd (before hp hpi (hin k hk3) x hb) hxpre
              · exact hes.pair k hk3 j hj hb t hd hlk
          · rcases List.mem_cons.1 hk with rfl | hk3
            · rcases List.mem_cons.1 hj with rfl | hj
              · rfl
              · exact absurd (by rw [← e1, he]; exact hin j hj) hxpre
            · rcases List.mem_cons.1 hj with rfl | hj
              · exact absurd (by rw [← e1, ← he]; exact hin k hk3) hxpre
              · exact hes.uniq k hk3 j hj he
        obtain ⟨a', h', hk6, hsim⟩ := drawK_ok hEff hH hrec rest (pre ++ [x]) hpi2 (e :: es) a1 h1 k hk2 hes1
        refine ⟨a', h', hk6, fun σ0 σ w act D listed fuel hbase hrd hrow0 st hf => ?_⟩
        have hDpre : ∀ k ∈ D, k.i ∈ pre := fun k hk => (hes.at_ k (st.sub k hk)).2.1
        have mk : ∀ σ1 : Sig, σ.le σ1 → (∀ b, σ1 b = σ b) → σ.nx ≤ σ1.nx → HRel C σ1 h1 w → (∀ b, e.rowOf = some b → b = h.nx ∧ b < σ1.nx) → St C opsA p.Ps (pre ++ [x]) (e :: es) a1 h1 σ1 w act (e :: D) listed := fun σ1 hle hsame hnx kr hrw => by
          refine ⟨kr, by rw [q1]; exact st.size, fun t ht => ?_, by rw [q2]; exact st.df.mono hle, fun k hk t hlk => ?_, fun k hk b hb => ?_, fun k hk => ?_, fun k hk j hj b hb1 hb2 => ?_, st.lsize, fun i hi => ?_, st.closed⟩
          · have h0 : o.dst ≠ some t := by have := ht e (by simp); rwa [e2] at this
            rw [q3 t, if_neg h0]
            exact (st.tm t fun k hk => ht k (by simp [hk])).mono hle.get
          · rcases List.mem_cons.1 hk with rfl | hk
            · rw [e2] at hlk
              by_cases hj : ∃ j ∈ D, j.o.dst = some t
              · obtain ⟨j, hj, hd⟩ := hj
                have hat := (hes.at_ j (st.sub j hj)).1
                have hne : x ≠ j.i := fun e5 => hxpre (e5 ▸ hDpre j hj)
                refine .inl ⟨j, by simp [hj], ?_, hd⟩
                rw [e1]
                rcases hp.look x j.i o j.o t ho hat hne hd hlk with hb | hb
                · exact hb
                · exact absurd (before hp hpi (hDpre j hj) x hb) hxpre
              · right
                rw [e3]
                exact (st.tm t fun j hjD hd => hj ⟨j, hjD, hd⟩).mono hle.get
            · rcases st.looks k hk t hlk with ⟨j, hj, hb, hd⟩ | h5
              · exact .inl ⟨j, by simp [hj], hb, hd⟩
              · exact .inr (h5.mono hle.get)
          · rcases List.mem_cons.1 hk with rfl | hk
            · obtain ⟨r1, r2⟩ := hrw b hb
              refine ⟨?_, r2⟩
              rw [hsame, r1]; exact st.hr.fresh _ (Nat.le_refl _)
            · obtain ⟨r1, r2⟩ := st.rows k hk b hb
              exact ⟨by rw [hsame]; exact r1, by omega⟩
          · rcases List.mem_cons.1 hk with rfl | hk
            · simp
            · simp [st.sub k hk]
          · have hlt : ∀ k ∈ D, ∀ b, k.rowOf = some b → b < h.nx := fun k hk b hb => by
              have := (st.rows k hk b hb).2
              rw [st.hr.nx] at this; exact this
            rcases List.mem_cons.1 hk with rfl | hk3
            · rcases List.mem_cons.1 hj with rfl | hj
              · rfl
              · have r1 := (hrw b hb1).1; have r2 := hlt j hj b hb2; omega
            · rcases List.mem_cons.1 hj with rfl | hj
              · have r1 := (hrw b hb2).1; have r2 := hlt k hk3 b hb1; omega
              · exact st.apart k hk3 j hj b hb1 hb2
          · rw [st.told i hi]
            constructor
            · rintro ⟨r1, r2⟩
              refine ⟨by simp [r1], fun k hk => ?_⟩
              rcases List.mem_cons.1 hk with rfl | hk
              · rw [e1]; exact fun e5 => hxpre (e5 ▸ r1)
              · exact r2 k hk
            · rintro ⟨r1, r2⟩
              have hne : x ≠ i := by have := r2 e (by simp); rwa [e1] at this
              refine ⟨?_, fun k hk => r2 k (by simp [hk])⟩
              simpa [Ne.symm hne] using r1
        have hlen : (rest ++ p.tail).length + (e :: D).length ≤ fuel := by simp only [List.length_cons, List.cons_append] at hf ⊢; omega
        rcases hrow with ⟨r1, r2⟩ | ⟨m, ao, r1, r2, r3⟩
        · refine hsim σ0 σ w act (e :: D) listed fuel hbase hrd (fun k hk b hb => ?_) (mk σ (Sig.le.refl σ) (fun _ => rfl) (Nat.le_refl _) (by rw [r2]; exact st.hr) fun b hb => by rw [r1] at hb; cases hb) hlen
          rcases List.mem_cons.1 hk with rfl | hk
          · rw [r1] at hb; cases hb
          · exact hrow0 k hk b hb
        · have hnx := st.hr.nx
          refine hsim σ0 σ.bump w act (e :: D) listed fuel (hbase.trans (Sig.le_bump σ)) hrd (fun k hk b hb => ?_) (mk σ.bump (Sig.le_bump σ) (fun _ => rfl) (Nat.le_succ _) (by rw [r3]; exact st.hr.more r2) fun b hb => ?_) hlen
          · rcases List.mem_cons.1 hk with rfl | hk
            · rw [r1] at hb; cases hb
              have := hbase.nx; omega
            · exact hrow0 k hk b hb
          · rw [r1] at hb; cases hb
            exact ⟨rfl, by show h.nx < σ.nx + 1; omega⟩
end
theorem nodup_le : ∀ {n : Nat} {l : List Nat}, l.Nodup → (∀ i ∈ l, i < n) → l.length ≤ n
  | 0, [], _, _ => Nat.le_refl _
  | 0, x :: l, _, h => absurd (h x (by simp)) (by omega)
  | n + 1, l, hn, h => by
    have := nodup_le (n := n) (hn.erase n) fun i hi => by
      have h1 := (hn.mem_erase_iff).1 hi
      have := h i h1.2
      omega
    rw [List.length_erase] at this
    split at this <;> omega
theorem plan_ok {P : Program} {E : Env} {C : Ctx} (hE : EnvOk P E C) (hH : HookOk P E C) (hm : P.follows .mixedOrders = true) {bs : Bool} {rec : Rec} (hrec : RecOk P C rec) {rd : Option Nat} {id : Nat} {opsA : Array Oper} {a : AF} {h : AH} {k : AF → AH → Bool}
    (hk : (match planK bs opsA.toList with
  | some p => drawK bs E rec rd opsA.toList p.Ps p.two p.pi [] a h k
  | none => false) = true) : ∃ a' h', k a' h' = true ∧ Sound P C rd (.code (.region id opsA true)) a h .normal a' h' := by
  split at hk
  · rename_i p hpl
    obtain ⟨hp, hEff⟩ := planK_spec hpl
    obtain ⟨a', h', h1, hs⟩ := drawK_ok hE hp hEff hH hrec p.pi [] rfl [] a h k hk ⟨by simp, by simp, by simp, by simp, by simp⟩
    refine ⟨a', h', h1, fun σ w act kr hfr hrd => wpIn_region_any hm ?_⟩
    have hlen : (p.pi ++ p.tail).length ≤ opsA.size := nodup_le hp.nodup hp.lt
    refine hs σ σ _ act [] _ opsA.size (Sig.le.refl σ) hrd (by simp) ⟨kr.drew, hfr.tm.1, fun t _ => hfr.tm.2 t, hfr.df, by simp, by simp, by simp, by simp, by simp, fun i hi => ?_, fun i hi => ?_⟩ (by simpa using hlen)
    · simp [hi]
    · exfalso
      by_cases h : i < opsA.size
      · simp [h] at hi
      · simp [h] at hi
  · cases hk
theorem drawn_ok {P : Program} {E : Env} {C : Ctx} (hE : EnvOk P E C) (hH : HookOk P E C) (hm : P.follows .mixedOrders = true) : DrawnOk P C (drawn E) := fun rec hrec rd id opsA a h k hk => by
  unfold drawn at hk
  rcases cond_eq hk with ⟨h1, _⟩ | ⟨_, h1⟩
  · exact plan_ok hE hH hm hrec h1
  · exact plan_ok hE hH hm hrec h1
end Go.Refl
end
section
namespace Go.Refl
open Go.RowKit
noncomputable section
def lmap {α β : Type} (f : α → β) (l : List α) : List β := lrec [] (fun x _ ih => f x :: ih) l
def lall {α : Type} (p : α → Bool) (l : List α) : Bool := lrec true (fun x _ ih => cond (p x) ih false) l
def ref0 (m : Nat) (v : AV) : Bool :=
  match v with
  | .bad | .agg _ | .tup _ | .fn _ _ _ | .iface _ _ => false
  | .ptr b _ | .sl b _ _ _ _ | .map b | .yield b => bit m b
  | _ => true
def ref1 (m : Nat) (v : AV) : Bool :=
  match v with
  | .fn _ a c => both (lall (ref0 m) a) (lall (ref0 m) c)
  | .iface _ v => ref0 m v
  | v => ref0 m v
def refA (m : Nat) (v : AV) : Bool :=
  match v with
  | .agg cs => lall (ref1 m) cs
  | .tup cs => lall (ref1 m) cs
  | v => ref1 m v
def ren0 (ρ : Nat → Nat) (v : AV) : AV :=
  match v with
  | .ptr b o => .ptr (ρ b) o
  | .sl b o l c k => .sl (ρ b) o l c k
  | .map b => .map (ρ b)
  | .yield b => .yield (ρ b)
  | v => v
def ren1 (ρ : Nat → Nat) (v : AV) : AV :=
  match v with
  | .fn f a c => .fn f (lmap (ren0 ρ) a) (lmap (ren0 ρ) c)
  | .iface t v => .iface t (ren0 ρ v)
  | v => ren0 ρ v
def renA (ρ : Nat → Nat) (v : AV) : AV :=
  match v with
  | .agg cs => .agg (lmap (ren1 ρ) cs)
  | .tup cs => .tup (lmap (ren1 ρ) cs)
  | v => ren1 ρ v
end
theorem lmap_eq {α β : Type} (f : α → β) : ∀ l : List α, lmap f l = l.map f
  | [] => rfl
  | x :: l => by
    show f x :: lmap f l = _
    rw [lmap_eq f l]; rfl
theorem lall_mem {α : Type} {p : α → Bool} : ∀ {l : List α}, lall p l = true → ∀ x ∈ l, p x = true
  | [], _, x, h => by simp at h
  | y :: l, hk, x, h => by
    obtain ⟨h1, h2⟩ := cond_f (show cond (p y) (lall p l) false = true from hk)
    rcases List.mem_cons.1 h with rfl | h
    · exact h1
    · exact lall_mem h2 x h
theorem conc_ren0 {σ σ2 : Sig} {m : Nat} {ρ : Nat → Nat} (hρ : ∀ b, bit m b = true → ∀ x, σ b = some x → σ2 (ρ b) = some x) {v : AV} (hr : ref0 m v = true) {z : Value} (h : conc σ v = some z) : conc σ2 (ren0 ρ v) = some z := by
  have go : ∀ b, bit m b = true → ∀ f : Loc → Value, (σ b).map f = some z → (σ2 (ρ b)).map f = some z := fun b hb f hz => by
    cases e : σ b with
    | none => rw [e] at hz; cases hz
    | some x => rw [e] at hz; rw [hρ b hb x e]; exact hz
  cases v with
  | ptr b o => simp only [conc, ren0] at h ⊢; exact go b hr _ h
  | sl b o l c k => simp only [conc, ren0] at h ⊢; exact go b hr _ h
  | map b => simp only [conc, ren0] at h ⊢; exact go b hr _ h
  | yield b => simp only [conc, ren0] at h ⊢; exact go b hr _ h
  | bad => cases hr
  | agg _ => cases hr
  | tup _ => cases hr
  | fn _ _ _ => cases hr
  | iface _ _ => cases hr
  | _ => simp only [conc, ren0] at h ⊢; exact h
theorem concL_ren {σ σ2 : Sig} {r : AV → AV} {p : AV → Bool} (hp : ∀ v, p v = true → ∀ z, conc σ v = some z → conc σ2 (r v) = some z) : ∀ {l : List AV} {zs : List Value}, lall p l = true → concL σ l = some zs → concL σ2 (lmap r l) = some zs
  | [], zs, _, h => h
  | v :: l, zs, hk, h => by
    obtain ⟨h1, h2⟩ := cond_f (show cond (p v) (lall p l) false = true from hk)
    simp only [concL] at h
    cases hv : conc σ v with
    | none => rw [hv] at h; cases h
    | some z =>
      cases hl : concL σ l with
      | none => rw [hv, hl] at h; cases h
      | some l' =>
        rw [hv, hl] at h
        show concL σ2 (r v :: lmap r l) = some zs
        simp only [concL, hp v h1 z hv, concL_ren hp h2 hl]
        exact h
theorem conc_ren1 {σ σ2 : Sig} {m : Nat} {ρ : Nat → Nat} (hρ : ∀ b, bit m b = true → ∀ x, σ b = some x → σ2 (ρ b) = some x) {v : AV} (hr : ref1 m v = true) {z : Value} (h : conc σ v = some z) : conc σ2 (ren1 ρ v) = some z := by
  cases v with
  | fn f a c =>
    obtain ⟨h1, h2⟩ := (both_eq _ _).1 (show both (lall (ref0 m) a) (lall (ref0 m) c) = true from hr)
    simp only [conc] at h
    cases ha : concL σ a with
    | none => rw [ha] at h; cases h
    | some la =>
      cases hc : concL σ c with
      | none => rw [ha, hc] at h; cases h
      | some lc =>
        rw [ha, hc] at h
        simp only [ren1, conc, concL_ren (fun v hv z hz => conc_ren0 hρ hv hz) h1 ha, concL_ren (fun v hv z hz => conc_ren0 hρ hv hz) h2 hc]
        exact h
  | iface t v =>
    simp only [conc] at h
    cases hv : conc σ v with
    | none => rw [hv] at h; cases h
    | some u =>
      rw [hv] at h
      simp only [ren1, conc, conc_ren0 hρ (show ref0 m v = true from hr) hv]
      exact h
  | _ => exact @conc_ren0 σ σ2 m ρ hρ _ (by exact hr) z h
theorem conc_renA {σ σ2 : Sig} {m : Nat} {ρ : Nat → Nat} (hρ : ∀ b, bit m b = true → ∀ x, σ b = some x → σ2 (ρ b) = some x) {v : AV} (hr : refA m v = true) {z : Value} (h : conc σ v = some z) : conc σ2 (renA ρ v) = some z := by
  cases v with
  | agg cs =>
    simp only [conc] at h
    cases hc : concL σ cs with
    | none => rw [hc] at h; cases h
    | some l =>
      rw [hc] at h
      simp only [renA, conc, concL_ren (fun v hv z hz => conc_ren1 hρ hv hz) (show lall (ref1 m) cs = true from hr) hc]
      exact h
  | tup cs =>
    simp only [conc] at h
    cases hc : concL σ cs with
    | none => rw [hc] at h; cases h
    | some l =>
      rw [hc] at h
      simp only [renA, conc, concL_ren (fun v hv z hz => conc_ren1 hρ hv hz) (show lall (ref1 m) cs = true from hr) hc]
      exact h
  | _ => exact @conc_ren1 σ σ2 m ρ hρ _ (by exact hr) z h
theorem ren0_id (v : AV) : ren0 id v = v := by cases v <;> rfl
theorem lmap_id {r : AV → AV} (h : ∀ v, r v = v) : ∀ l, lmap r l = l := fun l => by rw [lmap_eq]; exact (List.map_congr_left fun x _ => h x).trans (List.map_id l)
theorem ren1_id (v : AV) : ren1 id v = v := by
  cases v with
  | fn f a c => simp only [ren1, lmap_id ren0_id]
  | iface t v => simp only [ren1, ren0_id]
  | _ => rfl
theorem renA_id (v : AV) : renA id v = v := by
  cases v with
  | agg cs => simp only [renA, lmap_id ren1_id]
  | tup cs => simp only [renA, lmap_id ren1_id]
  | fn f a c => exact ren1_id (.fn f a c)
  | iface t v => exact ren1_id (.iface t v)
  | _ => rfl
noncomputable section
def pairRef (m : Nat) (e : AV × AV × Nat) : Bool := both (ref1 m e.1) (refA m e.2.1)
def pairRef2 (m : Nat) (e : AV × AV) : Bool := both (ref1 m e.1) (refA m e.2)
def oRef (m : Nat) (r : Bool) (o : AO) : Bool :=
  match o with
  | .cells cs _ _ ro => both (cond ro r (not r)) (lall (ref1 m) cs)
  | .map es _ ro => both (cond ro r (not r)) (lall (pairRef m) es)
  | .lmap es => cond r (lall (pairRef2 m) es) false
  | _ => false
def renO (ρ : Nat → Nat) (o : AO) : AO :=
  match o with
  | .cells cs e z ro => .cells (lmap (ren1 ρ) cs) e z ro
  | .map es c ro => .map (lmap (fun e : AV × AV × Nat => (ren1 ρ e.1, renA ρ e.2.1, e.2.2)) es) c ro
  | o => o
def eqE (a b : AV × AV × Nat) : Bool := both (eqA1 a.1 b.1) (both (eqA a.2.1 b.2.1) (Nat.beq a.2.2 b.2.2))
def eqE2 (a b : AV × AV) : Bool := both (eqA1 a.1 b.1) (eqA a.2 b.2)
def leq {α : Type} (e : α → α → Bool) (a : List α) : List α → Bool :=
  lrec (fun b => match b with | [] => true | _ => false)
    (fun x _ ih b => match b with | [] => false | y :: b => cond (e x y) (ih b) false) a
def eqB (a b : Bool) : Bool := cond a b (not b)
def eqO (a b : AO) : Bool :=
  match a, b with
  | .cells cs e z r, .cells cs' e' z' r' => both (both (Nat.beq e e') (Nat.beq z z')) (both (eqB r r') (leq eqA1 cs cs'))
  | .map es c r, .map es' c' r' => both (Nat.beq c c') (both (eqB r r') (leq eqE es es'))
  | .lmap es, .lmap es' => leq eqE2 es es'
  | _, _ => false
def subO (a b : AO) : Bool :=
  match a, b with
  | .cells cs e z _, .cells cs' e' z' true => both (both (Nat.beq e e') (Nat.beq z z')) (leq eqA1 cs cs')
  | .map es c _, .map es' c' true => both (Nat.beq c c') (leq eqE es es')
  | .lmap es, .lmap es' => leq eqE2 es es'
  | _, _ => false
def setL (l : List (Nat × AO)) : Tr AO → (Tr AO → Bool) → Bool := lrec (fun t g => g t) (fun x _ ih t g => t.set x.1 x.2 fun t => ih t g) l
def tellL (l : List (Nat × AO)) (h : AH) : Bool := lall (fun x : Nat × AO => match h.m.get x.1 with | some o => both (subO o x.2) (Nat.ble (Nat.succ x.1) h.nx) | none => false) l
def maskL (l : List (Nat × AO)) : Nat := lrec 0 (fun x _ ih => Nat.lor (shl1 x.1) ih) l
end
theorem leq_eq {α : Type} {e : α → α → Bool} (he : ∀ x y, e x y = true → x = y) : ∀ {a b : List α}, leq e a b = true → a = b
  | [], [], _ => rfl
  | [], _ :: _, h => absurd (show false = true from h) (by decide)
  | _ :: _, [], h => absurd (show false = true from h) (by decide)
  | x :: a, y :: b, h => by
    obtain ⟨h1, h2⟩ := cond_f (show cond (e x y) (leq e a b) false = true from h)
    rw [he _ _ h1, leq_eq he h2]
theorem eqE_eq (a b : AV × AV × Nat) (h : eqE a b = true) : a = b := by
  obtain ⟨a1, a2, a3⟩ := a
  obtain ⟨b1, b2, b3⟩ := b
  simp only [eqE, both_eq] at h
  rw [eqA1_eq h.1, eqA_eq h.2.1, beq_eq h.2.2]
theorem eqE2_eq (a b : AV × AV) (h : eqE2 a b = true) : a = b := by
  obtain ⟨a1, a2⟩ := a
  obtain ⟨b1, b2⟩ := b
  simp only [eqE2, both_eq] at h
  rw [eqA1_eq h.1, eqA_eq h.2]
theorem eqO_eq {a b : AO} (h : eqO a b = true) : a = b := by
  unfold eqO at h
  split at h
  · simp only [both_eq] at h
    rw [beq_eq h.1.1, beq_eq h.1.2, cond_beq h.2.1, leq_eq (fun _ _ => eqA1_eq) h.2.2]
  · simp only [both_eq] at h
    rw [beq_eq h.1, cond_beq h.2.1, leq_eq eqE_eq h.2.2]
  · rw [leq_eq eqE2_eq h]
  · cases h
theorem maskL_bit : ∀ {l : List (Nat × AO)} {b : Nat}, bit (maskL l) b = true ↔ ∃ o, (b, o) ∈ l
  | [], b => by
    have : maskL [] = 0 := rfl
    simp [this, bit_zero]
  | x :: l, b => by
    have e : maskL (x :: l) = Nat.lor (shl1 x.1) (maskL l) := rfl
    rw [e, bit_or, bit_shl1, Bool.or_eq_true, decide_eq_true_eq, maskL_bit]
    constructor
    · rintro (h | ⟨o, h⟩)
      · exact ⟨x.2, by subst h; simp⟩
      · exact ⟨o, by simp [h]⟩
    · rintro ⟨o, h⟩
      rcases List.mem_cons.1 h with h | h
      · exact .inl (by rw [← h])
      · exact .inr ⟨o, h⟩
theorem setL_spec : ∀ {l : List (Nat × AO)} {t : Tr AO} {g : Tr AO → Bool}, setL l t g = true → ∃ t', g t' = true ∧ ∀ b o, t'.get b = some o → (b, o) ∈ l ∨ (∀ p, (b, p) ∉ l) ∧ t.get b = some o
  | [], t, g, h => ⟨t, h, fun b o hb => .inr ⟨by simp, hb⟩⟩
  | x :: l, t, g, h => by
    obtain ⟨t1, h1, hp⟩ := Tr.set_spec t x.1 x.2 _ (show t.set x.1 x.2 (fun t => setL l t g) = true from h)
    obtain ⟨t2, h2, h3⟩ := setL_spec h1
    refine ⟨t2, h2, fun b o hb => ?_⟩
    rcases h3 b o hb with h4 | ⟨h4, h5⟩
    · exact .inl (by simp [h4])
    · rw [hp b] at h5
      by_cases e : b = x.1
      · rw [if_pos e] at h5
        cases h5
        left
        rw [e]; simp
      · rw [if_neg e] at h5
        refine .inr ⟨fun p hp' => ?_, h5⟩
        rcases List.mem_cons.1 hp' with h6 | h6
        · exact e (by rw [← h6])
        · exact h4 p h6
theorem sub_or {σ σ2 : Sig} {m : Nat} {x : Loc} {w : World} {a b : AO} (hs : subO a b = true) (hr : oRef m true b = true) (hσ : ∀ b, bit m b = true → ∀ x, σ b = some x → σ2 b = some x) (h : OR σ x w a) : OR σ2 x w b := by
  have c1 : ∀ {v : AV} {z : Value}, ref1 m v = true → conc σ v = some z → conc σ2 v = some z := fun {v z} hv hz => by
    have := conc_ren1 (ρ := id) hσ hv hz
    rwa [ren1_id] at this
  have cA : ∀ {v : AV} {z : Value}, refA m v = true → conc σ v = some z → conc σ2 v = some z := fun {v z} hv hz => by
    have := conc_renA (ρ := id) hσ hv hz
    rwa [renA_id] at this
  unfold subO at hs
  split at hs
  · rename_i cs e z r cs' e' z'
    simp only [both_eq] at hs
    have h1 := beq_eq hs.1.1; have h2 := beq_eq hs.1.2; have h3 := leq_eq (fun _ _ => eqA1_eq) hs.2
    subst h1 h2 h3
    obtain ⟨_, hrefs⟩ := (both_eq _ _).1 (show both (cond true true (not true)) (lall (ref1 m) cs) = true from hr)
    obtain ⟨arr, fz, q1, q2, q3, q4⟩ := h
    refine ⟨arr, fz, q1, q2, fun i v hv => ?_, fun e => (by cases e), q4.2⟩
    rcases q3 i v hv with hb | ⟨zv, hz, hc⟩
    · exact .inl hb
    · exact .inr ⟨zv, hz, c1 (lall_mem hrefs v (List.mem_of_getElem? hv)) hc⟩
  · rename_i es c r es' c'
    simp only [both_eq] at hs
    have h1 := beq_eq hs.1; have h3 := leq_eq eqE_eq hs.2
    subst h1 h3
    obtain ⟨_, hrefs⟩ := (both_eq _ _).1 (show both (cond true true (not true)) (lall (pairRef m) es) = true from hr)
    obtain ⟨es', q1, q2⟩ := h
    refine ⟨es', q1, ?_⟩
    have : ∀ {es : List (AV × AV × Nat)} {l : List MapEntry}, lall (pairRef m) es = true → concE σ es = some l → concE σ2 es = some l := by
      intro es
      induction es with
      | nil => intro l _ h; exact h
      | cons e es ih =>
        intro l hl h
        obtain ⟨h1, h2⟩ := cond_f (show cond (pairRef m e) (lall (pairRef m) es) false = true from hl)
        obtain ⟨e1, e2, e3⟩ := e
        obtain ⟨r1, r2⟩ := (both_eq _ _).1 h1
        simp only [concE] at h ⊢
        cases hk : conc σ e1 with
        | none => rw [hk] at h; cases h
        | some k =>
          cases hv : conc σ e2 with
          | none => rw [hk, hv] at h; cases h
          | some v =>
            cases he : concE σ es with
            | none => rw [hk, hv, he] at h; cases h
            | some l' => rw [hk, hv, he] at h; rw [c1 r1 hk, cA r2 hv, ih h2 he]; exact h
    exact this hrefs q2
  · rename_i es es'
    have h3 := leq_eq eqE2_eq hs
    subst h3
    have hrefs : lall (pairRef2 m) es = true := hr
    obtain ⟨es', clock, es2, q1, q2, q3, q4, q5⟩ := h
    refine ⟨es', clock, es2, q1, q2, q3, q4, ?_⟩
    have hall : ∀ e ∈ es2, pairRef2 m (e.1, e.2.1) = true := fun e he => lall_mem hrefs _ (q2.mem_iff.1 (List.mem_map.2 ⟨e, he, rfl⟩))
    clear q1 q2
    have : ∀ {es : List (AV × AV × Nat)} {l : List MapEntry}, (∀ e ∈ es, pairRef2 m (e.1, e.2.1) = true) → concE σ es = some l → concE σ2 es = some l := by
      intro es
      induction es with
      | nil => intro l _ h; exact h
      | cons e es ih =>
        intro l hl h
        obtain ⟨e1, e2, e3⟩ := e
        obtain ⟨r1, r2⟩ : ref1 m e1 = true ∧ refA m e2 = true := (both_eq _ _).1 (hl (e1, e2, e3) (by simp))
        simp only [concE] at h ⊢
        cases hk : conc σ e1 with
        | none => rw [hk] at h; cases h
        | some k =>
          cases hv : conc σ e2 with
          | none => rw [hk, hv] at h; cases h
          | some v =>
            cases he : concE σ es with
            | none => rw [hk, hv, he] at h; cases h
            | some l' => rw [hk, hv, he] at h; rw [c1 r1 hk, cA r2 hv, ih (fun e he => hl e (by simp [he])) he]; exact h
    exact this hall q5
  · cases hs
theorem ren_or {σ σ2 : Sig} {m : Nat} {ρ : Nat → Nat} {x : Loc} {w : World} {a : AO} (hr : oRef m false a = true) (hσ : ∀ b, bit m b = true → ∀ x, σ b = some x → σ2 (ρ b) = some x) (h : OR σ x w a) : OR σ2 x w (renO ρ a) := by
  have c1 : ∀ {v : AV} {z : Value}, ref1 m v = true → conc σ v = some z → conc σ2 (ren1 ρ v) = some z := fun {v z} hv hz => conc_ren1 hσ hv hz
  have cA : ∀ {v : AV} {z : Value}, refA m v = true → conc σ v = some z → conc σ2 (renA ρ v) = some z := fun {v z} hv hz => conc_renA hσ hv hz
  cases a with
  | cells cs e z r =>
    obtain ⟨_, hrefs⟩ := (both_eq _ _).1 (show both (cond r false (not false)) (lall (ref1 m) cs) = true from hr)
    obtain ⟨arr, fz, q1, q2, q3, q4⟩ := h
    simp only [renO, lmap_eq]
    refine ⟨arr, fz, q1, by simpa using q2, fun i v hv => ?_, q4.1, fun e => by simpa using q4.2 e⟩
    rw [List.getElem?_map] at hv
    cases hu : cs[i]? with
    | none => rw [hu] at hv; cases hv
    | some u =>
      rw [hu] at hv
      cases hv
      rcases q3 i u hu with hb | ⟨zv, hz, hc⟩
      · have := lall_mem hrefs u (List.mem_of_getElem? hu)
        rw [hb] at this; cases this
      · exact .inr ⟨zv, hz, c1 (lall_mem hrefs u (List.mem_of_getElem? hu)) hc⟩
  | map es c r =>
    obtain ⟨_, hrefs⟩ := (both_eq _ _).1 (show both (cond r false (not false)) (lall (pairRef m) es) = true from hr)
    obtain ⟨es', q1, q2⟩ := h
    simp only [renO, lmap_eq]
    refine ⟨es', q1, ?_⟩
    have : ∀ {es : List (AV × AV × Nat)} {l : List MapEntry}, lall (pairRef m) es = true → concE σ es = some l → concE σ2 (es.map fun e : AV × AV × Nat => (ren1 ρ e.1, renA ρ e.2.1, e.2.2)) = some l := by
      intro es
      induction es with
      | nil => intro l _ h; exact h
      | cons e es ih =>
        intro l hl h
        obtain ⟨h1, h2⟩ := cond_f (show cond (pairRef m e) (lall (pairRef m) es) false = true from hl)
        obtain ⟨e1, e2, e3⟩ := e
        obtain ⟨r1, r2⟩ := (both_eq _ _).1 h1
        simp only [concE, List.map_cons] at h ⊢
        cases hk : conc σ e1 with
        | none => rw [hk] at h; cases h
        | some k =>
          cases hv : conc σ e2 with
          | none => rw [hk, hv] at h; cases h
          | some v =>
            cases he : concE σ es with
            | none => rw [hk, hv, he] at h; cases h
            | some l' => rw [hk, hv, he] at h; rw [c1 r1 hk, cA r2 hv, ih h2 he]; exact h
    exact this hrefs q2
  | _ => cases hr
theorem renO_owns (ρ : Nat → Nat) (a : AO) : (renO ρ a).owns = a.owns := by cases a <;> rfl
theorem renO_ro (ρ : Nat → Nat) (a : AO) : (renO ρ a).ro = a.ro := by cases a <;> rfl
theorem oRef_ro {m : Nat} {r : Bool} {a : AO} (h : oRef m r a = true) : a.ro = r ∧ a.owns = true := by
  cases a with
  | cells cs e z ro =>
    obtain ⟨h1, _⟩ := (both_eq _ _).1 (show both (cond ro r (not r)) (lall (ref1 m) cs) = true from h)
    exact ⟨(by cases ro <;> cases r <;> first | rfl | cases h1), rfl⟩
  | map es c ro =>
    obtain ⟨h1, _⟩ := (both_eq _ _).1 (show both (cond ro r (not r)) (lall (pairRef m) es) = true from h)
    exact ⟨(by cases ro <;> cases r <;> first | rfl | cases h1), rfl⟩
  | lmap es =>
    cases r with
    | true => exact ⟨rfl, rfl⟩
    | false => cases h
  | _ => cases h
theorem subO_owns {a b : AO} (h : subO a b = true) : a.owns = true := by
  unfold subO at h
  split at h <;> first | rfl | cases h
end Go.Refl
end
section
namespace Go.Refl
open Go.RowKit
structure Piece where
  f : FuncId
  args : List AV
  base : List (Nat × AO)
  nx : Nat
  v : AV
  res : List (Nat × AO)
  more : Nat
noncomputable section
def Piece.mb (G : Nat) (p : Piece) : Nat := Nat.lor (Nat.sub (shl1 G) 1) (maskL p.base)
def Piece.fits (G : Nat) (p : Piece) : Bool :=
  both (both (Nat.ble (Nat.succ (p.mb G)) (shl1 p.nx)) (both (lall (refA (p.mb G)) p.args) (lall (fun x : Nat × AO => oRef (p.mb G) true x.2) p.base)))
    (both (lall (fun x : Nat × AO => both (both (Nat.ble p.nx x.1) (Nat.ble (Nat.succ x.1) (Nat.add p.nx p.more))) (oRef (Nat.lor (p.mb G) (maskL p.res)) false x.2)) p.res) (refA (Nat.lor (p.mb G) (maskL p.res)) p.v))
def resEq (l : List (Nat × AO)) (h : AH) : Bool := lall (fun x : Nat × AO => match h.m.get x.1 with | some o => eqO o x.2 | none => false) l
def Piece.runs (E : Env) (n : Nat) (p : Piece) : Bool := setL p.base .leaf fun m => callK E (run E (drawn E) n) p.f p.args ⟨m, p.nx⟩ fun v h => both (eqA v p.v) (resEq p.res h)
def shift (nx nx' b : Nat) : Nat := cond (Nat.ble nx b) (Nat.add nx' (Nat.sub b nx)) b
def Piece.here (p : Piece) (args : List AV) (h : AH) : Bool := both (leq eqA args p.args) (tellL p.base h)
def Piece.take (p : Piece) (h : AH) (g : AV → AH → Bool) : Bool :=
  setL (lmap (fun x : Nat × AO => (shift p.nx h.nx x.1, renO (shift p.nx h.nx) x.2)) p.res) h.m fun m => fn_ (Nat.add h.nx p.more) fun n => g (renA (shift p.nx h.nx) p.v) ⟨m, n⟩
def pieces (ps : List Piece) (f : FuncId) (args : List AV) (h : AH) (g : AV → AH → Bool) (z : Option Bool) : Option Bool :=
  lrec z (fun p _ ih => cond (Nat.beq f p.f) (cond (p.here args h) (some (p.take h g)) ih) ih) ps
end
theorem shift_old {nx nx' b : Nat} (h : b < nx) : shift nx nx' b = b := by
  unfold shift
  have : Nat.ble nx b = false := by
    cases e : Nat.ble nx b with
    | false => rfl
    | true => have := ble_eq e; omega
  rw [this]; rfl
theorem shift_new {nx nx' b : Nat} (h : nx ≤ b) : shift nx nx' b = nx' + (b - nx) := by
  unfold shift
  rw [Nat.ble_eq_true_of_le h]; rfl
theorem args_sub {σ σ2 : Sig} {m : Nat} (hσ : ∀ b, bit m b = true → ∀ x, σ b = some x → σ2 b = some x) {args : List AV} {vals : List Value} (hr : lall (refA m) args = true) (h : ARel σ args vals) : ARel σ2 args vals :=
  ⟨h.1, fun i v x e1 e2 => by
    rcases h.2 i v x e1 e2 with hb | hc
    · exact .inl hb
    · have := conc_renA (ρ := id) hσ (lall_mem hr v (List.mem_of_getElem? e1)) hc
      rw [renA_id] at this
      exact .inr this⟩
theorem piece_ok {P : Program} {E : Env} {Good : Ctx → Prop} (hgG : ∀ C, Good C → C.G = E.ng) (hst : ∀ (C : Ctx) (w : World), Good C → C.B ≤ w.heap.size → Below C.B C.w0 w → Good ⟨C.G, w.heap.size, w⟩)
    (hE : ∀ C : Ctx, Good C → EnvOk P E C) (hH : ∀ C : Ctx, Good C → HookOk P E C) (hm : P.follows .mixedOrders = true) {n : Nat} {p : Piece} (hfit : p.fits E.ng = true) (hrun : p.runs E n = true)
    {C : Ctx} (hgood : Good C) {args : List AV} {h : AH} {g : AV → AH → Bool} (hhere : p.here args h = true) (htake : p.take h g = true) : ∃ v h', g v h' = true ∧ CallOk P C p.f args h v h' := by
  have hG := hgG C hgood
  unfold Piece.fits at hfit
  simp only [both_eq] at hfit
  obtain ⟨⟨f1, f2, f3⟩, f4, f5⟩ := hfit
  obtain ⟨e1, e2⟩ := (both_eq _ _).1 (show both (leq eqA args p.args) (tellL p.base h) = true from hhere)
  have e1 := leq_eq (fun _ _ => eqA_eq) e1
  subst e1
  generalize hmb : p.mb E.ng = mb at f1 f2 f3 f4 f5
  have hG0 : ∀ b, b < E.ng → bit mb b = true := fun b hb => by
    rw [← hmb]
    unfold Piece.mb
    rw [bit_or, Bool.or_eq_true]
    left
    rw [bit_eq]
    have : Nat.sub (shl1 E.ng) 1 = 2 ^ E.ng - 1 := by
      show 1 <<< E.ng - 1 = _
      rw [Nat.one_shiftLeft]
    rw [this, Nat.testBit_two_pow_sub_one]; simpa using hb
  have hbase : ∀ b o, (b, o) ∈ p.base → bit mb b = true := fun b o hb => by
    rw [← hmb]
    unfold Piece.mb
    rw [bit_or, Bool.or_eq_true]
    exact .inr (maskL_bit.2 ⟨o, hb⟩)
  have hlt : ∀ b, bit mb b = true → b < p.nx := fun b hb => by
    have h1 := ble_eq f1
    have : mb < 2 ^ p.nx := by
      have e : shl1 p.nx = 2 ^ p.nx := by
        show 1 <<< p.nx = _
        rw [Nat.one_shiftLeft]
      rw [e] at h1; exact h1
    apply Nat.lt_of_not_le
    intro hle
    rw [bit_eq, Nat.testBit_lt_two_pow (Nat.lt_of_lt_of_le this (Nat.pow_le_pow_right (by omega) hle))] at hb
    cases hb
  have htell : ∀ b o, (b, o) ∈ p.base → ∃ o', h.m.get b = some o' ∧ subO o' o = true ∧ b < h.nx := fun b o hb => by
    have := lall_mem e2 (b, o) hb
    simp only at this
    split at this
    · rename_i o' ho
      obtain ⟨q1, q2⟩ := (both_eq _ _).1 this
      exact ⟨o', ho, q1, ble_eq q2⟩
    · cases this
  have hres : ∀ b o, (b, o) ∈ p.res → p.nx ≤ b ∧ b < p.nx + p.more ∧ oRef (Nat.lor mb (maskL p.res)) false o = true := fun b o hb => by
    have := lall_mem f4 (b, o) hb
    simp only [both_eq] at this
    exact ⟨ble_eq this.1.1, ble_eq this.1.2, this.2⟩
  obtain ⟨m, hrun2, hget⟩ := setL_spec hrun
  have hrun3 : ∀ C' : Ctx, Good C' → ∃ h', CallOk P C' p.f p.args ⟨m, p.nx⟩ p.v h' ∧ ∀ b o, (b, o) ∈ p.res → h'.m.get b = some o := fun C' hC' => by
    obtain ⟨v, h', q1, q2⟩ := callK_spec (hE C' hC') (hH C' hC') (run_ok (hE C' hC') (hH C' hC') (drawn_ok (hE C' hC') (hH C' hC') hm) n) hrun2
    obtain ⟨q3, q4⟩ := (both_eq _ _).1 q1
    have := eqA_eq q3
    subst this
    refine ⟨h', q2, fun b o hb => ?_⟩
    have := lall_mem q4 (b, o) hb
    simp only at this
    split at this
    · rename_i o' ho
      rw [ho, eqO_eq this]
    · cases this
  obtain ⟨m2, hg, hget2⟩ := setL_spec (show setL (lmap (fun x : Nat × AO => (shift p.nx h.nx x.1, renO (shift p.nx h.nx) x.2)) p.res) h.m (fun m => fn_ (Nat.add h.nx p.more) fun n => g (renA (shift p.nx h.nx) p.v) ⟨m, n⟩) = true from htake)
  rw [fn_eq] at hg
  refine ⟨_, _, hg, fun w xs => ?_, fun σ w vals k ha => ?_⟩
  · obtain ⟨h', q1, _⟩ := hrun3 C hgood
    exact q1.1 w xs
  ·
    have hnx := k.nx
    have hold : ∀ b x, σ b = some x → b < h.nx := fun b x hb => by
      apply Nat.lt_of_not_le
      intro hle
      rw [k.fresh b hle] at hb; cases hb
    obtain ⟨σc, hσc⟩ : ∃ σc : Sig, σc = ⟨fun b => if bit mb b = true then σ b else none, p.nx⟩ := ⟨_, rfl⟩
    have hc1 : ∀ b, bit mb b = true → σc b = σ b := fun b hb => by rw [hσc]; simp [hb]
    have hc2 : ∀ b, bit mb b = false → σc b = none := fun b hb => by rw [hσc]; simp [hb]
    have hc3 : σc.nx = p.nx := by rw [hσc]
    have hsub : ∀ b, bit mb b = true → ∀ x, σ b = some x → σc b = some x := fun b hb x hx => by rw [hc1 b hb]; exact hx
    have hrev : ∀ b x, σc b = some x → bit mb b = true ∧ σ b = some x := fun b x hx => by
      cases hb : bit mb b with
      | true => rw [hc1 b hb] at hx; exact ⟨rfl, hx⟩
      | false => rw [hc2 b hb] at hx; cases hx
    obtain ⟨C', hC'⟩ : ∃ C' : Ctx, C' = ⟨C.G, w.heap.size, w⟩ := ⟨_, rfl⟩
    have hCG : Good C' := by rw [hC']; exact hst C w hgood k.base k.below
    have inb : ∀ b o, m.get b = some o → (b, o) ∈ p.base := fun b o hb => by
      rcases hget b o hb with h1 | ⟨_, h1⟩
      · exact h1
      · rw [Tr.get_leaf] at h1; cases h1
    have kc : HRel C' σc ⟨m, p.nx⟩ w := by
      refine ⟨by rw [hC']; exact Below.refl _ _, by rw [hC']; exact Nat.le_refl _, fun b hb => ?_, fun b hb => ?_, hc3, fun b o x h1 h2 => ?_, fun b o x h1 h2 h3 h4 => ?_, fun b c o q x y h1 h2 h3 h4 hne h5 h6 => ?_⟩
      · rw [hC'] at hb
        exact hsub b (hG0 b (by rw [← hG]; exact hb)) _ (k.glob b hb)
      · cases hbit : bit mb b with
        | true => have := hlt b hbit; simp only at hb; omega
        | false => exact hc2 b hbit
      · obtain ⟨o', q1, q2, _⟩ := htell b o (inb b o h1)
        exact sub_or q2 (lall_mem f3 (b, o) (inb b o h1)) hsub (k.obj b o' x q1 (hrev b x h2).2)
      · have := (oRef_ro (lall_mem f3 (b, o) (inb b o h1))).1
        rw [this] at h4; cases h4
      · obtain ⟨o', q1, q2, _⟩ := htell b o (inb b o h1)
        obtain ⟨p', q3, q4, _⟩ := htell c q (inb c q h2)
        exact k.apart b c o' p' x y q1 q3 (hrev b x h3).2 (hrev c y h4).2 hne (subO_owns q2) (subO_owns q4)
    obtain ⟨h', hcall, hmade⟩ := hrun3 C' hCG
    refine (hcall.2 σc w vals kc (args_sub hsub f2 ha)).mono fun e w' hq => ?_
    obtain ⟨x, σ', rfl, hle, k', hx⟩ := hq
    have hbelow : Below w.heap.size w w' := by have := k'.below; rw [hC'] at this; exact this
    obtain ⟨σ2, hσ2⟩ : ∃ σ2 : Sig, σ2 = ⟨fun b => if b < h.nx then σ b else if bit (maskL p.res) (b - h.nx + p.nx) = true then σ' (b - h.nx + p.nx) else none, h.nx + p.more⟩ := ⟨_, rfl⟩
    have s1 : ∀ b, b < h.nx → σ2 b = σ b := fun b hb => by rw [hσ2]; simp [hb]
    have s2 : ∀ b, p.nx ≤ b → bit (maskL p.res) b = true → σ2 (h.nx + (b - p.nx)) = σ' b := fun b hb hbit => by
      rw [hσ2]
      have e1 : ¬ (h.nx + (b - p.nx) < h.nx) := by omega
      have e2 : h.nx + (b - p.nx) - h.nx + p.nx = b := by omega
      simp only [e1, if_false, e2, hbit, if_true]
    have s3 : ∀ b x, σ2 b = some x → ¬ b < h.nx → ∃ c, b = h.nx + (c - p.nx) ∧ p.nx ≤ c ∧ bit (maskL p.res) c = true ∧ σ' c = some x := fun b x hb hn => by
      rw [hσ2] at hb
      simp only [hn, if_false] at hb
      cases hbit : bit (maskL p.res) (b - h.nx + p.nx) with
      | false => rw [hbit] at hb; simp at hb
      | true =>
        rw [hbit, if_pos rfl] at hb
        exact ⟨b - h.nx + p.nx, by omega, by omega, hbit, hb⟩
    have hle2 : σ.le σ2 := by
      refine ⟨fun b x hb => ?_, ?_, fun b hb hn => ?_⟩
      · rw [s1 b (hold b x hb)]; exact hb
      · rw [hσ2]; simp only; omega
      · rw [s1 b (by omega)]; exact hn
    have hρ : ∀ b, bit (Nat.lor mb (maskL p.res)) b = true → ∀ x, σ' b = some x → σ2 (shift p.nx h.nx b) = some x := fun b hb x hx => by
      rw [bit_or, Bool.or_eq_true] at hb
      rcases hb with hb | hb
      · have hbl := hlt b hb
        have hs : σ b = some x := by
          cases hs : σc b with
          | none =>
            rw [hle.not b (by rw [hc3]; exact hbl) hs] at hx; cases hx
          | some y =>
            rw [hle b y hs] at hx
            cases hx
            exact (hrev b _ hs).2
        rw [shift_old hbl, s1 b (hold b x hs)]; exact hs
      · obtain ⟨o, ho⟩ := maskL_bit.1 hb
        have h1 := (hres b o ho).1
        rw [shift_new h1, s2 b h1 hb]; exact hx
    have told : ∀ b o x, m2.get b = some o → σ2 b = some x → (b < h.nx ∧ h.m.get b = some o ∧ σ b = some x) ∨
        (∃ c a, ¬ b < h.nx ∧ (c, a) ∈ p.res ∧ o = renO (shift p.nx h.nx) a ∧ h'.m.get c = some a ∧ σ' c = some x ∧ b = h.nx + (c - p.nx)) := fun b o x hb hx => by
      rcases hget2 b o hb with h1 | ⟨h1, h2⟩
      · right
        rw [lmap_eq] at h1
        obtain ⟨⟨c, a⟩, hca, he⟩ := List.mem_map.1 h1
        simp only [Prod.mk.injEq] at he
        obtain ⟨rfl, rfl⟩ := he
        obtain ⟨q1, q2, q3⟩ := hres c a hca
        rw [shift_new q1] at hx ⊢
        rw [s2 c q1 (maskL_bit.2 ⟨a, hca⟩)] at hx
        exact ⟨c, a, by omega, hca, rfl, hmade c a hca, hx, rfl⟩
      · by_cases hn : b < h.nx
        · left
          rw [s1 b hn] at hx
          exact ⟨hn, h2, hx⟩
        · exfalso
          obtain ⟨c, q1, q2, q3, _⟩ := s3 b x hx hn
          obtain ⟨a, ha⟩ := maskL_bit.1 q3
          refine h1 (renO (shift p.nx h.nx) a) ?_
          rw [lmap_eq]
          refine List.mem_map.2 ⟨(c, a), ha, ?_⟩
          simp only [shift_new q2, q1]
    refine ⟨x, σ2, rfl, hle2, ⟨k.below.trans (hbelow.mono k.base), Nat.le_trans k.base hbelow.size, fun b hb => hle2 b _ (k.glob b hb), fun b hb => ?_, ?_, fun b o x h1 h2 => ?_, fun b o x h1 h2 h3 h4 => ?_, fun b c o q x y h1 h2 h3 h4 hne h5 h6 => ?_⟩, ?_⟩
    · cases hs : σ2 b with
      | none => rfl
      | some x =>
        have hb' : h.nx + p.more ≤ b := hb
        obtain ⟨c, q1, q2, q3, _⟩ := s3 b x hs (by omega)
        obtain ⟨a, ha⟩ := maskL_bit.1 q3
        have := (hres c a ha).2.1
        omega
    · rw [hσ2]; rfl
    · rcases told b o x h1 h2 with ⟨q1, q2, q3⟩ | ⟨c, a, q1, q2, q3, q4, q5, q6⟩
      · have hor := k.obj b o x q2 q3
        by_cases ho : o.owns = true
        · exact hor.mono hle2.get (hbelow.block _ (hor.lt ho))
        · exact hor.ownless hle2.get (by simpa using ho)
      · rw [q3]
        exact ren_or (hres c a q2).2.2 hρ (k'.obj c a x q4 q5)
    · rcases told b o x h1 h2 with ⟨q1, q2, q3⟩ | ⟨c, a, q1, q2, q3, q4, q5, q6⟩
      · exact k.own b o x q2 q3 h3 h4
      · rw [q3, renO_owns] at h3
        rw [q3, renO_ro] at h4
        have := k'.own c a x q4 q5 h3 h4
        rw [hC'] at this
        exact Nat.le_trans k.base this
    · have newlow : ∀ c a x, (c, a) ∈ p.res → h'.m.get c = some a → σ' c = some x → w.heap.size ≤ x.blk := fun c a x r1 r2 r3 => by
        obtain ⟨r4, r5⟩ := oRef_ro (hres c a r1).2.2
        have := k'.own c a x r2 r3 r5 r4
        rw [hC'] at this
        exact this
      rcases told b o x h1 h3 with ⟨q1, q2, q3⟩ | ⟨b', a, q1, q2, q3, q4, q5, q6⟩
      · rcases told c q y h2 h4 with ⟨r1, r2, r3⟩ | ⟨c', a', r1, r2, r3, r4, r5, r6⟩
        · exact k.apart b c o q x y q2 r2 q3 r3 hne h5 h6
        · have := (k.obj b o x q2 q3).lt h5
          have := newlow c' a' y r2 r4 r5
          omega
      · rcases told c q y h2 h4 with ⟨r1, r2, r3⟩ | ⟨c', a', r1, r2, r3, r4, r5, r6⟩
        · have := (k.obj c q y r2 r3).lt h6
          have := newlow b' a x q2 q4 q5
          omega
        · rw [q3, renO_owns] at h5
          rw [r3, renO_owns] at h6
          exact k'.apart b' c' a a' x y q4 r4 q5 r5 (fun e => hne (by rw [q6, r6, e])) h5 h6
    · rcases hx with hb | hc
      · left
        rw [hb] at f5; cases f5
      · exact .inr (conc_renA hρ f5 hc)
theorem pieces_ok {P : Program} {C : Ctx} {z : Option Bool} {f : FuncId} {args : List AV} {h : AH} {g : AV → AH → Bool} : ∀ {ps : List Piece},
    (∀ p ∈ ps, ∀ args h g, p.here args h = true → p.take h g = true → ∃ v h', g v h' = true ∧ CallOk P C p.f args h v h') → pieces ps f args h g z = some true →
    z = some true ∨ ∃ v h', g v h' = true ∧ CallOk P C f args h v h'
  | [], _, hk => .inl hk
  | p :: ps, hp, hk => by
    have hk' : cond (Nat.beq f p.f) (cond (p.here args h) (some (p.take h g)) (pieces ps f args h g z)) (pieces ps f args h g z) = some true := hk
    have rest := pieces_ok (ps := ps) (z := z) (f := f) (args := args) (h := h) (g := g) fun q hq => hp q (by simp [hq])
    cases hf : Nat.beq f p.f with
    | false => rw [hf] at hk'; exact rest hk'
    | true =>
      rw [hf, cond_true] at hk'
      cases hh : p.here args h with
      | false => rw [hh] at hk'; exact rest hk'
      | true =>
        rw [hh, cond_true] at hk'
        have ht : p.take h g = true := by simpa using hk'
        have := beq_eq hf
        subst this
        exact .inr (hp p (by simp) args h g hh ht)
end Go.Refl
end
