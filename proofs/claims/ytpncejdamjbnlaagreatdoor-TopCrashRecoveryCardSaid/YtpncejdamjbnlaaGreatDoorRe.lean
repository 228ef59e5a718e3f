/-
  A part of the proof of TopCrashRecovery: an abstract machine that the kernel runs, and its soundness.
-/
import Derived.Test.YtpncejdamjbnlaaGreatDoorRd
import Derived.ChangeKeysEq
set_option linter.all false
namespace Go.Refl
open Go.RowKit
theorem intsL_spec : ∀ {cs : List AV}, intsL cs = true → ∀ v ∈ cs, ∃ k m, v = .int k m
  | [], _, v, hv => by simp at hv
  | u :: cs, h, v, hv => by
    cases u with
    | int k m =>
      rcases List.mem_cons.1 hv with rfl | hv
      · exact ⟨k, m, rfl⟩
      · exact intsL_spec (show intsL cs = true from h) v hv
    | _ => exact absurd (show false = true from h) (by decide)
theorem ba_beq (a b : ByteArray) : (a == b) = true ↔ a = b := by
  obtain ⟨a⟩ := a
  obtain ⟨b⟩ := b
  show (a == b) = true ↔ _
  simp
theorem eqL_spec : ∀ (a b : List AV) (g : Bool → Bool), eqL a b g = true → ∃ r, g r = true ∧ a.length = b.length ∧ (r = true ↔ a = b) ∧
    ∀ (i : Nat) x y, a[i]? = some x → b[i]? = some y → ∃ k m n, x = .int k m ∧ y = .int k n
  | [], [], g, h => ⟨true, h, rfl, by simp, fun i x y e => by simp at e⟩
  | [], _ :: _, g, h => absurd (show false = true from h) (by decide)
  | x :: a, [], g, h => absurd (show false = true from h) (by decide)
  | x :: a, y :: b, g, h => by
    cases x with
    | int k m =>
      cases y with
      | int k' n =>
        obtain ⟨h1, h2⟩ := cond_f (show cond (eqK k k') (cond (eqI m n) (eqL a b g) (eqL a b fun _ => g false)) false = true from h)
        have := eqK_eq h1; subst this
        rcases cond_eq h2 with ⟨h3, h4⟩ | ⟨h3, h4⟩
        · rw [eqI_eq] at h3
          have h3 : m = n := by simpa using h3
          subst h3
          obtain ⟨r, hr, hl, hiff, hk⟩ := eqL_spec a b g h4
          refine ⟨r, hr, by simp [hl], by rw [hiff]; simp, fun i u v e1 e2 => ?_⟩
          cases i with
          | zero => simp at e1 e2; subst e1; subst e2; exact ⟨_, _, _, rfl, rfl⟩
          | succ i => simp at e1 e2; exact hk i u v e1 e2
        · rw [eqI_eq] at h3
          have h3 : m ≠ n := by simpa using h3
          obtain ⟨r, hr, hl, hiff, hk⟩ := eqL_spec a b _ h4
          refine ⟨false, hr, by simp [hl], by simp [h3], fun i u v e1 e2 => ?_⟩
          cases i with
          | zero => simp at e1 e2; subst e1; subst e2; exact ⟨_, _, _, rfl, rfl⟩
          | succ i => simp at e1 e2; exact hk i u v e1 e2
      | _ => exact absurd (show false = true from h) (by decide)
    | _ => exact absurd (show false = true from h) (by decide)
section
variable {P : Program} {E : Env} {C : Ctx} (hE : EnvOk P E C)
theorem conc_ints_inj {σ : Sig} {a b : List AV} {la lb : List Value} (ha : concL σ a = some la) (hb : concL σ b = some lb) (hl : a.length = b.length)
    (hk : ∀ (i : Nat) x y, a[i]? = some x → b[i]? = some y → ∃ k m n, x = .int k m ∧ y = .int k n) : a = b ↔ la = lb := by
  constructor
  · intro e; subst e; rw [ha] at hb; cases hb; rfl
  · intro e
    subst e
    apply List.ext_getElem?
    intro i
    by_cases hi : i < a.length
    · have ea := List.getElem?_eq_getElem hi
      have eb := List.getElem?_eq_getElem (show i < b.length by omega)
      obtain ⟨k, m, n, e1, e2⟩ := hk i _ _ ea eb
      obtain ⟨z, hz, hc⟩ := concL_get ha i _ ea
      obtain ⟨z', hz', hc'⟩ := concL_get hb i _ eb
      rw [hz] at hz'; cases hz'
      rw [e1] at hc; rw [e2] at hc'
      simp only [conc, Option.some.injEq] at hc hc'
      rw [← hc] at hc'; cases hc'
      rw [ea, eb, e1, e2]
    · rw [List.getElem?_eq_none (by omega), List.getElem?_eq_none (by omega)]
theorem eq_of2 {t : TypeId} {x' y' : Value} {r : Bool} {w : World} (h : ∀ n, 0 < n → (Op.equalIn (n + 1) t x' y').run P w = .ok r w) : (Op.equal t x' y').run P w = .ok r w := h 9999 (by decide)
include hE in
theorem run_part_int {e : TypeId} {ea : ATy} {kk : IntKind} (he : E.ty.get e = some ea) (hd : ea.d = .int kk) (xs : Array Value) (j : Nat) {v : Value} (hv : xs[j]? = some v) (w : World) : (part e xs j).run P w = .ok v w := by
  simp [part, run_isAgg hE he, hd, isAggD, hv]
include hE in
theorem run_eqItems {e : TypeId} {ea : ATy} {kk : IntKind} (he : E.ty.get e = some ea) (hd : ea.d = .int kk) (d : Nat) (xs ys : Array Value) (w : World) : ∀ (js : List Nat), (∀ j ∈ js, ∃ k m n, xs[j]? = some (.int k m) ∧ ys[j]? = some (.int k n)) →
    ∃ r, (Op.eqItems (d + 1) e 1 xs ys js).run P w = .ok r w ∧ (r = true ↔ ∀ j ∈ js, xs[j]? = ys[j]?)
  | [], _ => ⟨true, by simp [Op.eqItems], by simp⟩
  | j :: js, h => by
    obtain ⟨k, m, n, h1, h2⟩ := h j (by simp)
    obtain ⟨r, hr, hiff⟩ := run_eqItems he hd d xs ys w js (fun j hj => h j (by simp [hj]))
    have hu := run_und hE he (w := w)
    have he' : (Op.equalIn (d + 1) e (.int k m) (.int k n)).run P w = .ok (m == n) w := by
      simp only [Op.equalIn, Sem.run_bind, hu, Result.andThen_ok, hd]
      simp
    simp only [Op.eqItems, Sem.run_bind, Nat.mul_one, run_part_int hE he hd xs j h1, run_part_int hE he hd ys j h2, Result.andThen_ok, he']
    by_cases hmn : m = n
    · subst hmn
      refine ⟨r, by simpa using hr, by rw [hiff]; simp [h1, h2]⟩
    · refine ⟨false, by simp [hmn], ?_⟩
      simp [h1, h2, hmn]
def KeyEq (P : Program) (d : TypeDesc) (kt : TypeId) (x' y' : Value) (r : Bool) : Prop :=
  (∀ w, (Op.equal kt x' y').run P w = .ok r w) ∧ ((∃ n e, d = .array n e) ∨ Instr.sameNow d x' y' = some r) ∧ ((∃ n e, d = .array n e) → Instr.sameNow d x' y' = none)
include hE in
theorem eqKey_spec {kt : TypeId} {ka : ATy} (hkt : E.ty.get kt = some ka) {x y : AV} {g : Bool → Bool} (hkind : keyKind E ka.d x = true) (h : eqKey x y g = true) :
    ∃ r, g r = true ∧ ∀ σ x' y', conc σ x = some x' → conc σ y = some y' → KeyEq P ka.d kt x' y' r ∧ (r = true → Instr.sameBits 10000 y' x' = true ∧ y' = x') := by
  have hu := fun w => run_und hE hkt (w := w)
  unfold keyKind at hkind
  split at hkind
  ·
    rename_i kk k m hd
    cases y with
    | int k' b =>
      obtain ⟨h1, h2⟩ := cond_f (show cond (eqK k k') (bBool (eqI m b) g) false = true from h)
      have := eqK_eq h1; subst this
      refine ⟨_, bBool_eq h2, fun σ x' y' e1 e2 => ?_⟩
      cases e1; cases e2
      rw [eqI_eq]
      refine ⟨⟨fun w => eq_of fun n => ?_, .inr ?_, fun ⟨n, e, he⟩ => (by rw [hd] at he; cases he)⟩, fun hr => ?_⟩
      · simp only [Op.equalIn, Sem.run_bind, hu, Result.andThen_ok, hd]; simp
      · rw [hd]; simp [Instr.sameNow]
      · simp at hr; subst hr; exact ⟨by simp [Instr.sameBits], rfl⟩
    | _ => exact absurd (show false = true from h) (by decide)
  ·
    rename_i s hd
    cases y with
    | str t =>
      refine ⟨_, bBool_eq (show bBool (eqS s t) g = true from h), fun σ x' y' e1 e2 => ?_⟩
      simp only [conc] at e1 e2
      split at e1 <;> simp at e1
      split at e2 <;> simp at e2
      rename_i b1 b2
      subst e1; subst e2
      have hb : (bytesOf s == bytesOf t) = eqS s t := by
        rw [eqS_eq, Bool.eq_iff_iff, ba_beq]
        simp only [beq_iff_eq]
        exact ⟨fun e => bytesOf_inj b1 b2 e, fun e => by rw [e]⟩
      refine ⟨⟨fun w => eq_of fun n => ?_, .inr ?_, fun ⟨n, e, he⟩ => (by rw [hd] at he; cases he)⟩, fun hr => ?_⟩
      · simp only [Op.equalIn, Sem.run_bind, hu, Result.andThen_ok, hd, Sem.run_pure, hb]
      · rw [hd]; simp [Instr.sameNow, hb]
      · rw [eqS_eq] at hr; simp at hr; subst hr; exact ⟨by simp only [Instr.sameBits]; exact (ba_beq _ _).2 rfl, rfl⟩
    | _ => exact absurd (show false = true from h) (by decide)
  ·
    rename_i n e cs hd
    split at hkind
    · rename_i kk _ _ he
      have hn := beq_eq ((both_eq _ _).1 hkind).1
      cases y with
      | agg b =>
        obtain ⟨r, hr, hl, hiff, hk⟩ := eqL_spec _ _ _ (show eqL cs b g = true from h)
        refine ⟨r, hr, fun σ x' y' e1 e2 => ?_⟩
        simp only [conc, Option.map_eq_some_iff] at e1 e2
        obtain ⟨la, ha, rfl⟩ := e1
        obtain ⟨lb, hb, rfl⟩ := e2
        have hinj := conc_ints_inj ha hb hl hk
        have hll := concL_length ha
        have hlb := concL_length hb
        obtain ⟨i, q1, q2, q3, q4, q5⟩ := hE.ty kt ka hkt
        obtain ⟨j, p1, p2, p3, p4, p5⟩ := hE.ty e _ he
        have hcell : ∀ j ∈ List.range n, ∃ k m n, la.toArray[j]? = some (.int k m) ∧ lb.toArray[j]? = some (.int k n) := fun j hj => by
          have hj := List.mem_range.1 hj
          have ea := List.getElem?_eq_getElem (show j < cs.length by omega)
          have eb := List.getElem?_eq_getElem (show j < b.length by omega)
          obtain ⟨k, m, n, e1, e2⟩ := hk j _ _ ea eb
          obtain ⟨z, hz, hc⟩ := concL_get ha j _ ea
          obtain ⟨z', hz', hc'⟩ := concL_get hb j _ eb
          rw [e1] at hc; rw [e2] at hc'
          cases hc; cases hc'
          exact ⟨k, m, n, by simpa using hz, by simpa using hz'⟩
        have hsb : ∀ (l : List Value), (∀ (j : Nat) z, l[j]? = some z → ∃ k m, z = Value.int k m) → (l.zip l).all (fun (x, y) => Instr.sameBits 9999 x y) = true := fun l hl => by
          rw [List.all_eq_true]
          rintro ⟨x, y⟩ hxy
          obtain ⟨j, hj⟩ := List.getElem?_of_mem hxy
          rw [List.getElem?_zip_eq_some] at hj
          obtain ⟨hj1, hj2⟩ := hj
          rw [hj1] at hj2; cases hj2
          obtain ⟨k, m, rfl⟩ := hl j x hj1
          simp [Instr.sameBits]
        refine ⟨⟨fun w => eq_of2 fun d hdd => ?_, .inl ⟨n, e, hd⟩, fun _ => by rw [hd]; rfl⟩, fun hrt => ?_⟩
        · rw [run_equalIn_array w d la.toArray lb.toArray (by rw [q2, hd]) p1]
          have hc1 : P.cellsOf e = 1 := by simp [Program.cellsOf, p1, p3]
          rw [hc1]
          obtain ⟨d', rfl⟩ : ∃ d', d = d' + 1 := ⟨d - 1, by have := hdd; omega⟩
          obtain ⟨r', hr', hiff'⟩ := run_eqItems hE he rfl d' la.toArray lb.toArray w (List.range n) hcell
          have : r' = r := by
            rw [Bool.eq_iff_iff, hiff', hiff, hinj]
            constructor
            · intro hall
              apply List.ext_getElem?
              intro i
              by_cases hi : i < n
              · have := hall i (List.mem_range.2 hi)
                simpa using this
              · rw [List.getElem?_eq_none (by omega), List.getElem?_eq_none (by omega)]
            · intro e; subst e; intro _ _; rfl
          rw [← this]; exact hr'
        · have := hinj.1 (hiff.1 hrt)
          subst this
          refine ⟨?_, rfl⟩
          simp only [Instr.sameBits, beq_self_eq_true, Bool.true_and]
          refine hsb _ fun j z hz => ?_
          obtain ⟨k, m, n', h1, h2⟩ := hcell j (by
            have := (List.getElem?_eq_some_iff.1 hz).1
            exact List.mem_range.2 (by omega))
          simp at h1; rw [hz] at h1; cases h1; exact ⟨_, _, rfl⟩
      | _ => exact absurd (show false = true from h) (by decide)
    · cases hkind
  · cases hkind
def FindIs (P : Program) (d : TypeDesc) (kt : TypeId) (k' : Value) (es' : List MapEntry) (i : Nat) (o : Option (Nat × Value)) : Prop :=
  ((∃ n e, d = .array n e) ∨ Instr.findNow d k' es' i = some o) ∧ ((∃ n e, d = .array n e) → es' ≠ [] → Instr.findNow d k' es' i = none) ∧ ∀ w, (Instr.findAsking kt k' es' i).run P w = .ok o w
theorem FindIs.nil {d : TypeDesc} {kt : TypeId} {k' : Value} {i : Nat} : FindIs P d kt k' [] i none := ⟨.inr rfl, fun _ h => absurd rfl h, fun w => rfl⟩
theorem FindIs.hit {d : TypeDesc} {kt : TypeId} {k' : Value} {e : MapEntry} {es : List MapEntry} {i : Nat} (h : KeyEq P d kt k' e.key true) : FindIs P d kt k' (e :: es) i (some (i, e.val)) := by
  obtain ⟨h1, h2, h3⟩ := h
  refine ⟨?_, fun ha _ => by simp [Instr.findNow, h3 ha], fun w => by simp [Instr.findAsking, h1 w]⟩
  rcases h2 with h2 | h2
  · exact .inl h2
  · exact .inr (by simp [Instr.findNow, h2])
theorem FindIs.miss {d : TypeDesc} {kt : TypeId} {k' : Value} {e : MapEntry} {es : List MapEntry} {i : Nat} {o : Option (Nat × Value)} (h : KeyEq P d kt k' e.key false) (hr : FindIs P d kt k' es (i + 1) o) : FindIs P d kt k' (e :: es) i o := by
  obtain ⟨h1, h2, h3⟩ := h
  obtain ⟨r1, r2, r3⟩ := hr
  refine ⟨?_, fun ha _ => by simp [Instr.findNow, h3 ha], fun w => by simp [Instr.findAsking, h1 w, r3 w]⟩
  rcases h2 with h2 | h2
  · exact .inl h2
  · rcases r1 with r1 | r1
    · exact .inl r1
    · exact .inr (by simp [Instr.findNow, h2, r1])
include hE in
theorem FindIs.run {kt : TypeId} {ka : ATy} (hkt : E.ty.get kt = some ka) {k' : Value} {es' : List MapEntry} {o : Option (Nat × Value)} (h : FindIs P ka.d kt k' es' 0 o) (w : World) : (Instr.findKey kt k' es').run P w = .ok o w := by
  obtain ⟨h1, h2, h3⟩ := h
  simp only [Instr.findKey, Sem.run_bind, run_und hE hkt, Result.andThen_ok]
  rcases h1 with h1 | h1
  · by_cases he : es' = []
    · subst he
      have := h3 w
      simp only [Instr.findAsking, Sem.run_pure] at this
      simp only [Instr.findNow, Sem.run_pure]; exact this
    · rw [h2 h1 he]; exact h3 w
  · rw [h1]; rfl
theorem concE_cons {σ : Sig} {e : AV × AV × Nat} {es : List (AV × AV × Nat)} {l : List MapEntry} (h : concE σ (e :: es) = some l) :
    ∃ k v l', conc σ e.1 = some k ∧ conc σ e.2.1 = some v ∧ concE σ es = some l' ∧ l = { key := k, val := v, born := e.2.2 } :: l' := by
  obtain ⟨k, v, n⟩ := e
  simp only [concE, Option.bind_eq_some_iff, Option.map_eq_some_iff] at h
  obtain ⟨k', h1, v', h2, l', h3, rfl⟩ := h
  exact ⟨k', v', l', h1, h2, h3, rfl⟩
include hE in
theorem findK_spec {kt : TypeId} {ka : ATy} (hkt : E.ty.get kt = some ka) {k : AV} (hkind : keyKind E ka.d k = true) : ∀ {es : List (AV × AV × Nat)} {f : Option AV → Bool}, findK k es f = true →
    ∃ r, f r = true ∧ ∀ σ es' k' i, concE σ es = some es' → conc σ k = some k' → ∃ o, FindIs P ka.d kt k' es' i o ∧ (r = none → o = none) ∧ (∀ v, r = some v → ∃ j z, o = some (j, z) ∧ conc σ v = some z)
  | [], f, h => ⟨none, h, fun σ es' k' i he hk => by
      simp only [concE, Option.some.injEq] at he; subst he
      exact ⟨none, FindIs.nil, fun _ => rfl, (fun v e => by cases e)⟩⟩
  | e :: es, f, h => by
    have h' : eqKey k e.1 (fun r => cond r (f (some e.2.1)) (findK k es f)) = true := h
    obtain ⟨r, hr, hs⟩ := eqKey_spec hE hkt hkind h'
    cases r with
    | true =>
      refine ⟨_, hr, fun σ es' k' i he hk => ?_⟩
      obtain ⟨ke, ve, l', h1, h2, h3, rfl⟩ := concE_cons he
      obtain ⟨q, _⟩ := hs σ k' ke hk h1
      exact ⟨_, FindIs.hit q, (fun e => by cases e), fun v e => by cases e; exact ⟨_, _, rfl, h2⟩⟩
    | false =>
      obtain ⟨r, hr, hs2⟩ := findK_spec hkt hkind hr
      refine ⟨r, hr, fun σ es' k' i he hk => ?_⟩
      obtain ⟨ke, ve, l', h1, h2, h3, rfl⟩ := concE_cons he
      obtain ⟨q, _⟩ := hs σ k' ke hk h1
      obtain ⟨o, p1, p2, p3⟩ := hs2 σ l' k' (i + 1) h3 hk
      exact ⟨o, FindIs.miss q p1, p2, p3⟩
include hE in
theorem updK_spec {kt : TypeId} {ka : ATy} (hkt : E.ty.get kt = some ka) {k v : AV} {clock : Nat} (hkind : keyKind E ka.d k = true) : ∀ {es : List (AV × AV × Nat)} {f : List (AV × AV × Nat) → Bool → Bool}, updK k v clock es f = true →
    ∃ es2 new, f es2 new = true ∧ ∀ σ es' k' v' i, concE σ es = some es' → conc σ k = some k' → conc σ v = some v' → ∃ o, FindIs P ka.d kt k' es' i o ∧
      (new = true → o = none ∧ concE σ es2 = some (es' ++ [{ key := k', val := v', born := clock }])) ∧
      (new = false → ∃ j z e, o = some (i + j, z) ∧ es'[j]? = some e ∧ Instr.sameBits 10000 e.key k' = true ∧ concE σ es2 = some (es'.modify j fun e => { e with key := k', val := v' }))
  | [], f, h => ⟨_, _, h, fun σ es' k' v' i he hk hv => by
      simp only [concE, Option.some.injEq] at he; subst he
      exact ⟨none, FindIs.nil, fun _ => ⟨rfl, by simp [concE, hk, hv]⟩, (fun e => by cases e)⟩⟩
  | e :: es, f, h => by
    have h' : eqKey k e.1 (fun r => cond r (f ((e.1, v, e.2.2) :: es) false) (updK k v clock es fun l new => f (e :: l) new)) = true := h
    obtain ⟨r, hr, hs⟩ := eqKey_spec hE hkt hkind h'
    cases r with
    | true =>
      refine ⟨_, _, hr, fun σ es' k' v' i he hk hv => ?_⟩
      obtain ⟨ke, ve, l', h1, h2, h3, rfl⟩ := concE_cons he
      obtain ⟨q, hq⟩ := hs σ k' ke hk h1
      obtain ⟨hq1, hq2⟩ := hq rfl
      subst hq2
      exact ⟨_, FindIs.hit q, (fun e => by cases e), fun _ => ⟨0, _, _, rfl, rfl, hq1, by simp [concE, h1, hv, h3]⟩⟩
    | false =>
      obtain ⟨es2, new, hf, hs2⟩ := updK_spec hkt hkind hr
      refine ⟨_, _, hf, fun σ es' k' v' i he hk hv => ?_⟩
      obtain ⟨ke, ve, l', h1, h2, h3, rfl⟩ := concE_cons he
      obtain ⟨q, _⟩ := hs σ k' ke hk h1
      obtain ⟨o, p1, p2, p3⟩ := hs2 σ l' k' v' (i + 1) h3 hk hv
      refine ⟨o, FindIs.miss q p1, fun hn => ?_, fun hn => ?_⟩
      · obtain ⟨a, b⟩ := p2 hn
        exact ⟨a, by obtain ⟨e1, e2, e3⟩ := e; simp only at h1 h2; simp [concE, h1, h2, b]⟩
      · obtain ⟨j, z, en, a, b, c, d⟩ := p3 hn
        refine ⟨j + 1, z, en, by rw [a]; congr 2; omega, by simpa using b, c, ?_⟩
        obtain ⟨e1, e2, e3⟩ := e
        simp only at h1 h2
        simp [concE, h1, h2, d]
include hE in
theorem run_checkKey {kt : TypeId} {ka : ATy} (hkt : E.ty.get kt = some ka) {k : AV} (hkind : keyKind E ka.d k = true) {σ : Sig} {k' : Value} (hk : conc σ k = some k') (b : Bool) (w : World) :
    (Instr.checkKey b 10000 kt k').run P w = .ok () w := by
  have hu := run_und hE hkt (w := w)
  have gen : ∀ q n, q = n + 1 → (Instr.checkKey b (q + 1) kt k').run P w = .ok () w := fun q n hq => by
    unfold keyKind at hkind
    split at hkind
    · rename_i hd; cases hk
      simp only [Instr.checkKey, Sem.run_bind, hu, Result.andThen_ok, hd]; rfl
    · rename_i hd
      simp only [conc] at hk
      split at hk <;> simp at hk
      subst hk
      simp only [Instr.checkKey, Sem.run_bind, hu, Result.andThen_ok, hd]; rfl
    · rename_i m e cs hd
      split at hkind
      · rename_i kk _ _ he
        have hn := beq_eq ((both_eq _ _).1 hkind).1
        simp only [conc, Option.map_eq_some_iff] at hk
        obtain ⟨la, ha, rfl⟩ := hk
        have hll := concL_length ha
        simp only [Instr.checkKey, Sem.run_bind, hu, Result.andThen_ok, hd]
        simp only [Std.Legacy.Range.forIn_eq_forIn_range', Std.Legacy.Range.size, Nat.sub_zero, Nat.add_one_sub_one, Nat.div_one]
        have key : ∀ js : List Nat, (∀ j ∈ js, j < m) → (forIn js PUnit.unit fun i (_ : PUnit) => do
            let a ← part e la.toArray (i * (← sizeOf e))
            Instr.checkKey b q e a
            pure (ForInStep.yield PUnit.unit) : Sem PUnit).run P w = .ok PUnit.unit w := fun js hjs => by
          induction js with
          | nil => rfl
          | cons j js ih =>
            have hj := hjs j (by simp)
            have ea := List.getElem?_eq_getElem (show j < cs.length by omega)
            obtain ⟨kk', m', e1⟩ := intsL_spec ((both_eq _ _).1 hkind).2 _ (List.mem_of_getElem? ea)
            obtain ⟨z, hz, hc⟩ := concL_get ha j _ ea
            rw [e1] at hc; cases hc
            have hp := run_part_int hE he rfl la.toArray j (v := .int kk' m') (by simpa using hz) w
            have hs := run_size hE he (w := w)
            have hck : (Instr.checkKey b q e (.int kk' m')).run P w = .ok () w := by
              rw [hq]
              simp only [Instr.checkKey, Sem.run_bind, run_und hE he, Result.andThen_ok]; rfl
            simp only [List.forIn_cons, Sem.run_bind, hs, Result.andThen_ok, Nat.mul_one, hp, hck, Sem.run_pure]
            exact ih (fun j hj => hjs j (by simp [hj]))
        have := key (List.range' 0 m) (fun j hj => by simp at hj; exact hj)
        simp at this ⊢
        rw [this]; rfl
      · cases hkind
    · cases hkind
  exact gen 9999 9998 rfl
def keysPlain (k : AV) (ks : List AV) : Prop := ((∃ s, k = .str s) ∧ ∀ x ∈ ks, ∃ s, x = .str s) ∨ ∃ kk n, k = .int kk n ∧ ∀ x ∈ ks, ∃ m, x = .int kk m
open Classical in
noncomputable def lookA (k : AV) (es : List (AV × AV)) : Option AV := (es.find? fun e => decide (e.1 = k)).map (·.2)
theorem findK_plain {k : AV} : ∀ {es : List (AV × AV × Nat)}, keysPlain k (es.map (·.1)) → ∀ G, findK k es G = G (lookA k (es.map fun e : AV × AV × Nat => (e.1, e.2.1)))
  | [], _, G => rfl
  | e :: es, hp, G => by
    have ht : keysPlain k (es.map (·.1)) := by
      rcases hp with ⟨h1, h2⟩ | ⟨kk, n, h1, h2⟩
      · exact .inl ⟨h1, fun x hx => h2 x (by simp at hx ⊢; exact .inr hx)⟩
      · exact .inr ⟨kk, n, h1, fun x hx => h2 x (by simp at hx ⊢; exact .inr hx)⟩
    have e1 : findK k (e :: es) G = eqKey k e.1 fun r => cond r (G (some e.2.1)) (findK k es G) := rfl
    have key : ∀ f : Bool → Bool, eqKey k e.1 f = f (@decide (e.1 = k) (Classical.propDecidable _)) := fun f => by
      have bb : ∀ b (f : Bool → Bool), bBool b f = f b := fun b f => by cases b <;> rfl
      rcases hp with ⟨⟨a, rfl⟩, h2⟩ | ⟨kk, n, rfl, h2⟩
      · obtain ⟨s, hs⟩ := h2 e.1 (by simp)
        rw [hs]
        show bBool (eqS a s) f = _
        rw [bb, eqS_eq]
        congr 1
        by_cases h : a = s
        · subst h; simp
        · have : ¬ (AV.str s = AV.str a) := fun h' => h (by cases h'; rfl)
          simp [h, this]
      · obtain ⟨m, hm⟩ := h2 e.1 (by simp)
        rw [hm]
        show cond (eqK kk kk) (bBool (eqI n m) f) false = _
        have : eqK kk kk = true := by cases kk <;> rfl
        rw [this, cond_true, bb, eqI_eq]
        congr 1
        by_cases h : n = m
        · subst h; simp
        · have : ¬ (AV.int kk m = AV.int kk n) := fun h' => h (by cases h'; rfl)
          simp [h, this]
    rw [e1, key, findK_plain ht]
    by_cases h : e.1 = k
    · simp [lookA, h]
    · simp [lookA, h]
theorem lookA_perm {k : AV} {a b : List (AV × AV)} (hp : a.Perm b) (hn : (b.map Prod.fst).Nodup) : lookA k a = lookA k b := by
  have hna : (a.map Prod.fst).Nodup := (hp.map Prod.fst).nodup_iff.2 hn
  have char : ∀ {l : List (AV × AV)}, (l.map Prod.fst).Nodup → ∀ v, lookA k l = some v ↔ (k, v) ∈ l := by
    intro l
    induction l with
    | nil => intro _ v; simp [lookA]
    | cons e l ih =>
      intro hn v
      simp only [List.map_cons, List.nodup_cons] at hn
      have ih := ih hn.2 v
      unfold lookA at ih ⊢
      by_cases h : e.1 = k
      · simp only [List.find?_cons, h, decide_true, Option.map_some, Option.some.injEq, List.mem_cons]
        constructor
        · rintro rfl; left; rw [← h]
        · rintro (h2 | h2)
          · rw [← h2]
          · exact absurd (List.mem_map.2 ⟨(k, v), h2, rfl⟩) (by rw [← h]; exact hn.1)
      · simp only [List.find?_cons, h, decide_false, List.mem_cons]
        rw [ih]
        constructor
        · exact .inr
        · rintro (h2 | h2)
          · rw [← h2] at h; exact absurd rfl h
          · exact h2
  cases ha : lookA k a with
  | none =>
    cases hb : lookA k b with
    | none => rfl
    | some v =>
      have := (char hna v).2 (hp.mem_iff.2 ((char hn v).1 hb))
      rw [ha] at this; cases this
  | some v =>
    exact ((char hn v).2 (hp.mem_iff.1 ((char hna v).1 ha))).symm
theorem bornL_map : ∀ (es : List (AV × AV)), (bornL es).map (fun e : AV × AV × Nat => (e.1, e.2.1)) = es
  | [] => rfl
  | e :: es => by
    show (e.1, e.2) :: (bornL es).map (fun e : AV × AV × Nat => (e.1, e.2.1)) = _
    rw [bornL_map es]
theorem bornL_keys (es : List (AV × AV)) : (bornL es).map (·.1) = es.map Prod.fst := by
  have := congrArg (List.map Prod.fst) (bornL_map es)
  simpa [Function.comp_def] using this
theorem findK_perm {k : AV} {es : List (AV × AV)} {es2 : List (AV × AV × Nat)} (hpl : keysPlain k (es.map Prod.fst)) (hp : (es2.map fun e : AV × AV × Nat => (e.1, e.2.1)).Perm es) (hn : (es.map Prod.fst).Nodup) {G : Option AV → Bool} : findK k es2 G = findK k (bornL es) G := by
  have hkeys : (es2.map (·.1)).Perm (es.map Prod.fst) := by
    have := hp.map Prod.fst
    simpa [Function.comp_def] using this
  have hpl2 : keysPlain k (es2.map (·.1)) := by
    rcases hpl with ⟨h1, h2⟩ | ⟨kk, n, h1, h2⟩
    · exact .inl ⟨h1, fun x hx => h2 x (hkeys.mem_iff.1 hx)⟩
    · exact .inr ⟨kk, n, h1, fun x hx => h2 x (hkeys.mem_iff.1 hx)⟩
  rw [findK_plain hpl2, findK_plain (by rw [bornL_keys]; exact hpl), bornL_map, lookA_perm hp hn]
open Classical in
include hE in
theorem lookupK_spec {t : TypeId} {x k : AV} {ok : Bool} {h : AH} {g : AV → Bool} (hk : lookupK E t x k ok h g = true) :
    ∃ v, g v = true ∧ isBad v = false ∧ ∀ σ w x' k', HRel C σ h w → VR σ x x' → VR σ k k' → ∃ z, (Instr.lookup t x' k' ok).run P w = .ok z w ∧ conc σ v = some z := by
  unfold lookupK at hk
  split at hk
  · rename_i kt et _ _ _ ht
    have hu := fun w => run_und hE ht (w := w)
    simp only at hu
    split at hk
    · rename_i ka ea hkt het
      obtain ⟨hkind, hk⟩ := cond_f hk
      have hkb : isBad k = false := by cases k <;> first | rfl | (unfold keyKind at hkind; split at hkind <;> simp_all)
      have core : ∀ (g : AV → Bool) es, (findK k es fun r => match r with
            | some v => cond (isBad v) false (cond ok (g (.tup [v, .bool true])) (g v))
            | none => cond (isBad ea.zero) false (cond ok (g (.tup [ea.zero, .bool false])) (g ea.zero))) = true →
          ∃ v, g v = true ∧ isBad v = false ∧ ∀ σ w (es' : Array MapEntry) k', concE σ es = some es'.toList → VR σ k k' →
            ∃ z zz okb, ((∃ j, (Instr.findKey kt k' es'.toList).run P w = .ok (some (j, zz)) w ∧ okb = true) ∨ ((Instr.findKey kt k' es'.toList).run P w = .ok none w ∧ (zeroValue et).run P w = .ok zz w ∧ okb = false)) ∧ z = (if ok then .tuple #[zz, .bool okb] else zz) ∧ conc σ v = some z := by
        intro g es hf
        obtain ⟨r, hr, hs⟩ := findK_spec hE hkt hkind hf
        cases r with
        | some v =>
          obtain ⟨h1, h2⟩ := cond_t hr
          have fin : ∀ σ w (es' : Array MapEntry) k', concE σ es = some es'.toList → VR σ k k' → ∃ j z, (Instr.findKey kt k' es'.toList).run P w = .ok (some (j, z)) w ∧ conc σ v = some z := fun σ w es' k' e1 e2 => by
            obtain ⟨o, p1, p2, p3⟩ := hs σ _ k' 0 e1 (e2.conc' hkb)
            obtain ⟨j, z, rfl, hc⟩ := p3 v rfl
            exact ⟨j, z, p1.run hE hkt w, hc⟩
          cases ok with
          | true =>
            refine ⟨_, h2, rfl, fun σ w es' k' e1 e2 => ?_⟩
            obtain ⟨j, z, hf, hc⟩ := fin σ w es' k' e1 e2
            exact ⟨.tuple #[z, .bool true], z, true, .inl ⟨j, hf, rfl⟩, rfl, by simp [conc, concL, hc]⟩
          | false =>
            refine ⟨_, h2, h1, fun σ w es' k' e1 e2 => ?_⟩
            obtain ⟨j, z, hf, hc⟩ := fin σ w es' k' e1 e2
            exact ⟨z, z, true, .inl ⟨j, hf, rfl⟩, rfl, hc⟩
        | none =>
          obtain ⟨h1, h2⟩ := cond_t hr
          have fin : ∀ σ w (es' : Array MapEntry) k', concE σ es = some es'.toList → VR σ k k' → ∃ z, (Instr.findKey kt k' es'.toList).run P w = .ok none w ∧ (zeroValue et).run P w = .ok z w ∧ conc σ ea.zero = some z := fun σ w es' k' e1 e2 => by
            obtain ⟨o, p1, p2, p3⟩ := hs σ _ k' 0 e1 (e2.conc' hkb)
            cases p2 rfl
            obtain ⟨z, hz, hc⟩ := run_zero hE het w h1
            exact ⟨z, p1.run hE hkt w, hz, hc σ⟩
          cases ok with
          | true =>
            refine ⟨_, h2, rfl, fun σ w es' k' e1 e2 => ?_⟩
            obtain ⟨z, hf, hz, hc⟩ := fin σ w es' k' e1 e2
            exact ⟨.tuple #[z, .bool false], z, false, .inr ⟨hf, hz, rfl⟩, rfl, by simp [conc, concL, hc]⟩
          | false =>
            refine ⟨_, h2, h1, fun σ w es' k' e1 e2 => ?_⟩
            obtain ⟨z, hf, hz, hc⟩ := fin σ w es' k' e1 e2
            exact ⟨z, z, false, .inr ⟨hf, hz, rfl⟩, rfl, hc⟩
      cases x with
      | mnil =>
        obtain ⟨v, hv, hb, hs⟩ := core g _ hk
        refine ⟨v, hv, hb, fun σ w x' k' kk e1 e2 => ?_⟩
        cases e1.conc (by simp)
        obtain ⟨z, zz, okb, hz, rfl, hc⟩ := hs σ w #[] k' rfl e2
        refine ⟨_, ?_, hc⟩
        simp only [Instr.lookup, Sem.run_bind, hu, Result.andThen_ok, Sem.run_pure, run_checkKey hE hkt hkind (e2.conc' hkb)]
        rcases hz with ⟨j, hz, rfl⟩ | ⟨hz, hz2, rfl⟩
        · simp only [hz, Result.andThen_ok, Sem.run_pure, Sem.run_bind]
        · simp only [hz, Result.andThen_ok, Sem.run_bind, hz2, Sem.run_pure]
      | map b =>
        simp only at hk
        split at hk
        · rename_i es clock ro hm
          obtain ⟨v, hv, hb, hs⟩ := core g _ hk
          refine ⟨v, hv, hb, fun σ w x' k' kk e1 e2 => ?_⟩
          have := e1.conc (by simp)
          simp only [conc, Option.map_eq_some_iff] at this
          obtain ⟨y, hy, rfl⟩ := this
          obtain ⟨es', q1, q2⟩ := kk.obj b _ y hm hy
          obtain ⟨z, zz, okb, hz, rfl, hc⟩ := hs σ w es' k' q2 e2
          refine ⟨_, ?_, hc⟩
          have hg : (getObj y.blk).run P w = .ok (.map es' clock) w := by simp [getObj, Sem.run, q1]
          simp only [Instr.lookup, Sem.run_bind, hu, Result.andThen_ok, hg, Sem.run_pure, run_checkKey hE hkt hkind (e2.conc' hkb)]
          rcases hz with ⟨j, hz, rfl⟩ | ⟨hz, hz2, rfl⟩
          · simp only [hz, Result.andThen_ok, Sem.run_pure, Sem.run_bind]
          · simp only [hz, Result.andThen_ok, Sem.run_bind, hz2, Sem.run_pure]
        · rename_i es hm
          obtain ⟨v, hv, hb, hall⟩ : ∃ v, g v = true ∧ isBad v = false ∧ ∀ es2 : List (AV × AV × Nat), (es2.map fun e : AV × AV × Nat => (e.1, e.2.1)).Perm es → (es.map Prod.fst).Nodup →
              ((∀ e ∈ es, ∃ s, e.1 = .str s) ∨ (∃ k, ∀ e ∈ es, ∃ n, e.1 = .int k n)) → (findK k es2 fun r => match r with
              | some u => cond (isBad u) false (cond ok (decide (AV.tup [u, .bool true] = v)) (decide (u = v)))
              | none => cond (isBad ea.zero) false (cond ok (decide (AV.tup [ea.zero, .bool false] = v)) (decide (ea.zero = v)))) = true := by
            have pick : ∀ (f : (Option AV → Bool) → Bool), f (fun r => match r with
                | some v => cond (isBad v) false (cond ok (g (.tup [v, .bool true])) (g v))
                | none => cond (isBad ea.zero) false (cond ok (g (.tup [ea.zero, .bool false])) (g ea.zero))) = true → (∃ r, ∀ G, f G = G r) → ∃ r v, (∀ G, f G = G r) ∧ g v = true ∧ isBad v = false ∧ (match r with
                | some u => cond (isBad u) false (cond ok (decide (AV.tup [u, .bool true] = v)) (decide (u = v)))
                | none => cond (isBad ea.zero) false (cond ok (decide (AV.tup [ea.zero, .bool false] = v)) (decide (ea.zero = v)))) = true := fun f hf ⟨r, hr⟩ => by
              rw [hr] at hf
              cases r with
              | some u =>
                obtain ⟨q1, q2⟩ := cond_t hf
                cases ok with
                | true => exact ⟨_, _, hr, q2, rfl, by simp [q1]⟩
                | false => exact ⟨_, _, hr, q2, q1, by simp [q1]⟩
              | none =>
                obtain ⟨q1, q2⟩ := cond_t hf
                cases ok with
                | true => exact ⟨_, _, hr, q2, rfl, by simp [q1]⟩
                | false => exact ⟨_, _, hr, q2, q1, by simp [q1]⟩
            by_cases hpl : keysPlain k (es.map Prod.fst)
            · obtain ⟨r, v, q1, q2, q3, q4⟩ := pick (findK k (bornL es)) hk ⟨_, findK_plain (by rw [bornL_keys]; exact hpl)⟩
              refine ⟨v, q2, q3, fun es2 hp hn _ => ?_⟩
              rw [findK_perm hpl hp hn, q1]; exact q4
            · obtain ⟨r, v, q1, q2, q3, q4⟩ : ∃ r v, (∀ es2 : List (AV × AV × Nat), (es2.map fun e : AV × AV × Nat => (e.1, e.2.1)).Perm es → (es.map Prod.fst).Nodup →
                  ((∀ e ∈ es, ∃ s, e.1 = .str s) ∨ (∃ k, ∀ e ∈ es, ∃ n, e.1 = .int k n)) → ∀ G, findK k es2 G = G r) ∧ g v = true ∧ isBad v = false ∧ (match r with
                | some u => cond (isBad u) false (cond ok (decide (AV.tup [u, .bool true] = v)) (decide (u = v)))
                | none => cond (isBad ea.zero) false (cond ok (decide (AV.tup [ea.zero, .bool false] = v)) (decide (ea.zero = v)))) = true := by
                cases es with
                | nil =>
                  obtain ⟨r, v, q1, q2, q3, q4⟩ := pick (findK k []) hk ⟨none, fun G => rfl⟩
                  refine ⟨r, v, fun es2 hp _ _ G => ?_, q2, q3, q4⟩
                  have : es2 = [] := by
                    have := hp.length_eq
                    simpa using this
                  rw [this]; exact q1 G
                | cons e es =>
                  by_cases hkind2 : (∀ e' ∈ e :: es, ∃ s, e'.1 = .str s) ∨ (∃ k, ∀ e' ∈ e :: es, ∃ n, e'.1 = .int k n)
                  · exfalso
                    refine hpl ?_
                    have h0 : eqKey k e.1 (fun r => cond r _ _) = true := hk
                    rcases hkind2 with h1 | ⟨kk, h1⟩
                    · obtain ⟨s, hs⟩ := h1 e (by simp)
                      rw [hs] at h0
                      cases k with
                      | str a => exact .inl ⟨⟨a, rfl⟩, fun x hx => by
                          obtain ⟨e', he', rfl⟩ := List.mem_map.1 hx
                          exact h1 e' he'⟩
                      | _ => cases h0
                    · obtain ⟨n, hs⟩ := h1 e (by simp)
                      rw [hs] at h0
                      cases k with
                      | int k2 a =>
                        obtain ⟨h2, _⟩ := cond_f h0
                        have := eqK_eq h2
                        subst this
                        exact .inr ⟨k2, a, rfl, fun x hx => by
                          obtain ⟨e', he', rfl⟩ := List.mem_map.1 hx
                          exact h1 e' he'⟩
                      | _ => cases h0
                  · have hex : ∃ r v, g v = true ∧ isBad v = false ∧ (match r with
                        | some u => cond (isBad u) false (cond ok (decide (AV.tup [u, .bool true] = v)) (decide (u = v)))
                        | none => cond (isBad ea.zero) false (cond ok (decide (AV.tup [ea.zero, .bool false] = v)) (decide (ea.zero = v)))) = true := by
                      obtain ⟨r, hr, _⟩ := findK_spec hE hkt hkind hk
                      obtain ⟨r', v, _, q2, q3, q4⟩ := pick (fun G => G r) hr ⟨r, fun G => rfl⟩
                      exact ⟨r', v, q2, q3, q4⟩
                    obtain ⟨r, v, q2, q3, q4⟩ := hex
                    exact ⟨r, v, fun es2 hp hn hk2 => absurd hk2 hkind2, q2, q3, q4⟩
              exact ⟨v, q2, q3, fun es2 hp hn hk2 => by rw [q1 es2 hp hn hk2]; exact q4⟩
          refine ⟨v, hv, hb, fun σ w x' k' kk e1 e2 => ?_⟩
          have := e1.conc (by simp)
          simp only [conc, Option.map_eq_some_iff] at this
          obtain ⟨y, hy, rfl⟩ := this
          obtain ⟨es', clock, es2, q1, q2, q3, q4, q5⟩ := kk.obj b _ y hm hy
          obtain ⟨u, hu2, _, hs⟩ := core (fun u => decide (u = v)) es2 (hall es2 q2 q3 q4)
          have : u = v := by simpa using hu2
          subst this
          obtain ⟨z, zz, okb, hz, rfl, hc⟩ := hs σ w es' k' q5 e2
          refine ⟨_, ?_, hc⟩
          have hg : (getObj y.blk).run P w = .ok (.map es' clock) w := by simp [getObj, Sem.run, q1]
          simp only [Instr.lookup, Sem.run_bind, hu, Result.andThen_ok, hg, Sem.run_pure, run_checkKey hE hkt hkind (e2.conc' hkb)]
          rcases hz with ⟨j, hz, rfl⟩ | ⟨hz, hz2, rfl⟩
          · simp only [hz, Result.andThen_ok, Sem.run_pure, Sem.run_bind]
          · simp only [hz, Result.andThen_ok, Sem.run_bind, hz2, Sem.run_pure]
        · cases hk
      | _ => cases hk
    · cases hk
  · cases hk
theorem turn_obj {C : Ctx} {σ : Sig} {h : AH} {w : World} (k : HRel C σ h w) {b : Nat} {ao ao' : AO} {x : Loc} (hb : h.m.get b = some ao) (hx : σ b = some x) (hd : ao.owns = true) (hro : ao.ro = false) {m : Tr AO} (hm : h.m.Put b ao' m) (o : Obj) (hlt : x.blk < w.heap.size)
    (hro' : ao'.ro = false) (hor : OR σ x { w with heap := w.heap.setIfInBounds x.blk o } ao') : HRel C σ ⟨m, h.nx⟩ { w with heap := w.heap.setIfInBounds x.blk o } := by
  refine k.turn hb hx hd hro hm (fun hB => ⟨rfl, rfl, rfl, by simp, fun j hj => ?_⟩) (by simp) (fun j hj => ?_) hro' hor
  · simp only; rw [Array.getElem?_setIfInBounds_ne (by omega)]
  · simp only; rw [Array.getElem?_setIfInBounds_ne (by omega)]
include hE in
theorem mapPutK_spec {t : TypeId} {x k v : AV} {h : AH} {g : AH → Bool} (hk : mapPutK E t x k v h g = true) :
    ∃ h', g h' = true ∧ ∀ σ w x' k' v', HRel C σ h w → VR σ x x' → VR σ k k' → VR σ v v' → ∃ w', (Instr.mapUpdate t x' k' v').run P w = .ok () w' ∧ HRel C σ h' w' := by
  unfold mapPutK at hk
  split at hk
  · rename_i kt et _ _ _ ht
    have hu := fun w => run_und hE ht (w := w)
    simp only at hu
    split at hk
    · rename_i ka hkt
      obtain ⟨hq, hk⟩ := cond_f hk
      obtain ⟨hkind, hvb⟩ := (both_eq _ _).1 hq
      have hvb : isBad v = false := by simpa using hvb
      have hkb : isBad k = false := by cases k <;> first | rfl | (unfold keyKind at hkind; split at hkind <;> simp_all)
      cases x with
      | map b =>
        simp only at hk
        split at hk
        · rename_i es clock hm
          obtain ⟨es2, new, hf, hs⟩ := updK_spec hE hkt hkind hk
          rw [fn_eq] at hf
          obtain ⟨m, hg, hp⟩ := Tr.set_spec _ _ _ _ hf
          refine ⟨_, hg, fun σ w x' k' v' kk e1 e2 e3 => ?_⟩
          have := e1.conc (by simp)
          simp only [conc, Option.map_eq_some_iff] at this
          obtain ⟨y, hy, rfl⟩ := this
          obtain ⟨es', q1, q2⟩ := kk.obj b _ y hm hy
          have hlt : y.blk < w.heap.size := (Array.getElem?_eq_some_iff.1 q1).1
          obtain ⟨o, p1, p2, p3⟩ := hs σ _ k' v' 0 q2 (e2.conc' hkb) (e3.conc' hvb)
          have hget : (getObj y.blk).run P w = .ok (.map es' clock) w := by simp [getObj, Sem.run, q1]
          have hset : ∀ o, (setObj y.blk o).run P w = .ok () { w with heap := w.heap.setIfInBounds y.blk o } := fun o => by simp [setObj, Sem.run, q1]
          have hfind := p1.run hE hkt w
          cases new with
          | true =>
            obtain ⟨rfl, he2⟩ := p2 rfl
            refine ⟨{ w with heap := w.heap.setIfInBounds y.blk (.map (es'.push { key := k', val := v', born := clock }) (clock + 1)) }, ?_, turn_obj kk hm hy rfl rfl hp _ hlt rfl ⟨es'.push { key := k', val := v', born := clock }, by simp [hlt], by simpa using he2⟩⟩
            simp only [Instr.mapUpdate, Sem.run_bind, hu, Result.andThen_ok, hget, run_checkKey hE hkt hkind (e2.conc' hkb), hfind, hset]
          | false =>
            obtain ⟨j, z, en, rfl, hj, hsb, he2⟩ := p3 rfl
            refine ⟨{ w with heap := w.heap.setIfInBounds y.blk (.map (es'.modify j fun e => { e with key := k', val := v' }) clock) }, ?_, turn_obj kk hm hy rfl rfl hp _ hlt rfl ⟨es'.modify j fun e => { e with key := k', val := v' }, by simp [hlt], by simpa using he2⟩⟩
            have hj' : es'[j]? = some en := by simpa using hj
            rw [Nat.zero_add] at hfind
            have hst : (Instr.keyThatStays (((es'[j]?).map (·.key)).getD k') k').run P w = .ok k' w := by
              rw [hj']
              simp [Instr.keyThatStays, hsb]
            simp only [Instr.mapUpdate, Sem.run_bind, hu, Result.andThen_ok, hget, run_checkKey hE hkt hkind (e2.conc' hkb), hfind, hst, hset]
        · cases hk
      | _ => cases hk
    · cases hk
  · cases hk
end
end Go.Refl
