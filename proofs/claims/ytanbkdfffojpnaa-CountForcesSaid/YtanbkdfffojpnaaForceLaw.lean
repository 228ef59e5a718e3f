/-
  PLAIN LAW: unit propagation over the counter clauses: a model keeps it from a conflict; fewer than k true literals bring one.
-/
import Derived.Test.YtanbkdfffojpnaaSeqLaw
namespace Go.Proofs.Ytanbkdfffojpnaa

/-- The value of a literal: 1, -1 or 0 (open). -/
def litV (tr : List Int) (y : Int) : Int := if y < 0 then -(tr.getD y.natAbs 0) else tr.getD y.natAbs 0
def stepS (tr : List Int) (st : Bool × Nat × Int) (y : Int) : Bool × Nat × Int := (st.1 || litV tr y == 1, if litV tr y = 0 then st.2.1 + 1 else st.2.1, if litV tr y = 0 then y else st.2.2)
def scanF (tr : List Int) (x : List Int) : Bool × Nat × Int := x.foldl (stepS tr) (false, 0, 0)
theorem scanF_snoc (tr x : List Int) (y : Int) : scanF tr (x ++ [y]) = stepS tr (scanF tr x) y := by unfold scanF; rw [List.foldl_append]; rfl
/-- Sets the variable of a literal so that it is true. -/
def setL (tr : List Int) (y : Int) : List Int := tr.set y.natAbs (if 0 < y then 1 else -1)
def visitF (tr : List Int) (more : Bool) (x : List Int) : Option (List Int × Bool) :=
  if (scanF tr x).1 = true then some (tr, more) else if (scanF tr x).2.1 = 0 then none else if (scanF tr x).2.1 = 1 then some (setL tr (scanF tr x).2.2, true) else some (tr, more)
def visitO (st : Option (List Int × Bool)) (x : List Int) : Option (List Int × Bool) := match st with | none => none | some (tr, more) => visitF tr more x
def roundF (tr : List Int) (cs : List (List Int)) : Option (List Int × Bool) := cs.foldl visitO (some (tr, false))
def forcedF (cs : List (List Int)) : Nat → List Int → Bool
  | 0, _ => false
  | f + 1, tr => match roundF tr cs with | none => true | some (tr', more) => if more = true then forcedF cs f tr' else false
theorem visitO_none (cs : List (List Int)) : cs.foldl visitO none = none := by
  induction cs with
  | nil => rfl
  | cons c r ih => exact ih

/-! ### what a scan finds -/
theorem scan_gen (tr : List Int) : ∀ (x : List Int) (st : Bool × Nat × Int), (x.foldl (stepS tr) st).1 = (st.1 || x.any (fun y => litV tr y == 1)) ∧ (x.foldl (stepS tr) st).2.1 = st.2.1 + x.countP (fun y => litV tr y == 0) ∧
    ((x.countP (fun y => litV tr y == 0) = 0 ∧ (x.foldl (stepS tr) st).2.2 = st.2.2) ∨ ((x.foldl (stepS tr) st).2.2 ∈ x ∧ litV tr (x.foldl (stepS tr) st).2.2 = 0))
  | [], st => by simp
  | y :: r, st => by
    obtain ⟨h1, h2, h3⟩ := scan_gen tr r (stepS tr st y)
    rw [List.foldl_cons]
    refine ⟨?_, ?_, ?_⟩
    · rw [h1, List.any_cons]; unfold stepS; simp [Bool.or_assoc]
    · rw [h2, List.countP_cons]; unfold stepS
      by_cases h : litV tr y = 0
      · simp [h]; omega
      · simp [h]
    · rcases h3 with ⟨h3, h4⟩ | ⟨h3, h4⟩
      · by_cases h : litV tr y = 0
        · right
          rw [h4]
          unfold stepS
          simp [h]
        · left
          rw [h4, List.countP_cons, h3]
          unfold stepS
          simp [h]
      · right
        exact ⟨List.mem_cons_of_mem _ h3, h4⟩
theorem scan_is (tr x : List Int) : (scanF tr x).1 = x.any (fun y => litV tr y == 1) := by have := (scan_gen tr x (false, 0, 0)).1; simpa [scanF] using this
theorem scan_op (tr x : List Int) : (scanF tr x).2.1 = x.countP (fun y => litV tr y == 0) := by have := (scan_gen tr x (false, 0, 0)).2.1; simpa [scanF] using this
theorem scan_la {tr x : List Int} (h : (scanF tr x).2.1 ≠ 0) : (scanF tr x).2.2 ∈ x ∧ litV tr (scanF tr x).2.2 = 0 := by
  rw [scan_op] at h
  rcases (scan_gen tr x (false, 0, 0)).2.2 with ⟨h1, _⟩ | h1
  · exact absurd h1 h
  · exact h1

/-! ### a model keeps it from a conflict -/
/-- s agrees with what tr has set. -/
def Agrees (tr : List Int) (s : Nat → Bool) : Prop := ∀ v, v < tr.length → (tr.getD v 0 = 1 ∧ s v = true) ∨ (tr.getD v 0 = -1 ∧ s v = false) ∨ tr.getD v 0 = 0
theorem litV_agrees {tr : List Int} {s : Nat → Bool} (h : Agrees tr s) {y : Int} (hy : y ≠ 0) (hl : y.natAbs < tr.length) : (litV tr y = 1 ∧ sval s y = true) ∨ (litV tr y = -1 ∧ sval s y = false) ∨ litV tr y = 0 := by
  unfold litV sval
  rcases h _ hl with ⟨q1, q2⟩ | ⟨q1, q2⟩ | q1
  · rw [q1, q2]
    by_cases h0 : y < 0
    · rw [if_pos h0]
      have : decide (0 < y) = false := by simp; omega
      right; left; rw [this]; exact ⟨rfl, rfl⟩
    · rw [if_neg h0]
      have : decide (0 < y) = true := by simp; omega
      left; rw [this]; exact ⟨rfl, rfl⟩
  · rw [q1, q2]
    by_cases h0 : y < 0
    · rw [if_pos h0]
      have : decide (0 < y) = false := by simp; omega
      left; rw [this]; exact ⟨rfl, rfl⟩
    · rw [if_neg h0]
      have : decide (0 < y) = true := by simp; omega
      right; left; rw [this]; exact ⟨rfl, rfl⟩
  · rw [q1]
    right; right
    split <;> rfl
theorem setL_len (tr : List Int) (y : Int) : (setL tr y).length = tr.length := by simp [setL]
theorem setL_get {tr : List Int} {y : Int} {v : Nat} (hl : y.natAbs < tr.length) : (setL tr y).getD v 0 = if v = y.natAbs then (if 0 < y then 1 else -1) else tr.getD v 0 := by
  unfold setL
  rw [List.getD_eq_getElem?_getD, List.getElem?_set, List.getD_eq_getElem?_getD]
  by_cases h : y.natAbs = v
  · rw [if_pos h, if_pos hl, if_pos h.symm]; rfl
  · rw [if_neg h, if_neg (fun e => h e.symm)]
theorem visit_agrees {tr : List Int} {s : Nat → Bool} {more : Bool} {x : List Int} (h : Agrees tr s) (hx : ∀ y ∈ x, y ≠ 0 ∧ y.natAbs < tr.length) (hc : cval s x = true) :
    ∃ tr' more', visitF tr more x = some (tr', more') ∧ Agrees tr' s ∧ tr'.length = tr.length := by
  unfold visitF
  by_cases h1 : (scanF tr x).1 = true
  · rw [if_pos h1]; exact ⟨tr, more, rfl, h, rfl⟩
  rw [if_neg h1]
  have hno : ∀ y ∈ x, litV tr y ≠ 1 := fun y hy e => by
    rw [scan_is] at h1
    exact h1 (List.any_eq_true.2 ⟨y, hy, by simp [e]⟩)
  obtain ⟨y0, hy0, hs0⟩ := List.any_eq_true.1 hc
  have hv0 : litV tr y0 = 0 := by
    rcases litV_agrees h (hx y0 hy0).1 (hx y0 hy0).2 with q | q | q
    · exact absurd q.1 (hno y0 hy0)
    · rw [q.2] at hs0; cases hs0
    · exact q
  have hop : (scanF tr x).2.1 ≠ 0 := by
    rw [scan_op]
    exact Nat.pos_iff_ne_zero.1 (List.countP_pos_iff.2 ⟨y0, hy0, by simp [hv0]⟩)
  rw [if_neg hop]
  by_cases h2 : (scanF tr x).2.1 = 1
  · rw [if_pos h2]
    obtain ⟨hm, hz⟩ := scan_la hop
    have hlt := (hx _ hm).2
    have heq : sval s (scanF tr x).2.2 = true := by
      by_cases e : (scanF tr x).2.2 = y0
      · rw [e]; exact hs0
      · exfalso
        have h3 : 2 ≤ x.countP (fun y => litV tr y == 0) := by
          obtain ⟨a, b, e1⟩ := List.append_of_mem hy0
          rw [e1, List.countP_append, List.countP_cons]
          have hm' : (scanF tr x).2.2 ∈ a ∨ (scanF tr x).2.2 ∈ b := by
            have hm2 : (scanF tr x).2.2 ∈ a ++ y0 :: b := e1 ▸ hm
            rcases List.mem_append.1 hm2 with q | q
            · exact .inl q
            · rcases List.mem_cons.1 q with q | q
              · exact absurd q e
              · exact .inr q
          have hp : 1 ≤ a.countP (fun y => litV tr y == 0) + b.countP (fun y => litV tr y == 0) := by
            rcases hm' with q | q
            · have : 0 < a.countP (fun y => litV tr y == 0) := List.countP_pos_iff.2 ⟨_, q, by simp [hz]⟩
              omega
            · have : 0 < b.countP (fun y => litV tr y == 0) := List.countP_pos_iff.2 ⟨_, q, by simp [hz]⟩
              omega
          simp [hv0]
          omega
        rw [scan_op] at h2
        omega
    refine ⟨_, _, rfl, fun v hv => ?_, setL_len _ _⟩
    rw [setL_len] at hv
    rw [setL_get hlt]
    by_cases hve : v = (scanF tr x).2.2.natAbs
    · rw [if_pos hve]
      unfold sval at heq
      rw [← hve] at heq
      by_cases h0 : 0 < (scanF tr x).2.2
      · rw [if_pos h0]; left; exact ⟨rfl, by simpa [h0] using heq⟩
      · rw [if_neg h0]; right; left; exact ⟨rfl, by simpa [h0] using heq⟩
    · rw [if_neg hve]; exact h v hv
  · rw [if_neg h2]; exact ⟨tr, more, rfl, h, rfl⟩
theorem round_agrees {s : Nat → Bool} {N : Nat} : ∀ {cs : List (List Int)} {tr : List Int} {more : Bool}, Agrees tr s → tr.length = N → (∀ x ∈ cs, ∀ y ∈ x, y ≠ 0 ∧ y.natAbs < N) → (∀ x ∈ cs, cval s x = true) →
    ∃ tr' more', cs.foldl visitO (some (tr, more)) = some (tr', more') ∧ Agrees tr' s ∧ tr'.length = N
  | [], tr, more, h, hl, _, _ => ⟨tr, more, rfl, h, hl⟩
  | x :: r, tr, more, h, hl, hx, hc => by
    obtain ⟨tr', more', e, h', hl'⟩ := visit_agrees (more := more) h (fun y hy => by rw [hl]; exact hx x (by simp) y hy) (hc x (by simp))
    rw [List.foldl_cons]
    show ∃ _ _, r.foldl visitO (visitF tr more x) = _ ∧ _
    rw [e]
    exact round_agrees h' (hl'.trans hl) (fun x hx' => hx x (by simp [hx'])) (fun x hx' => hc x (by simp [hx']))
theorem forced_no {s : Nat → Bool} {cs : List (List Int)} : ∀ {f : Nat} {tr : List Int}, Agrees tr s → (∀ x ∈ cs, ∀ y ∈ x, y ≠ 0 ∧ y.natAbs < tr.length) → (∀ x ∈ cs, cval s x = true) → forcedF cs f tr = false
  | 0, _, _, _, _ => rfl
  | f + 1, tr, h, hx, hc => by
    obtain ⟨tr', more', e, h', hl'⟩ := round_agrees (more := false) h rfl hx hc
    have e' : roundF tr cs = some (tr', more') := e
    rw [forcedF, e']
    show (if more' = true then forcedF cs f tr' else false) = false
    split
    · exact forced_no h' (by rw [hl']; exact hx) hc
    · rfl

/-! ### fewer than k true literals bring a conflict in the first round -/
/-- tr' keeps what tr has set. -/
def Keeps (tr tr' : List Int) : Prop := tr'.length = tr.length ∧ ∀ v, tr.getD v 0 ≠ 0 → tr'.getD v 0 = tr.getD v 0
theorem Keeps.refl (tr : List Int) : Keeps tr tr := ⟨rfl, fun _ _ => rfl⟩
theorem Keeps.trans {a b c : List Int} (h : Keeps a b) (k : Keeps b c) : Keeps a c := ⟨k.1.trans h.1, fun v hv => by
  have e := h.2 v hv
  rw [k.2 v (by rw [e]; exact hv), e]⟩
theorem litV_ne {tr : List Int} {y : Int} (h : litV tr y ≠ 0) : tr.getD y.natAbs 0 ≠ 0 := fun e => h (by unfold litV; rw [e]; split <;> rfl)
theorem litV_keeps {tr tr' : List Int} (h : Keeps tr tr') {y : Int} (hv : litV tr y ≠ 0) : litV tr' y = litV tr y := by
  unfold litV
  rw [h.2 _ (litV_ne hv)]
theorem visit_keeps {tr tr' : List Int} {more more' : Bool} {x : List Int} (hx : ∀ y ∈ x, y.natAbs < tr.length) (h : visitF tr more x = some (tr', more')) : Keeps tr tr' := by
  unfold visitF at h
  by_cases h1 : (scanF tr x).1 = true
  · rw [if_pos h1] at h; injection h with h; injection h with h _; subst h; exact Keeps.refl _
  rw [if_neg h1] at h
  by_cases h2 : (scanF tr x).2.1 = 0
  · rw [if_pos h2] at h; cases h
  rw [if_neg h2] at h
  by_cases h3 : (scanF tr x).2.1 = 1
  · rw [if_pos h3] at h
    injection h with h; injection h with h _; subst h
    obtain ⟨hm, hz⟩ := scan_la h2
    refine ⟨setL_len _ _, fun v hv => ?_⟩
    rw [setL_get (hx _ hm), if_neg (fun e => hv ?_)]
    subst e
    unfold litV at hz
    split at hz <;> omega
  · rw [if_neg h3] at h; injection h with h; injection h with h _; subst h; exact Keeps.refl _
/-- A clause whose elements other than y are false, y open or false: it sets y, or is a conflict. -/
theorem visit_unit {tr : List Int} {more : Bool} {x : List Int} {y : Int} (hy : y ≠ 0) (hl : y.natAbs < tr.length) (hm : x.countP (fun z => z == y) ≤ 1) (hmem : y ∈ x) (hoth : ∀ z ∈ x, z ≠ y → litV tr z = -1) (hv : litV tr y ≠ 1) (hvr : litV tr y = 1 ∨ litV tr y = -1 ∨ litV tr y = 0) :
    visitF tr more x = none ∨ ∃ more', visitF tr more x = some (setL tr y, more') ∧ litV tr y = 0 := by
  unfold visitF
  have h1 : (scanF tr x).1 = false := by
    rw [scan_is]
    refine List.any_eq_false.2 fun z hz => ?_
    by_cases e : z = y
    · subst e; simpa using hv
    · rw [hoth z hz e]; simp
  rw [if_neg (by rw [h1]; simp)]
  by_cases h0 : litV tr y = 0
  · have hop : (scanF tr x).2.1 = 1 := by
      rw [scan_op]
      have e : x.countP (fun z => litV tr z == 0) = x.countP (fun z => z == y) := List.countP_congr fun z hz => by
        by_cases e : z = y
        · subst e; simp [h0]
        · have := hoth z hz e; simp [this, e]
      have : 0 < x.countP (fun z => z == y) := List.countP_pos_iff.2 ⟨y, hmem, by simp⟩
      omega
    right
    rw [if_neg (by omega), if_pos hop]
    obtain ⟨hm', hz⟩ := scan_la (tr := tr) (x := x) (by omega)
    have e : (scanF tr x).2.2 = y := by
      by_cases e : (scanF tr x).2.2 = y
      · exact e
      · have := hoth _ hm' e; omega
    rw [e]
    exact ⟨true, rfl, h0⟩
  · left
    have hop : (scanF tr x).2.1 = 0 := by
      rw [scan_op]
      refine List.countP_eq_zero.2 fun z hz => ?_
      by_cases e : z = y
      · subst e; simpa using h0
      · have := hoth z hz e; simp [this]
    rw [if_pos hop]

/-- All entries are 1, -1 or 0. -/
def Tri (tr : List Int) : Prop := ∀ v, tr.getD v 0 = 1 ∨ tr.getD v 0 = -1 ∨ tr.getD v 0 = 0
theorem litV_tri {tr : List Int} (h : Tri tr) (y : Int) : litV tr y = 1 ∨ litV tr y = -1 ∨ litV tr y = 0 := by
  unfold litV
  rcases h y.natAbs with q | q | q <;> rw [q] <;> split <;> simp
theorem setL_tri {tr : List Int} (h : Tri tr) {y : Int} (hl : y.natAbs < tr.length) : Tri (setL tr y) := fun v => by
  rw [setL_get hl]
  split
  · split <;> simp
  · exact h v
theorem visit_tri {tr tr' : List Int} {more more' : Bool} {x : List Int} (ht : Tri tr) (hx : ∀ y ∈ x, y.natAbs < tr.length) (h : visitF tr more x = some (tr', more')) : Tri tr' := by
  unfold visitF at h
  by_cases h1 : (scanF tr x).1 = true
  · rw [if_pos h1] at h; injection h with h; injection h with h _; subst h; exact ht
  rw [if_neg h1] at h
  by_cases h2 : (scanF tr x).2.1 = 0
  · rw [if_pos h2] at h; cases h
  rw [if_neg h2] at h
  by_cases h3 : (scanF tr x).2.1 = 1
  · rw [if_pos h3] at h
    injection h with h; injection h with h _; subst h
    exact setL_tri ht (hx _ (scan_la h2).1)
  · rw [if_neg h3] at h; injection h with h; injection h with h _; subst h; exact ht

/-- From tr0 on: a round over the clauses ends in a conflict, or leaves a tr that keeps tr0 and meets P. -/
def Leads (tr0 : List Int) (cs : List (List Int)) (P : List Int → Prop) : Prop :=
  ∀ tr more, Keeps tr0 tr → Tri tr → (cs.foldl visitO (some (tr, more)) = none ∨ ∃ tr' more', cs.foldl visitO (some (tr, more)) = some (tr', more') ∧ Keeps tr tr' ∧ Tri tr' ∧ P tr')
theorem Leads.append {tr0 : List Int} {cs ds : List (List Int)} {P Q R : List Int → Prop} (h : Leads tr0 cs P) (k : ∀ tr1, Keeps tr0 tr1 → Tri tr1 → P tr1 → Leads tr1 ds Q) (hr : ∀ tr tr', Keeps tr0 tr → Keeps tr tr' → P tr → Q tr' → R tr') : Leads tr0 (cs ++ ds) R := by
  intro tr more hk ht
  rw [List.foldl_append]
  rcases h tr more hk ht with e | ⟨tr1, more1, e, k1, t1, p1⟩
  · rw [e]; exact .inl (visitO_none _)
  · rw [e]
    rcases k tr1 (hk.trans k1) t1 p1 tr1 more1 (Keeps.refl _) t1 with e2 | ⟨tr2, more2, e2, k2, t2, p2⟩
    · exact .inl e2
    · exact .inr ⟨tr2, more2, e2, k1.trans k2, t2, hr tr1 tr2 (hk.trans k1) k2 p1 p2⟩

theorem litV_pos {tr : List Int} {v : Nat} (h : 1 ≤ v) : litV tr (v : Int) = tr.getD v 0 := by
  unfold litV
  rw [if_neg (by omega), Int.natAbs_natCast]
theorem litV_neg {tr : List Int} {v : Nat} (h : 1 ≤ v) : litV tr (-(v : Int)) = -(tr.getD v 0) := by
  unfold litV
  rw [if_pos (by omega), Int.natAbs_neg, Int.natAbs_natCast]
/-- A register of the row ahead, as a literal: missing, or false. -/
def PriorFalse (tr : List Int) (r : Int) : Prop := r = 0 ∨ litV tr r = -1
theorem PriorFalse.keeps {tr tr' : List Int} {r : Int} (h : PriorFalse tr r) (k : Keeps tr tr') : PriorFalse tr' r := by
  rcases h with h | h
  · exact .inl h
  · exact .inr (by rw [litV_keeps k (by omega), h])

/-- One clause '(-r, a, b)' whose a is missing or false and whose b is false: register r becomes false. -/
theorem clause_false {tr0 : List Int} {R : Nat} (hR : 1 ≤ R) (hl : R < tr0.length) {a b : Int} (hb0 : b ≠ 0) (hab : a.natAbs < tr0.length ∧ b.natAbs < tr0.length) (ha : PriorFalse tr0 a) (hb : litV tr0 b = -1) (hRa : a ≠ -(R : Int)) (hRb : b ≠ -(R : Int)) :
    Leads tr0 [nz [-(R : Int), a, b]] (fun tr => tr.getD R 0 = -1) := by
  intro tr more hk ht
  have hlt : R < tr.length := by rw [hk.1]; exact hl
  have hb' : litV tr b = -1 := by rw [litV_keeps hk (by omega), hb]
  have ha' := ha.keeps hk
  have hRn : -(R : Int) ≠ 0 := by omega
  have hnz : ∀ z, z ∈ nz [-(R : Int), a, b] ↔ z ≠ 0 ∧ (z = -(R : Int) ∨ z = a ∨ z = b) := by
    intro z
    unfold nz
    rw [List.mem_filter]
    simp
    constructor
    · rintro ⟨h1, h2⟩; exact ⟨h2, h1⟩
    · rintro ⟨h1, h2⟩; exact ⟨h2, h1⟩
  have hx : ∀ y ∈ nz [-(R : Int), a, b], y.natAbs < tr.length := fun y hy => by
    rw [hk.1]
    rcases ((hnz y).1 hy).2 with e | e | e
    · subst e; omega
    · subst e; exact hab.1
    · subst e; exact hab.2
  rw [List.foldl_cons, List.foldl_nil]
  show visitF tr more _ = none ∨ ∃ _ _, visitF tr more _ = _ ∧ _
  by_cases h1 : litV tr (-(R : Int)) = 1
  · -- it is false already
    have hv : tr.getD R 0 = -1 := by rw [litV_neg hR] at h1; omega
    have his : (scanF tr (nz [-(R : Int), a, b])).1 = true := by
      rw [scan_is]
      exact List.any_eq_true.2 ⟨-(R : Int), (hnz _).2 ⟨hRn, .inl rfl⟩, by simp [h1]⟩
    right
    unfold visitF
    rw [if_pos his]
    exact ⟨tr, more, rfl, Keeps.refl _, ht, hv⟩
  · have hoth : ∀ z ∈ nz [-(R : Int), a, b], z ≠ -(R : Int) → litV tr z = -1 := fun z hz hne => by
      obtain ⟨z0, z1⟩ := (hnz z).1 hz
      rcases z1 with e | e | e
      · exact absurd e hne
      · subst e
        rcases ha' with q | q
        · exact absurd q z0
        · exact q
      · subst e; exact hb'
    have hcount : (nz [-(R : Int), a, b]).countP (fun z => z == -(R : Int)) ≤ 1 := by
      refine Nat.le_trans (List.Sublist.countP_le List.filter_sublist) ?_
      have q1 : (a == -(R : Int)) = false := by simpa using hRa
      have q2 : (b == -(R : Int)) = false := by simpa using hRb
      simp [List.countP_cons, q1, q2]
    rcases visit_unit (more := more) hRn (by rw [Int.natAbs_neg, Int.natAbs_natCast]; exact hlt) hcount ((hnz _).2 ⟨hRn, .inl rfl⟩) hoth h1 (litV_tri ht _) with e | ⟨more', e, _⟩
    · exact .inl e
    · right
      refine ⟨_, _, e, visit_keeps hx e, visit_tri ht hx e, ?_⟩
      show (setL tr (-(R : Int))).getD R 0 = -1
      rw [setL_get (by rw [Int.natAbs_neg, Int.natAbs_natCast]; exact hlt), if_pos (by omega), if_neg (by omega)]
/-- Any clause over variables in range: it leads somewhere. -/
theorem clause_any {tr0 : List Int} {x : List Int} (hx : ∀ y ∈ x, y.natAbs < tr0.length) : Leads tr0 [x] (fun _ => True) := by
  intro tr more hk ht
  rw [List.foldl_cons, List.foldl_nil]
  show visitF tr more _ = none ∨ ∃ _ _, visitF tr more _ = _ ∧ _
  have hx' : ∀ y ∈ x, y.natAbs < tr.length := fun y hy => by rw [hk.1]; exact hx y hy
  cases e : visitF tr more x with
  | none => exact .inl rfl
  | some p =>
    obtain ⟨tr', more'⟩ := p
    exact .inr ⟨tr', more', rfl, visit_keeps hx' e, visit_tri ht hx' e, trivial⟩
theorem keeps_false {tr tr' : List Int} {v : Nat} (h : Keeps tr tr') (hv : tr.getD v 0 = -1) : tr'.getD v 0 = -1 := by rw [h.2 v (by omega), hv]

/-- The row ahead of row i: the registers beyond the count are false. -/
def RowF (s : Nat → Bool) (l : List Int) (next : Int) (k : Nat) : Nat → List Int → Prop
  | 0, _ => True
  | i + 1, tr => ∀ j, 1 ≤ j → j ≤ manyAt k i → cntS s l (i + 1) < j → tr.getD (regV next k i j) 0 = -1
theorem RowF.keeps {s : Nat → Bool} {l : List Int} {next : Int} {k i : Nat} {tr tr' : List Int} (h : RowF s l next k i tr) (hk : Keeps tr tr') : RowF s l next k i tr' := by
  cases i with
  | zero => trivial
  | succ i => exact fun j h1 h2 h3 => keeps_false hk (h j h1 h2 h3)
/-- The old variables are set as s has them. -/
def OldSet (s : Nat → Bool) (l : List Int) (tr : List Int) : Prop := ∀ x ∈ l, litV tr x = if sval s x = true then 1 else -1
theorem OldSet.keeps {s : Nat → Bool} {l : List Int} {tr tr' : List Int} (h : OldSet s l tr) (hk : Keeps tr tr') : OldSet s l tr' := fun x hx => by
  have e := h x hx
  rw [litV_keeps hk (by rw [e]; split <;> omega), e]
theorem regV_int {next : Int} (hn : 1 ≤ next) (k i j : Nat) (hj : 1 ≤ j) : ((regV next k i j : Nat) : Int) = beginAt next k i + j - 1 := by
  have := begin_pos hn k i
  unfold regV
  omega
/-- The register ahead, as a literal. -/
theorem prior_lit {s : Nat → Bool} {l : List Int} {next : Int} {k i j : Nat} {tr : List Int} (hn : 1 ≤ next) (h : RowF s l next k i tr) (hj : 1 ≤ j) (hc : cntS s l i < j) : PriorFalse tr (regR (prevB next k i) (prevM k i) j) := by
  cases i with
  | zero =>
    left
    unfold regR prevB prevM
    rw [if_pos (.inr (by simp; omega))]
  | succ i =>
    show PriorFalse tr (regR (beginAt next k i) (manyAt k i) j)
    by_cases hm : j ≤ manyAt k i
    · right
      have e : regR (beginAt next k i) (manyAt k i) j = ((regV next k i j : Nat) : Int) := by
        unfold regR
        rw [if_neg (by omega), regV_int hn k i j hj]
      have hp := begin_pos hn k i
      have hp2 : 1 ≤ regV next k i j := by have := regV_int hn k i j hj; omega
      rw [e, litV_pos hp2]
      exact h j hj hm hc
    · left
      unfold regR
      rw [if_pos (.inr (by omega))]
theorem prior_there {next : Int} {k i j : Nat} (hn : 1 ≤ next) (hj : 1 ≤ j) (hm : j + 1 ≤ manyAt k i) : ∃ i', i = i' + 1 ∧ regR (prevB next k i) (prevM k i) j = ((regV next k i' j : Nat) : Int) ∧ j ≤ manyAt k i' := by
  cases i with
  | zero => have : manyAt k 0 ≤ 1 := by unfold manyAt; omega
            omega
  | succ i =>
    have hm' : j ≤ manyAt k i := by unfold manyAt at *; omega
    refine ⟨i, rfl, ?_, hm'⟩
    show regR (beginAt next k i) (manyAt k i) j = _
    unfold regR
    rw [if_neg (by omega), regV_int hn k i j hj]
theorem regV_lt {next : Int} (hn : 1 ≤ next) {k i j n : Nat} (hi : i < n) (hj : 1 ≤ j) (hm : j ≤ manyAt k i) : ((regV next k i j : Nat) : Int) < beginAt next k n := by
  rw [regV_int hn k i j hj]
  have h1 := beginAt_mono next k (show i + 1 ≤ n by omega)
  have e : beginAt next k (i + 1) = beginAt next k i + manyAt k i := rfl
  omega
theorem regV_row {next : Int} (hn : 1 ≤ next) {k i i' j j' : Nat} (hi : i' < i) (hj : 1 ≤ j) (hj' : 1 ≤ j') (hm' : j' ≤ manyAt k i') : regV next k i' j' < regV next k i j := by
  have h1 := regV_lt hn (n := i) hi hj' hm'
  have h2 := regV_int hn k i j hj
  omega

set_option maxHeartbeats 1000000 in
/-- One register beyond the count. -/
theorem reg_false {s : Nat → Bool} {l : List Int} {next : Int} {k i j : Nat} {tr0 : List Int} (hn : 1 ≤ next) (hi : i < l.length) (hj : 1 ≤ j) (hm : j ≤ manyAt k i) (hlit : ∀ x ∈ l, x ≠ 0 ∧ (x.natAbs : Int) < next) (hlen : beginAt next k l.length ≤ tr0.length)
    (ho : OldSet s l tr0) (hr : RowF s l next k i tr0) (hc : cntS s l (i + 1) < j) :
    Leads tr0 (clJ (beginAt next k i) (prevB next k i) (prevM k i) (l.getD i 0) j) (fun tr => tr.getD (regV next k i j) 0 = -1) := by
  have hxm : l.getD i 0 ∈ l := by rw [List.getD_eq_getElem?_getD, List.getElem?_eq_getElem hi]; exact List.getElem_mem hi
  have hx := hlit _ hxm
  have hs := cntS_succ (s := s) hi
  have hR := regV_int hn k i j hj
  have hb := begin_pos hn k i
  have hlt : ((regV next k i j : Nat) : Int) < tr0.length := by have := regV_lt hn hi hj hm; omega
  have hbn := beginAt_mono next k (show 0 ≤ i by omega)
  have e0 : beginAt next k 0 = next := rfl
  have hbl := beginAt_mono next k (show i ≤ l.length by omega)
  have hpr : ∀ q : Int, (regR (prevB next k i) (prevM k i) q).natAbs < tr0.length ∧ regR (prevB next k i) (prevM k i) q ≠ -((regV next k i j : Nat) : Int) := by
    intro q
    have hq0 : 0 ≤ regR (prevB next k i) (prevM k i) q ∧ regR (prevB next k i) (prevM k i) q < beginAt next k i := by
      cases i with
      | zero =>
        have : regR (prevB next k 0) (prevM k 0) q = 0 := by
          unfold regR prevB prevM
          by_cases h : q < 1
          · rw [if_pos (.inl h)]
          · rw [if_pos (.inr (by simp; omega))]
        rw [this]; omega
      | succ i =>
        have hp := begin_pos hn k i
        have e : beginAt next k (i + 1) = beginAt next k i + manyAt k i := rfl
        show 0 ≤ regR (beginAt next k i) (manyAt k i) q ∧ regR (beginAt next k i) (manyAt k i) q < _
        unfold regR
        split <;> omega
    omega
  have eR : -(beginAt next k i + (j : Int) - 1) = -((regV next k i j : Nat) : Int) := by rw [hR]
  unfold clJ
  rw [eR]
  by_cases hsx : sval s (l.getD i 0) = true
  · -- the literal is true: the second clause does it
    rw [if_pos hsx] at hs
    have hj1 : 1 < j := by omega
    rw [if_pos hj1]
    refine Leads.append (P := fun _ => True) (Q := fun tr => tr.getD (regV next k i j) 0 = -1) (clause_any fun y hy => ?_) (fun tr1 k1 t1 _ => ?_) (fun _ _ _ _ _ q => q)
    · unfold nz at hy
      rw [List.mem_filter] at hy
      have := hy.1
      simp only [List.mem_cons, List.not_mem_nil, or_false] at this
      rcases this with e | e | e
      · subst e; omega
      · subst e; exact (hpr j).1
      · subst e; have := hx.2; omega
    · obtain ⟨i', ei, ev, hm'⟩ := prior_there (next := next) (k := k) (i := i) (j := j - 1) hn (by omega) (by omega)
      have ej : ((j : Int) - 1) = ((j - 1 : Nat) : Int) := by omega
      rw [ej]
      have hval : litV tr0 (regR (prevB next k i) (prevM k i) ((j - 1 : Nat) : Int)) = -1 := by
        rcases prior_lit hn hr (show 1 ≤ j - 1 by omega) (show cntS s l i < j - 1 by omega) with q | q
        · rw [ev] at q
          have := regV_int hn k i' (j - 1) (by omega)
          have := begin_pos hn k i'
          omega
        · exact q
      have hpl := prior_lit hn hr hj (show cntS s l i < j by omega)
      have hne0 : regR (prevB next k i) (prevM k i) ((j - 1 : Nat) : Int) ≠ 0 := by
        rw [ev]
        have := regV_int hn k i' (j - 1) (by omega)
        have := begin_pos hn k i'
        omega
      exact clause_false (by omega) (by rw [k1.1]; omega) hne0 ⟨by rw [k1.1]; exact (hpr j).1, by rw [k1.1]; exact (hpr _).1⟩ (hpl.keeps k1) (by rw [litV_keeps k1 (by omega), hval]) (hpr j).2 (hpr _).2
  · -- the literal is false: the first clause does it
    rw [if_neg hsx] at hs
    have hxv : litV tr0 (l.getD i 0) = -1 := by rw [ho _ hxm, if_neg hsx]
    have h1 : Leads tr0 [nz [-((regV next k i j : Nat) : Int), regR (prevB next k i) (prevM k i) j, l.getD i 0]] (fun tr => tr.getD (regV next k i j) 0 = -1) :=
      clause_false (by omega) (by omega) hx.1 ⟨(hpr j).1, by have := hx.2; omega⟩ (prior_lit hn hr hj (by omega)) hxv (hpr j).2 (fun e => by have := hx.2; rw [e] at this; omega)
    by_cases hj1 : 1 < j
    · rw [if_pos hj1]
      refine Leads.append h1 (fun tr1 k1 t1 _ => clause_any (fun y hy => ?_)) (fun tr tr' _ hk p _ => keeps_false hk p)
      unfold nz at hy
      rw [List.mem_filter] at hy
      have := hy.1
      simp only [List.mem_cons, List.not_mem_nil, or_false] at this
      rw [k1.1]
      rcases this with e | e | e
      · subst e; omega
      · subst e; exact (hpr j).1
      · subst e; exact (hpr _).1
    · rw [if_neg hj1, List.append_nil]
      exact h1

theorem Leads.weaken {tr0 : List Int} {cs : List (List Int)} {P Q : List Int → Prop} (h : Leads tr0 cs P) (hpq : ∀ tr, P tr → Q tr) : Leads tr0 cs Q := fun tr more hk ht => by
  rcases h tr more hk ht with e | ⟨tr', more', e, k, t, p⟩
  · exact .inl e
  · exact .inr ⟨tr', more', e, k, t, hpq _ p⟩
theorem leads_any {tr0 : List Int} : ∀ {cs : List (List Int)}, (∀ x ∈ cs, ∀ y ∈ x, y.natAbs < tr0.length) → Leads tr0 cs (fun _ => True)
  | [], _ => fun tr more _ ht => .inr ⟨tr, more, rfl, Keeps.refl _, ht, trivial⟩
  | x :: r, h => by
    have h1 : Leads tr0 [x] (fun _ => True) := clause_any (h x (by simp))
    exact Leads.append (cs := [x]) (ds := r) h1 (fun tr1 k1 t1 _ => leads_any (fun z hz y hy => by rw [k1.1]; exact h z (by simp [hz]) y hy)) (fun _ _ _ _ _ _ => trivial)
theorem row_false {s : Nat → Bool} {l : List Int} {next : Int} {k i : Nat} {tr0 : List Int} (hn : 1 ≤ next) (hi : i < l.length) (hlit : ∀ x ∈ l, x ≠ 0 ∧ (x.natAbs : Int) < next) (hlen : beginAt next k l.length ≤ tr0.length)
    (hrange : ∀ x ∈ rowL (beginAt next k i) (prevB next k i) (prevM k i) (l.getD i 0) (manyAt k i), ∀ y ∈ x, y.natAbs < tr0.length)
    (ho : OldSet s l tr0) (hr : RowF s l next k i tr0) : ∀ m, m ≤ manyAt k i → Leads tr0 (rowL (beginAt next k i) (prevB next k i) (prevM k i) (l.getD i 0) m) (fun tr => ∀ j, 1 ≤ j → j ≤ m → cntS s l (i + 1) < j → tr.getD (regV next k i j) 0 = -1) := by
  have hsub : ∀ m, m ≤ manyAt k i → ∀ x ∈ rowL (beginAt next k i) (prevB next k i) (prevM k i) (l.getD i 0) m, x ∈ rowL (beginAt next k i) (prevB next k i) (prevM k i) (l.getD i 0) (manyAt k i) := by
    intro m hm
    obtain ⟨d, hd⟩ := Nat.exists_eq_add_of_le hm
    rw [hd]
    clear hd hm
    induction d with
    | zero => exact fun x hx => hx
    | succ d ih => exact fun x hx => by rw [show m + (d + 1) = m + d + 1 by omega, rowL]; exact List.mem_append_left _ (ih x hx)
  intro m
  induction m with
  | zero => exact fun _ tr more _ ht => .inr ⟨tr, more, rfl, Keeps.refl _, ht, fun j h1 h2 => by omega⟩
  | succ m ih =>
    intro hm
    rw [rowL]
    by_cases hc : cntS s l (i + 1) < m + 1
    · refine Leads.append (ih (by omega)) (fun tr1 k1 t1 _ => reg_false hn hi (show 1 ≤ m + 1 by omega) hm hlit (by rw [k1.1]; exact hlen) (ho.keeps k1) (hr.keeps k1) hc) (fun tr tr' _ hk p q j h1 h2 h3 => ?_)
      rcases Nat.lt_or_ge j (m + 1) with h4 | h4
      · exact keeps_false hk (p j h1 (by omega) h3)
      · obtain rfl : j = m + 1 := by omega
        exact q
    · refine Leads.append (ih (by omega)) (fun tr1 k1 t1 _ => leads_any (fun x hx y hy => by rw [k1.1]; exact hrange x (hsub (m + 1) hm x (by rw [rowL]; exact List.mem_append_right _ hx)) y hy)) (fun tr tr' _ hk p _ j h1 h2 h3 => ?_)
      exact keeps_false hk (p j h1 (by omega) h3)
theorem all_false {s : Nat → Bool} {l : List Int} {next : Int} {k : Nat} {tr0 : List Int} (hn : 1 ≤ next) (hlit : ∀ x ∈ l, x ≠ 0 ∧ (x.natAbs : Int) < next) (hlen : beginAt next k l.length ≤ tr0.length) (ho : OldSet s l tr0) :
    ∀ n, n ≤ l.length → (∀ x ∈ allL l next k n, ∀ y ∈ x, y.natAbs < tr0.length) → Leads tr0 (allL l next k n) (RowF s l next k n)
  | 0, _, _ => fun tr more _ ht => .inr ⟨tr, more, rfl, Keeps.refl _, ht, trivial⟩
  | n + 1, h, hx => by
    rw [allL]
    refine Leads.append (all_false hn hlit hlen ho n (by omega) (fun x hxm => hx x (by rw [allL]; exact List.mem_append_left _ hxm))) (fun tr1 k1 t1 p1 => ?_) (fun _ _ _ _ _ q => q)
    exact row_false (s := s) hn (by omega) hlit (by rw [k1.1]; exact hlen) (fun x hxm y hy => by rw [k1.1]; exact hx x (by rw [allL]; exact List.mem_append_right _ hxm) y hy) (ho.keeps k1) p1 (manyAt k n) (Nat.le_refl _)
/-- Fewer than k true literals: the first round ends in a conflict. -/
theorem forced_yes {s : Nat → Bool} {l : List Int} {next : Int} {k f : Nat} {tr0 : List Int} (hn : 1 ≤ next) (hlit : ∀ x ∈ l, x ≠ 0 ∧ (x.natAbs : Int) < next) (hlen : beginAt next k l.length ≤ tr0.length) (ho : OldSet s l tr0) (ht : Tri tr0) (hk1 : 1 ≤ k) (hk2 : k ≤ l.length)
    (hx : ∀ x ∈ leastC l next k, ∀ y ∈ x, y.natAbs < tr0.length) (hc : l.countP (sval s) < k) : forcedF (leastC l next k) (f + 1) tr0 = true := by
  have hround : roundF tr0 (leastC l next k) = none := by
    unfold roundF leastC
    rw [List.foldl_append]
    rcases all_false hn hlit hlen ho l.length (Nat.le_refl _) (fun x hxm => hx x (by unfold leastC; exact List.mem_append_left _ hxm)) tr0 false (Keeps.refl _) ht with e | ⟨tr', more', e, k1, t1, p1⟩
    · rw [e]; rfl
    · rw [e, List.foldl_cons, List.foldl_nil]
      show visitF tr' more' (lastC next k l.length) = none
      obtain ⟨n, hnl⟩ : ∃ n, l.length = n + 1 := ⟨l.length - 1, by omega⟩
      have hmk : k ≤ manyAt k n := by unfold manyAt; omega
      have hcc : cntS s l (n + 1) < k := by rw [← hnl, cntS_all]; exact hc
      rw [hnl] at p1 ⊢
      have hv : tr'.getD (regV next k n k) 0 = -1 := p1 k hk1 hmk hcc
      have hp := begin_pos hn k n
      have hri := regV_int hn k n k hk1
      have e1 : lastC next k (n + 1) = [((regV next k n k : Nat) : Int)] := by
        unfold lastC
        have e2 : regR (prevB next k (n + 1)) (prevM k (n + 1)) k = ((regV next k n k : Nat) : Int) := by
          show regR (beginAt next k n) (manyAt k n) k = _
          unfold regR
          rw [if_neg (by omega), hri]
        rw [e2]
        unfold nz
        have : ((regV next k n k : Nat) : Int) ≠ 0 := by omega
        simp only [List.filter_cons, List.filter_nil]
        rw [if_pos (by simpa using this)]
      have hlv : litV tr' ((regV next k n k : Nat) : Int) = -1 := by rw [litV_pos (by omega), hv]
      rw [e1]
      unfold visitF
      have h1 : (scanF tr' [((regV next k n k : Nat) : Int)]).1 = false := by rw [scan_is]; simp [hlv]
      have h2 : (scanF tr' [((regV next k n k : Nat) : Int)]).2.1 = 0 := by rw [scan_op]; simp [hlv]
      rw [if_neg (by rw [h1]; simp), if_pos h2]
  rw [forcedF, hround]
end Go.Proofs.Ytanbkdfffojpnaa
