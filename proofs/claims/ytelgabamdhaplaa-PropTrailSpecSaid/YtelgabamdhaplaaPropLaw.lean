/-
  The plain law of the propagation engine: what each visit keeps.
-/
import Derived.Test.YtelgabamdhaplaaVisit
namespace Go.Proofs.Ytelgabamdhaplaa
open Go.RowKit

abbrev lits (ts : List TStep) : List Int := ts.map Prod.fst

theorem trailG_append {N : Int} {cs : List (List Int)} : ∀ {a b : List TStep} {known : List Int}, trailG N cs known (a ++ b) = (trailG N cs known a && trailG N cs ((lits a).reverse ++ known) b)
  | [], b, known => by simp [trailG]
  | p :: r, b, known => by
    simp only [List.cons_append, trailG, List.map_cons, List.reverse_cons, List.append_assoc, List.singleton_append]
    split
    · rw [trailG_append]; simp
    · simp
theorem trailG_snoc {N : Int} {cs : List (List Int)} {ts : List TStep} {p : TStep} : trailG N cs [] (ts ++ [p]) = true ↔ trailG N cs [] ts = true ∧ stepOK N cs (lits ts).reverse p := by
  rw [trailG_append]
  simp only [trailG, List.append_nil, Bool.and_eq_true]
  constructor
  · rintro ⟨h1, h2⟩
    split at h2
    · next h => exact ⟨h1, h⟩
    · cases h2
  · rintro ⟨h1, h2⟩
    exact ⟨h1, by rw [if_pos h2]⟩
theorem trailG_lit {N : Int} {cs : List (List Int)} : ∀ {ts : List TStep} {known : List Int}, trailG N cs known ts = true → ∀ x ∈ lits ts, x ≠ 0 ∧ -N ≤ x ∧ x ≤ N
  | p :: r, known, h, x, hx => by
    simp only [trailG] at h
    split at h
    · next hs =>
      simp only [List.map_cons, List.mem_cons] at hx
      rcases hx with rfl | hx
      · exact ⟨hs.1.1, hs.1.2.2.1, hs.1.2.1⟩
      · exact trailG_lit h x hx
    · cases h
theorem isKnown_mem {known : List Int} {x : Int} : isKnown known x = false ↔ x ∉ known ∧ -x ∉ known := by
  unfold isKnown
  simp
/-- The variables of a trail are all different. -/
theorem trailG_nodup {N : Int} {cs : List (List Int)} : ∀ {ts : List TStep} {known : List Int}, trailG N cs known ts = true → (known.map Int.natAbs).Nodup → (((lits ts).reverse ++ known).map Int.natAbs).Nodup
  | [], known, _, h => by simpa using h
  | p :: r, known, h, hn => by
    simp only [trailG] at h
    split at h
    · next hs =>
      have hk := isKnown_mem.1 hs.1.2.2.2.1
      have := trailG_nodup h (by
        simp only [List.map_cons, List.nodup_cons]
        refine ⟨fun hm => ?_, hn⟩
        obtain ⟨y, hy, e⟩ := List.mem_map.1 hm
        rcases Int.natAbs_eq_natAbs_iff.1 e with e | e
        · exact hk.1 (e ▸ hy)
        · exact hk.2 (by rw [← e]; exact hy))
      simpa using this
    · cases h
theorem nodup_le : ∀ {n : Nat} {l : List Nat}, l.Nodup → (∀ x ∈ l, 1 ≤ x ∧ x ≤ n) → l.length ≤ n
  | 0, l, _, h => by
    cases l with
    | nil => simp
    | cons a r => have := h a (by simp); omega
  | n + 1, l, hn, h => by
    by_cases hm : n + 1 ∈ l
    · have := nodup_le (n := n) (l := l.erase (n + 1)) (hn.erase _) (fun x hx => by
        have h1 := h x (List.mem_of_mem_erase hx)
        have h2 : x ≠ n + 1 := fun e => by subst e; exact (List.Nodup.not_mem_erase hn) hx
        omega)
      rw [List.length_erase_of_mem hm] at this
      have : 0 < l.length := List.length_pos_of_mem hm
      omega
    · have := nodup_le (n := n) (l := l) hn (fun x hx => by
        have h1 := h x hx
        have h2 : x ≠ n + 1 := fun e => by subst e; exact hm hx
        omega)
      omega
theorem trail_len {N : Int} {cs : List (List Int)} {ts : List TStep} (h : trailG N cs [] ts = true) : ts.length ≤ N.toNat := by
  have hn := trailG_nodup h (by simp)
  have := nodup_le (n := N.toNat) hn (fun x hx => by
    simp only [List.append_nil] at hx
    obtain ⟨y, hy, rfl⟩ := List.mem_map.1 hx
    have := trailG_lit h y (by simpa using hy)
    omega)
  simpa using this

/-- What look answers. -/
theorem lookG_true {known : List Int} : ∀ {l op r : List Int}, lookG known op l = (r, true) → ∃ x ∈ l, x ∈ known
  | [], op, r, h => by simp [lookG] at h
  | y :: l, op, r, h => by
    unfold lookG at h
    split at h
    · next hy => exact ⟨y, by simp, hy⟩
    · split at h
      all_goals
        obtain ⟨x, hx, hk⟩ := lookG_true h
        exact ⟨x, by simp [hx], hk⟩
theorem lookG_false {known : List Int} : ∀ {l op r : List Int}, lookG known op l = (r, false) → op.Nodup → (∀ x ∈ op, -x ∉ known) →
    (∃ e, r = op ++ e) ∧ (∀ x ∈ l, x ∉ known) ∧ (∀ x ∈ r, -x ∉ known ∧ (x ∈ op ∨ x ∈ l)) ∧ r.Nodup ∧ (∀ y ∈ l, -y ∈ known ∨ y ∈ r ∨ 2 ≤ r.length)
  | [], op, r, h, hn, ho => by
    simp [lookG] at h
    subst h
    exact ⟨⟨[], by simp⟩, by simp, fun x hx => ⟨ho x hx, .inl hx⟩, hn, by simp⟩
  | y :: l, op, r, h, hn, ho => by
    unfold lookG at h
    split at h
    · simp at h
    · next hy =>
      split at h
      · next hm =>
        have hm' : -y ∉ known ∧ op.length < 2 ∧ y ∉ op := by simpa [mayOpen, and_assoc] using hm
        obtain ⟨⟨e1, a1⟩, a2, a3, a4, a5⟩ := lookG_false h (by
          rw [List.nodup_append]
          exact ⟨hn, by simp, fun a ha b hb => by simp at hb; subst hb; exact fun e => hm'.2.2 (e ▸ ha)⟩) (fun x hx => by
            simp at hx
            rcases hx with hx | rfl
            · exact ho x hx
            · exact hm'.1)
        refine ⟨⟨y :: e1, by rw [a1]; simp⟩, fun x hx => ?_, fun x hx => ?_, a4, fun x hx => ?_⟩
        · simp at hx
          rcases hx with rfl | hx
          · exact hy
          · exact a2 x hx
        · obtain ⟨b1, b2⟩ := a3 x hx
          refine ⟨b1, ?_⟩
          rcases b2 with b2 | b2
          · simp at b2
            rcases b2 with b2 | rfl
            · exact .inl b2
            · exact .inr (by simp)
          · exact .inr (by simp [b2])
        · simp at hx
          rcases hx with rfl | hx
          · exact .inr (.inl (by rw [a1]; simp))
          · exact a5 x hx
      · next hm =>
        obtain ⟨⟨e1, a1⟩, a2, a3, a4, a5⟩ := lookG_false h hn ho
        have hm' : -y ∈ known ∨ 2 ≤ op.length ∨ y ∈ op := by
          by_cases h1 : -y ∈ known
          · exact .inl h1
          · by_cases h2 : y ∈ op
            · exact .inr (.inr h2)
            · refine .inr (.inl ?_)
              apply Nat.le_of_not_lt
              intro h3
              exact hm (by simp [mayOpen, h1, h2, h3])
        refine ⟨⟨e1, a1⟩, fun x hx => ?_, fun x hx => ?_, a4, fun x hx => ?_⟩
        · simp at hx
          rcases hx with rfl | hx
          · exact hy
          · exact a2 x hx
        · obtain ⟨b1, b2⟩ := a3 x hx
          exact ⟨b1, b2.imp id (by intro h; simp [h])⟩
        · simp at hx
          rcases hx with rfl | hx
          · rcases hm' with q | q | q
            · exact .inl q
            · exact .inr (.inr (by rw [a1, List.length_append]; omega))
            · exact .inr (.inl (by rw [a1]; simp [q]))
          · exact a5 x hx

/-- What the engine keeps at every visit. -/
structure Base (N : Int) (cs : List (List Int)) (ts : List TStep) (s : PS) : Prop where
  known : s.known = (lits s.out).reverse
  trail : trailG N cs [] s.out = true
  ext : ∃ e : List TStep, s.out = ts ++ e ∧ ∀ p ∈ e, 0 ≤ p.2
  range : ∀ k, ∀ i ∈ s.f k, 0 ≤ i ∧ i < (cs.length : Int)
/-- Clause i is watched: it holds, or two of its literals that P does not make false lead to it. -/
def Wat (cs : List (List Int)) (P : List Int) (s : PS) (i : Nat) : Prop :=
  (∃ x ∈ cs.getD i [], x ∈ s.known) ∨ ∃ x y, x ∈ cs.getD i [] ∧ y ∈ cs.getD i [] ∧ x ≠ y ∧ -x ∉ P ∧ -y ∉ P ∧ (i : Int) ∈ s.f (-x) ∧ (i : Int) ∈ s.f (-y)

theorem addTo_mem {f : Int → List Int} {j i k a : Int} (h : a ∈ f k) : a ∈ addTo f j i k := by
  unfold addTo
  split
  · simp [h]
  · exact h
theorem fileG_mem {i k a : Int} : ∀ {op : List Int} {f : Int → List Int}, a ∈ f k → a ∈ fileG i op f k
  | [], _, h => h
  | x :: r, f, h => fileG_mem (op := r) (f := addTo f (-x) i) (addTo_mem h)
theorem fileG_in {i : Int} : ∀ {op : List Int} {f : Int → List Int} {x : Int}, x ∈ op → i ∈ fileG i op f (-x)
  | y :: r, f, x, h => by
    rcases List.mem_cons.1 h with rfl | h
    · exact fileG_mem (op := r) (f := addTo f (-x) i) (by simp [addTo])
    · exact fileG_in (op := r) (f := addTo f (-y) i) h
theorem fileG_range {i k : Int} {m : Int} : ∀ {op : List Int} {f : Int → List Int}, (∀ k, ∀ a ∈ f k, 0 ≤ a ∧ a < m) → 0 ≤ i → i < m → ∀ a ∈ fileG i op f k, 0 ≤ a ∧ a < m
  | [], f, h, _, _, a, ha => h k a ha
  | x :: r, f, h, h0, h1, a, ha => fileG_range (op := r) (f := addTo f (-x) i) (fun k a ha => by
      unfold addTo at ha
      split at ha
      · simp at ha
        rcases ha with ha | rfl
        · exact h k a ha
        · exact ⟨h0, h1⟩
      · exact h k a ha) h0 h1 a ha

theorem visit_yes {N : Int} {cs : List (List Int)} {ts : List TStep} {s s' : PS} {i : Nat} {P : List Int} (hB : Base N cs ts s) (hi : i < cs.length) (hcs : ∀ l ∈ cs, ∀ x ∈ l, x ≠ 0 ∧ -N ≤ x ∧ x ≤ N) (hP : ∀ x ∈ P, x ∈ s.known) (h : visitR cs s i = (s', true)) :
    Base N cs ts s' ∧ s'.head = s.head ∧ (∀ x ∈ s.known, x ∈ s'.known) ∧ (∀ j, Wat cs P s j → Wat cs P s' j) ∧ Wat cs P s' i ∧ ∃ e, s'.out = s.out ++ e := by
  have hl : cs.getD i [] ∈ cs := by rw [List.getD_eq_getElem?_getD, List.getElem?_eq_getElem hi]; simp
  have hcl := hcs _ hl
  unfold visitR at h
  split at h
  · next r hr =>
    simp at h
    subst h
    exact ⟨hB, rfl, fun _ h => h, fun _ h => h, .inl (lookG_true hr), [], by simp⟩
  · simp at h
  · next x hr =>
    simp at h
    subst h
    obtain ⟨_, a2, a3, _, a5⟩ := lookG_false hr (by simp) (by simp)
    have hx := a3 x (by simp)
    have hxl : x ∈ cs.getD i [] := by rcases hx.2 with h | h; · cases h
                                      · exact h
    have hstep : stepOK N cs s.known (x, (i : Int)) := by
      refine ⟨⟨(hcl x hxl).1, (hcl x hxl).2.2, (hcl x hxl).2.1, isKnown_mem.2 ⟨a2 x hxl, hx.1⟩, by show (-1 : Int) ≤ i; omega, by show (i : Int) < cs.length; omega⟩, fun _ => ?_⟩
      show byOK (cs.getD (i : Int).toNat []) x s.known = true
      rw [Int.toNat_natCast]
      unfold byOK
      simp only [Bool.and_eq_true, decide_eq_true_eq, Bool.not_eq_true', List.any_eq_false]
      refine ⟨hxl, fun y hy => ?_⟩
      unfold openB
      rcases a5 y hy with q | q | q
      · simp [q]
      · simp at q; simp [q]
      · simp at q
    refine ⟨⟨?_, ?_, ?_, hB.range⟩, rfl, fun y hy => by simp [hy], fun j hj => ?_, .inl ⟨x, hxl, by simp⟩, [(x, (i : Int))], rfl⟩
    · show x :: s.known = _
      rw [hB.known]; simp
    · show trailG N cs [] (s.out ++ [(x, (i : Int))]) = true
      rw [trailG_snoc, ← hB.known]
      exact ⟨hB.trail, hstep⟩
    · obtain ⟨e, he, hp⟩ := hB.ext
      refine ⟨e ++ [(x, (i : Int))], by show s.out ++ _ = _; rw [he, List.append_assoc], fun p hp' => ?_⟩
      rcases List.mem_append.1 hp' with q | q
      · exact hp p q
      · simp at q; subst q; show (0 : Int) ≤ i; omega
    · rcases hj with ⟨y, hy, hk⟩ | q
      · exact .inl ⟨y, hy, by simp [hk]⟩
      · exact .inr q
  · next x y r hr =>
    simp at h
    subst h
    obtain ⟨_, a2, a3, a4, _⟩ := lookG_false hr (by simp) (by simp)
    have hx := a3 x (by simp)
    have hy := a3 y (by simp)
    have hne : x ≠ y := by intro e; subst e; simp at a4
    refine ⟨⟨hB.known, hB.trail, hB.ext, fun k a ha => fileG_range hB.range (by omega) (by omega) a ha⟩, rfl, fun _ h => h, fun j hj => ?_, .inr ⟨x, y, ?_, ?_, hne, fun q => hx.1 (hP _ q), fun q => hy.1 (hP _ q), fileG_in (by simp), fileG_in (by simp)⟩, [], by simp⟩
    · rcases hj with q | ⟨a, b, h1, h2, h3, h4, h5, h6, h7⟩
      · exact .inl q
      · exact .inr ⟨a, b, h1, h2, h3, h4, h5, fileG_mem h6, fileG_mem h7⟩
    · rcases hx.2 with h | h
      · cases h
      · exact h
    · rcases hy.2 with h | h
      · cases h
      · exact h
theorem visit_no {cs : List (List Int)} {s s' : PS} {i : Nat} (h : visitR cs s i = (s', false)) : s' = s ∧ ∀ x ∈ cs.getD i [], -x ∈ s.known := by
  unfold visitR at h
  split at h
  · simp at h
  · next hr =>
    simp at h
    subst h
    obtain ⟨_, _, _, _, a5⟩ := lookG_false hr (by simp) (by simp)
    refine ⟨rfl, fun x hx => ?_⟩
    rcases a5 x hx with q | q | q
    · exact q
    · cases q
    · simp at q
  · simp at h
  · simp at h

/-- A row is taken out. -/
def clr (f : Int → List Int) (j : Int) : Int → List Int := fun k => if k = j then [] else f k
theorem pop_wat {cs : List (List Int)} {s : PS} {P : List Int} {j : Nat} (lit : Int) (hd : Nat) (h : Wat cs P s j) : (j : Int) ∈ s.f lit ∨ Wat cs (P ++ [lit]) { s with f := clr s.f lit, head := hd } j := by
  by_cases hm : (j : Int) ∈ s.f lit
  · exact .inl hm
  · refine .inr ?_
    rcases h with q | ⟨a, b, h1, h2, h3, h4, h5, h6, h7⟩
    · exact .inl q
    · have ha : -a ≠ lit := fun e => hm (e ▸ h6)
      have hb : -b ≠ lit := fun e => hm (e ▸ h7)
      exact .inr ⟨a, b, h1, h2, h3, by simp [h4, ha], by simp [h5, hb], by show (j : Int) ∈ clr s.f lit (-a); unfold clr; rw [if_neg ha]; exact h6, by show (j : Int) ∈ clr s.f lit (-b); unfold clr; rw [if_neg hb]; exact h7⟩
theorem pop_base {N : Int} {cs : List (List Int)} {ts : List TStep} {s : PS} (lit : Int) (hd : Nat) (h : Base N cs ts s) : Base N cs ts { s with f := clr s.f lit, head := hd } :=
  ⟨h.known, h.trail, h.ext, fun k i hi => by
    have : i ∈ clr s.f lit k := hi
    unfold clr at this
    split at this
    · cases this
    · exact h.range k i this⟩

/-- Under these literals a clause has nothing to say: it holds, or two of its literals are open. -/
def Calm (known l : List Int) : Prop := (∃ x ∈ l, x ∈ known) ∨ ∃ x y, x ∈ l ∧ y ∈ l ∧ x ≠ y ∧ -x ∉ known ∧ -y ∉ known
/-- What Prop promises. -/
structure PropOut (N : Int) (cs : List (List Int)) (ts x : List TStep) (conflict : Int) : Prop where
  ext : ∃ e : List TStep, x = ts ++ e ∧ ∀ p ∈ e, 0 ≤ p.2
  trail : trailG N cs [] x = true
  ans : (conflict = -1 ∧ ∀ i, i < cs.length → Calm (lits x) (cs.getD i [])) ∨ ∃ i : Nat, conflict = i ∧ i < cs.length ∧ ∀ y ∈ cs.getD i [], -y ∈ lits x
theorem out_no {N : Int} {cs : List (List Int)} {ts : List TStep} {s s' : PS} {i : Nat} (hB : Base N cs ts s) (hi : i < cs.length) (h : visitR cs s i = (s', false)) : PropOut N cs ts s.out i :=
  ⟨hB.ext, hB.trail, .inr ⟨i, rfl, hi, fun y hy => by
    have := (visit_no h).2 y hy
    rw [hB.known] at this
    simpa using this⟩⟩
theorem out_yes {N : Int} {cs : List (List Int)} {ts : List TStep} {s : PS} (hB : Base N cs ts s) (h : ∀ j, j < cs.length → Wat cs (lits s.out) s j) : PropOut N cs ts s.out (-1) :=
  ⟨hB.ext, hB.trail, .inl ⟨rfl, fun i hi => by
    rcases h i hi with ⟨x, hx, hk⟩ | ⟨a, b, h1, h2, h3, h4, h5, _⟩
    · exact .inl ⟨x, hx, by rw [hB.known] at hk; simpa using hk⟩
    · exact .inr ⟨a, b, h1, h2, h3, h4, h5⟩⟩⟩
theorem base_len {N : Int} {cs : List (List Int)} {ts : List TStep} {s : PS} (hB : Base N cs ts s) : s.out.length ≤ N.toNat ∧ s.known.length = s.out.length :=
  ⟨trail_len hB.trail, by rw [hB.known]; simp⟩
end Go.Proofs.Ytelgabamdhaplaa
