/-
  THE STATE OF THE TOTALIZER's CLOSURES: the captured variables' blocks; what is kept from step to step.
-/
import Derived.Test.YtanbkdfffojpnaaAt
import Derived.Test.YtanbkdfffojpnaaClause
namespace Go.Proofs.Ytanbkdfffojpnaa
open Go.RowKit

/-- The blocks of the captured variables: most, next, c, clause, not, full, count; all lie from B0 on and below B1. -/
structure Places where
  B0 : Nat
  B1 : Nat
  bm : Nat
  bn : Nat
  bc : Nat
  bk : Nat
  bt : Nat
  bf : Nat
  bq : Nat
structure Places.Ok (p : Places) : Prop where
  m : p.B0 ≤ p.bm
  n : p.bm < p.bn
  c : p.bn < p.bc
  k : p.bc < p.bk
  t : p.bk < p.bt
  f : p.bt < p.bf
  q : p.bf < p.bq
  e : p.bq < p.B1

/-- A block that no step turns: below B0, or a row of ints of the call's own. -/
def Safe (p : Places) (w : World) (k : Nat) : Prop := (k < p.B0 ∧ k < w.heap.size) ∨ (p.B1 ≤ k ∧ ∃ cs, w.heap[k]? = some (.cells cs 3 (0, 0)))
theorem Safe.lt {p : Places} {w : World} {k : Nat} (h : Safe p w k) : k < w.heap.size := by
  rcases h with h | ⟨_, cs, h⟩
  · exact h.2
  · exact lt_of_block h

structure Step (p : Places) (w w' : World) : Prop where
  os : w'.os = w.os
  tape : w'.tape = w.tape
  output : w'.output = w.output
  size : w.heap.size ≤ w'.heap.size
  block : ∀ k, Safe p w k → w'.heap[k]? = w.heap[k]?
theorem Step.safe {p : Places} {w w' : World} (h : Step p w w') {k : Nat} (hk : Safe p w k) : Safe p w' k := by
  have hb := h.block k hk
  rcases hk with h' | ⟨h1, cs, h2⟩
  · exact .inl ⟨h'.1, Nat.lt_of_lt_of_le h'.2 h.size⟩
  · exact .inr ⟨h1, cs, hb.trans h2⟩
theorem Step.refl (p : Places) (w : World) : Step p w w := ⟨rfl, rfl, rfl, Nat.le_refl _, fun _ _ => rfl⟩
theorem Step.trans {p : Places} {a b c : World} (h : Step p a b) (k : Step p b c) : Step p a c :=
  ⟨k.os.trans h.os, k.tape.trans h.tape, k.output.trans h.output, Nat.le_trans h.size k.size, fun i hi => (k.block i (h.safe hi)).trans (h.block i hi)⟩
theorem Step.drew {p : Places} {a b : World} (h : Step p a b) : Step p a b.drew := ⟨h.os, h.tape, h.output, h.size, h.block⟩
theorem Step.of_below {p : Places} {w w' : World} (h : Below w.heap.size w w') : Step p w w' := ⟨h.os, h.tape, h.output, h.size, fun k hk => h.block k hk.lt⟩
theorem Step.below {p : Places} {w w' : World} (h : Step p w w') (hB : p.B0 ≤ w.heap.size) : Below p.B0 w w' := ⟨h.os, h.tape, h.output, h.size, fun k hk => h.block k (.inl ⟨hk, by omega⟩)⟩
theorem Step.alloc {p : Places} {a w : World} (h : Step p a w) (o : Obj) : Step p a (w.alloc o) := h.trans (Step.of_below ((Below.refl _ _).alloc (Nat.le_refl _) _))
/-- A store into a captured variable, or into a block that is newer than 'a'. -/
theorem Step.setCell {p : Places} {a w : World} (h : Step p a w) {q : Addr} (hq : (p.B0 ≤ q.block ∧ q.block < p.B1) ∨ a.heap.size ≤ q.block) (u : Value) : Step p a (w.setCell q u) :=
  ⟨h.os, h.tape, h.output, by simpa [World.setCell] using h.size, fun k hk => by
    rw [Below.heap_setCell _ _ _ _ (by
      have := hk.lt
      rcases hk with hk | hk
      · omega
      · omega)]
    exact h.block k hk⟩
theorem Ints.step {p : Places} {w w' : World} {A : Option Addr} {n c : Nat} {xs : List Int} (h : Ints w (Safe p w) A n c xs) (hs : Step p w w') : Ints w' (Safe p w') A n c xs :=
  h.keep' (fun _ hq => World.cell?_of_block (hs.block _ hq)) (fun _ hk => hs.safe hk)
theorem Ints.of_own_safe {p : Places} {w : World} {base : Nat} {A : Option Addr} {n c : Nat} {xs : List Int} (h : w.ownsRow base 3 1 (.slice A n c) n (xs.map (Value.int .i64))) (hb : p.B1 ≤ base) :
    Ints w (Safe p w) A n c xs := by
  have hI := Ints.of_own h
  refine ⟨hI.len, hI.cap, hI.max, hI.reads.1, fun hn => ?_⟩
  obtain ⟨ad, e, ⟨h1, h2⟩, h3⟩ := hI.reads.2 hn
  refine ⟨ad, e, .inr ⟨by omega, ?_⟩, h3⟩
  subst e
  rcases h.2 with ⟨hv, _⟩ | ⟨g, cap, cur, hv, hg, hh, _⟩
  · cases hv
  · injection hv with hv; injection hv with hv; subst hv; exact ⟨cur, hh⟩

/-- The function values that the captured variables hold. -/
def clauseV (p : Places) : Value := .func (.func 43) #[] #[.pointer (some ⟨p.bc, 0, none⟩)]
def notV : Value := .func (.func 44) #[] #[]
def countV (p : Places) : Value := .func (.func 45) #[] #[.pointer (some ⟨p.bf, 0, none⟩), .pointer (some ⟨p.bq, 0, none⟩), .pointer (some ⟨p.bm, 0, none⟩), .pointer (some ⟨p.bn, 0, none⟩), .pointer (some ⟨p.bk, 0, none⟩), .pointer (some ⟨p.bt, 0, none⟩)]

structure St (p : Places) (w : World) (most next : Int) (full : Bool) (css : List (List Int)) : Prop where
  size : p.B1 ≤ w.heap.size
  m : w.heap[p.bm]? = some (.cells #[.int .i64 most] 3 (0, 0))
  n : w.heap[p.bn]? = some (.cells #[.int .i64 next] 3 (0, 0))
  c : ∃ vc, w.heap[p.bc]? = some (.cells #[vc] 24 (0, 0)) ∧ OwnRows w p.B1 vc css
  k : w.heap[p.bk]? = some (.cells #[clauseV p] 63 (0, 0))
  t : w.heap[p.bt]? = some (.cells #[notV] 53 (0, 0))
  f : w.heap[p.bf]? = some (.cells #[.bool full] 4 (0, 0))
  q : w.heap[p.bq]? = some (.cells #[countV p] 53 (0, 0))

theorem St.below {p : Places} {w w' : World} {most next : Int} {full : Bool} {css : List (List Int)} (h : St p w most next full css) (hb : Below w.heap.size w w') : St p w' most next full css := by
  have g : ∀ {k o}, w.heap[k]? = some o → w'.heap[k]? = some o := fun hk => (hb.block _ (lt_of_block hk)).trans hk
  obtain ⟨vc, h1, h2⟩ := h.c
  exact ⟨Nat.le_trans h.size hb.size, g h.m, g h.n, ⟨vc, g h1, h2.below hb (Nat.le_refl _)⟩, g h.k, g h.t, g h.f, g h.q⟩
theorem St.drew {p : Places} {w : World} {most next : Int} {full : Bool} {css : List (List Int)} (h : St p w most next full css) : St p w.drew most next full css := ⟨h.size, h.m, h.n, h.c, h.k, h.t, h.f, h.q⟩
theorem St.alloc {p : Places} {w : World} {most next : Int} {full : Bool} {css : List (List Int)} (h : St p w most next full css) (o : Obj) : St p (w.alloc o) most next full css :=
  h.below ((Below.refl _ _).alloc (Nat.le_refl _) _)
theorem St.setNext {p : Places} {w : World} {most next : Int} {full : Bool} {css : List (List Int)} (hp : p.Ok) (h : St p w most next full css) (n' : Int) : St p (w.setCell ⟨p.bn, 0, none⟩ (.int .i64 n')) most n' full css := by
  obtain ⟨a1, a2, a3, a4, a5, a6, a7, a8⟩ := hp
  have g : ∀ {k o}, k ≠ p.bn → w.heap[k]? = some o → (w.setCell ⟨p.bn, 0, none⟩ (.int .i64 n')).heap[k]? = some o := fun hne hk => (Below.heap_setCell _ _ _ _ hne).trans hk
  obtain ⟨vc, h1, h2⟩ := h.c
  exact ⟨by simpa [World.setCell] using h.size, g (by omega) h.m, one_setCell h.n, ⟨vc, g (by omega) h1, h2.keep fun k _ _ hk _ _ => Below.heap_setCell _ _ _ _ (by simp; omega)⟩, g (by omega) h.k, g (by omega) h.t, g (by omega) h.f, g (by omega) h.q⟩
theorem St.setFull {p : Places} {w : World} {most next : Int} {full : Bool} {css : List (List Int)} (hp : p.Ok) (h : St p w most next full css) (b : Bool) : St p (w.setCell ⟨p.bf, 0, none⟩ (.bool b)) most next b css := by
  obtain ⟨a1, a2, a3, a4, a5, a6, a7, a8⟩ := hp
  have g : ∀ {k o}, k ≠ p.bf → w.heap[k]? = some o → (w.setCell ⟨p.bf, 0, none⟩ (.bool b)).heap[k]? = some o := fun hne hk => (Below.heap_setCell _ _ _ _ hne).trans hk
  obtain ⟨vc, h1, h2⟩ := h.c
  exact ⟨by simpa [World.setCell] using h.size, g (by omega) h.m, g (by omega) h.n, ⟨vc, g (by omega) h1, h2.keep fun k _ _ hk _ _ => Below.heap_setCell _ _ _ _ (by simp; omega)⟩, g (by omega) h.k, g (by omega) h.t, one_setCell h.f, g (by omega) h.q⟩
/-- Only one old block turns: a store into it, or into a block that is newer. -/
theorem grown_setCell {a w : World} {g : Nat} (h : a.grownBy w (some g)) {q : Addr} (hq : q.block = g ∨ a.heap.size ≤ q.block) (u : Value) : a.grownBy (w.setCell q u) (some g) :=
  ⟨h.os, h.tape, h.output, by simpa [World.setCell] using h.size, fun i hi hne => (Below.heap_setCell w q u i (by
    rintro rfl
    rcases hq with hq | hq
    · exact hne (by rw [hq])
    · omega)).trans (h.block i hi hne)⟩
theorem St.grownNext {p : Places} {w w' : World} {most next next' : Int} {full : Bool} {css : List (List Int)} (hp : p.Ok) (h : St p w most next full css) (hg : w.grownBy w' (some p.bn))
    (hn : w'.heap[p.bn]? = some (.cells #[.int .i64 next'] 3 (0, 0))) : St p w' most next' full css := by
  obtain ⟨a1, a2, a3, a4, a5, a6, a7, a8⟩ := hp
  have g : ∀ {k o}, k ≠ p.bn → w.heap[k]? = some o → w'.heap[k]? = some o := fun hne hk => (hg.block _ (lt_of_block hk) (by simpa using hne)).trans hk
  obtain ⟨vc, h1, h2⟩ := h.c
  exact ⟨Nat.le_trans h.size hg.size, g (by omega) h.m, hn, ⟨vc, g (by omega) h1, h2.keep fun k _ _ hk hh _ => hg.block k (lt_of_block hh) (by simp; omega)⟩, g (by omega) h.k, g (by omega) h.t, g (by omega) h.f, g (by omega) h.q⟩
theorem Step.grownNext {p : Places} {w w' : World} (hp : p.Ok) (hg : w.grownBy w' (some p.bn)) : Step p w w' := by
  obtain ⟨a1, a2, a3, a4, a5, a6, a7, a8⟩ := hp
  exact ⟨hg.os, hg.tape, hg.output, hg.size, fun k hk => hg.block k hk.lt (by have := hk.lt; rcases hk with hk | hk <;> simp <;> omega)⟩

/-- A block that is known whole. -/
def Blk (w : World) (g : Nat) (t : TypeId) (cs : Array Value) : Prop := w.heap[g]? = some (.cells cs t (0, 0))
theorem Blk.cell {w : World} {g : Nat} {t : TypeId} {cs : Array Value} (h : Blk w g t cs) (i : Nat) : w.cell? ⟨g, i, none⟩ = cs[i]? := cell_of_row w g i cs t (0, 0) h
theorem Blk.frozen {w : World} {g : Nat} {t : TypeId} {cs : Array Value} (h : Blk w g t cs) (i : Nat) : w.frozen? ⟨g, i, none⟩ = false := by
  unfold Blk at h
  simp [World.frozen?, h]
theorem Blk.set_ {w : World} {g : Nat} {t : TypeId} {cs : Array Value} (h : Blk w g t cs) (i : Nat) (u : Value) : Blk (w.setCell ⟨g, i, none⟩ u) g t (cs.setIfInBounds i u) := by
  unfold Blk at h ⊢
  simp [World.setCell, Array.getElem?_modify, h]
theorem Blk.far {w : World} {g : Nat} {t : TypeId} {cs : Array Value} (h : Blk w g t cs) {q : Addr} (hq : g ≠ q.block) (u : Value) : Blk (w.setCell q u) g t cs := (Below.heap_setCell w q u g hq).trans h
theorem Blk.of_own {w : World} {base g n : Nat} {t : TypeId} {xs : List Value} (h : w.ownsRow base t 1 (.slice (some ⟨g, 0, none⟩) n n) n xs) : Blk w g t xs.toArray := by
  rcases h.2 with ⟨hv, _⟩ | ⟨g', cap, cur, hv, _, hh, _, _, hs, ht⟩
  · cases hv
  · injection hv with h1 h2 h3
    injection h1 with h1
    injection h1 with h1
    subst h1 h3
    unfold Blk
    rw [hh, ← ht, List.take_of_length_le (by rw [Array.length_toList]; omega)]
theorem Ints.of_blk {p : Places} {w : World} {g n : Nat} {xs : List Int} (h : Blk w g 3 (xs.map (Value.int .i64)).toArray) (hn : n = xs.length) (hm : n ≤ maxLen) (hg : p.B1 ≤ g) : Ints w (Safe p w) (some ⟨g, 0, none⟩) n n xs := by
  refine ⟨hn, Nat.le_refl _, hm, by simp [hn], fun _ => ⟨_, rfl, .inr ⟨hg, _, h⟩, fun j u hu => ?_⟩⟩
  have e : (⟨g, 0, none⟩ : Addr).add j = ⟨g, j, none⟩ := by unfold Addr.add; split <;> simp_all
  rw [e, h.cell j]
  simpa using hu
theorem fill_snoc (next : Int) (k many : Nat) (h : k < many) :
    (((fresh next k).map (Value.int .i64) ++ List.replicate (many - k) (Value.int .i64 0)).toArray).setIfInBounds k (.int .i64 (next + k)) = ((fresh next (k + 1)).map (Value.int .i64) ++ List.replicate (many - (k + 1)) (Value.int .i64 0)).toArray := by
  have hl : ((fresh next k).map (Value.int .i64)).length = k := by simp [fresh_len]
  apply Array.ext'
  simp only [List.setIfInBounds_toArray]
  rw [fresh_succ, List.map_append, List.append_assoc, List.set_append, if_neg (by rw [hl]; omega), hl, Nat.sub_self]
  obtain ⟨m, hm⟩ : ∃ m, many - k = m + 1 := ⟨many - k - 1, by omega⟩
  rw [hm, show many - (k + 1) = m by omega]
  simp [List.replicate_succ]

theorem St.cellK {p : Places} {w : World} {most next : Int} {full : Bool} {css : List (List Int)} (h : St p w most next full css) : w.cell? ⟨p.bk, 0, none⟩ = some (.func (.func 43) #[] #[.pointer (some ⟨p.bc, 0, none⟩)]) := cell_of_one h.k
theorem St.cellT {p : Places} {w : World} {most next : Int} {full : Bool} {css : List (List Int)} (h : St p w most next full css) : w.cell? ⟨p.bt, 0, none⟩ = some (.func (.func 44) #[] #[]) := cell_of_one h.t

/-! ### The two closures, at a state -/
def NotSt (p : Places) (w : World) (xs : List Int) (e : Ending) (w' : World) : Prop :=
  ∃ A n c, e = .returned (.slice A n c) ∧ Ints w' (Safe p w') A n c (notL xs) ∧ Below w.heap.size w w'
theorem not_st (p : Places) (w : World) (n c : Nat) (A : Option Addr) (xs : List Int) (h : Ints w (Safe p w) A n c xs) (hx : Small xs) (hB : p.B1 ≤ w.heap.size) :
    Calls Try.prog 44 #[.slice A n c] w (NotSt p w xs) :=
  (not_any w _ n c A xs h hx).mono fun _ _ ⟨A', n', c', he, ho, hb⟩ => ⟨A', n', c', he, Ints.of_own_safe ho hB, hb⟩

def ClauseSt (p : Places) (w : World) (most next : Int) (full : Bool) (css : List (List Int)) (e : Ending) (w' : World) : Prop :=
  e = .returned (.tuple #[]) ∧ St p w' most next full css ∧ Step p w w'
theorem clause_st (p : Places) (hp : p.Ok) (w : World) (most next : Int) (full : Bool) (css : List (List Int)) (n1 c1 n2 c2 n3 c3 : Nat) (A1 A2 A3 : Option Addr) (x y z : List Int)
    (h : St p w most next full css) (hl : css.length ≤ 16777216) (h1 : Ints w (Safe p w) A1 n1 c1 x) (h2 : Ints w (Safe p w) A2 n2 c2 y) (h3 : Ints w (Safe p w) A3 n3 c3 z)
    (l1 : x.length ≤ 1) (l2 : y.length ≤ 1) (l3 : z.length ≤ 1) :
    Calls Try.prog 43 #[.slice (some ⟨w.heap.size, 0, none⟩) 3 3, .pointer (some ⟨p.bc, 0, none⟩)] (w.alloc (.cells #[.slice A1 n1 c1, .slice A2 n2 c2, .slice A3 n3 c3] 22))
      (ClauseSt p w most next full (css ++ [x ++ y ++ z])) := by
  obtain ⟨a1, a2, a3, a4, a5, a6, a7, a8⟩ := hp
  have hw : Below w.heap.size w (w.alloc (.cells #[.slice A1 n1 c1, .slice A2 n2 c2, .slice A3 n3 c3] 22)) := (Below.refl _ _).alloc (Nat.le_refl _) _
  have hS := Step.of_below (p := p) hw
  have hst := h.below hw
  obtain ⟨vc, hc, ho⟩ := hst.c
  have hsz := h.size
  have hR : Reads (w.alloc (.cells #[.slice A1 n1 c1, .slice A2 n2 c2, .slice A3 n3 c3] 22)) (fun k => k < (w.alloc (.cells #[.slice A1 n1 c1, .slice A2 n2 c2, .slice A3 n3 c3] 22)).heap.size) 1
      (some ⟨w.heap.size, 0, none⟩) 3 [.slice A1 n1 c1, .slice A2 n2 c2, .slice A3 n3 c3] := by
    refine ⟨by simp, fun _ => ⟨_, rfl, by simp, fun j u hu => ?_⟩⟩
    match j, hu with
    | 0, hu => simp at hu; subst hu; simp [Addr.add]
    | 1, hu => simp at hu; subst hu; simp [Addr.add]
    | 2, hu => simp at hu; subst hu; simp [Addr.add]
  have hP : Parts (w.alloc (.cells #[.slice A1 n1 c1, .slice A2 n2 c2, .slice A3 n3 c3] 22)) (Safe p (w.alloc (.cells #[.slice A1 n1 c1, .slice A2 n2 c2, .slice A3 n3 c3] 22))) [.slice A1 n1 c1, .slice A2 n2 c2, .slice A3 n3 c3] [x, y, z] := by
    refine ⟨rfl, fun j u hu => ?_⟩
    match j, hu with
    | 0, hu => simp at hu; subst hu; exact ⟨_, _, _, x, rfl, rfl, h1.step hS⟩
    | 1, hu => simp at hu; subst hu; exact ⟨_, _, _, y, rfl, rfl, h2.step hS⟩
    | 2, hu => simp at hu; subst hu; exact ⟨_, _, _, z, rfl, rfl, h3.step hS⟩
  refine (clause_any _ _ p.B1 p.bc 3 3 _ _ _ vc css (fun k hk => hk.lt) hR (by omega) hP (by simp [l1, l2, l3]) hc ho hl (by simp; omega) (by omega)).mono ?_
  rintro e w' ⟨he, ⟨vc', hc', ho'⟩, hos, htp, hot, hsize, hbl⟩
  have hvc : ∀ g, vc.ownBlock = some g → p.B1 ≤ g := by
    obtain ⟨rows, hr, _⟩ := ho
    exact fun g hg => (hr.lt g hg).1
  have hk : ∀ {k o}, k ≠ p.bc → k < p.B1 → w.heap[k]? = some o → w'.heap[k]? = some o := fun hne hlt hk => by
    rw [hbl _ (by simp; have := lt_of_block hk; omega) hne (fun e => by have := hvc _ e.symm; omega)]
    exact (Below.heap_alloc _ _ _ (lt_of_block hk)).trans hk
  refine ⟨he, ⟨by simp at hsize; omega, hk (by omega) (by omega) h.m, hk (by omega) (by omega) h.n, ⟨vc', hc', by simpa using ho'⟩, hk (by omega) (by omega) h.k, hk (by omega) (by omega) h.t, hk (by omega) (by omega) h.f, hk (by omega) (by omega) h.q⟩,
    hos, htp, hot, by simp at hsize; omega, fun k hsafe => ?_⟩
  have hlt := hsafe.lt
  rw [hbl k (by simp; omega) (by rcases hsafe with hs | hs <;> omega) (fun e => ?_)]
  · exact Below.heap_alloc _ _ _ hlt
  · rcases hsafe with hs | ⟨hs, cs, hcs⟩
    · have := hvc _ e.symm; omega
    · obtain ⟨rows, hr, _⟩ := ho
      rcases hr.2 with ⟨rfl, _⟩ | ⟨g, cap, cur, rfl, _, hh, _⟩
      · simp [Value.ownBlock] at e
      · have eg : k = g := by simpa [Value.ownBlock] using e
        subst eg
        rw [Below.heap_alloc _ _ _ hlt, hcs] at hh
        injection hh with hh
        injection hh with _ ht
        exact absurd ht (by decide)
end Go.Proofs.Ytanbkdfffojpnaa
