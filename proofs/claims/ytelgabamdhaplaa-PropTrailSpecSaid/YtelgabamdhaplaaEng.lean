/-
  THE ENGINE IN MEMORY: its struct, the map of the true literals, the map of the watch rows (each key's row in a block of its own), the steps so far.
-/
import Derived.Test.YtelgabamdhaplaaLook
namespace Go.Proofs.Ytelgabamdhaplaa
open Go.RowKit

/-- The engine's plain state. -/
structure PS where
  known : List Int
  f : Int → List Int
  out : List TStep
  head : Nat

def rowV (V : Int → Option Value) (k : Int) : Value := (V k).getD (.slice none 0 0)
structure Eng (B g bm bw : Nat) (A : Option Addr) (n c : Nat) (H : List Nat) (T : Nat) (V : Int → Option Value) (nf : Nat) (Ao : Option Addr) (m co : Nat) (s : PS) (w : World) : Prop where
  blk : w.heap[g]? = some (.cells #[.map (some bm), .slice A n c, .map (some bw), .slice Ao m co, .int .i64 s.head] 63 (0, 0))
  lg : B ≤ g
  lm : B ≤ bm
  lw : B ≤ bw
  ne : bm ≠ bw
  tr : VMap w bm s.known.length (litF s.known)
  wm : VMap w bw nf V
  few : nf ≤ T
  short : ∀ k, (s.f k).length ≤ T
  rows : ∀ k, w.ownsRow B 3 1 (rowV V k) (s.f k).length ((s.f k).map (Value.int .i64))
  apart : ∀ j k b, j ≠ k → (rowV V j).ownBlock = some b → (rowV V k).ownBlock ≠ some b
  held : ∀ b ∈ H, (∃ cur, w.heap[b]? = some (.cells cur 3 (0, 0))) ∧ ∀ k, (rowV V k).ownBlock ≠ some b
  own : w.ownsRow B 39 2 (.slice Ao m co) m (flat s.out)

theorem own_keep {w w' : World} {base size n : Nat} {e : TypeId} {v : Value} {xs : List Value} (h : w.ownsRow base e size v n xs) (hk : ∀ b, v.ownBlock = some b → w'.heap[b]? = w.heap[b]?) : w'.ownsRow base e size v n xs := by
  refine ⟨h.1, ?_⟩
  rcases h.2 with hn | ⟨g, cap, cur, hv, hg, hh, r⟩
  · exact .inl hn
  · subst hv
    exact .inr ⟨g, cap, cur, rfl, hg, (hk g rfl).trans hh, r⟩
theorem own_lt {w : World} {base size n b : Nat} {e : TypeId} {v : Value} {xs : List Value} (h : w.ownsRow base e size v n xs) (hb : v.ownBlock = some b) : b < w.heap.size := (h.lt b hb).2
theorem own_cells {w : World} {base size n b : Nat} {e : TypeId} {v : Value} {xs : List Value} (h : w.ownsRow base e size v n xs) (hb : v.ownBlock = some b) : ∃ cur, w.heap[b]? = some (.cells cur e (0, 0)) := by
  rcases h.2 with ⟨rfl, _⟩ | ⟨g, cap, cur, rfl, _, hh, _⟩
  · simp [Value.ownBlock] at hb
  · simp [Value.ownBlock] at hb
    subst hb
    exact ⟨cur, hh⟩
theorem VMap.not_cells {w : World} {b n g : Nat} {f : Int → Option Value} {cs : Array Value} {t : TypeId} {fr : Nat × Nat} (h : VMap w b n f) (hg : w.heap[g]? = some (.cells cs t fr)) : g ≠ b := by
  obtain ⟨D, ⟨es, clock, hb, _⟩, _⟩ := h
  rintro rfl
  rw [hb] at hg
  injection hg with hg
  cases hg
theorem lt_block {w : World} {b : Nat} {o : Obj} (h : w.heap[b]? = some o) : b < w.heap.size := by
  obtain ⟨h, _⟩ := Array.getElem?_eq_some_iff.1 h
  exact h

section
variable {B g bm bw : Nat} {A : Option Addr} {n c : Nat} {H : List Nat} {T : Nat} {V : Int → Option Value} {nf : Nat} {Ao : Option Addr} {m co : Nat} {s : PS} {w : World}
theorem Eng.keep {w' : World} (h : Eng B g bm bw A n c H T V nf Ao m co s w) (hk : ∀ k, k < w.heap.size → w'.heap[k]? = w.heap[k]?) : Eng B g bm bw A n c H T V nf Ao m co s w' where
  blk := (hk _ (lt_block h.blk)).trans h.blk
  lg := h.lg
  lm := h.lm
  lw := h.lw
  ne := h.ne
  tr := h.tr.keep (hk _ h.tr.lt)
  wm := h.wm.keep (hk _ h.wm.lt)
  few := h.few
  short := h.short
  rows k := own_keep (h.rows k) fun b hb => hk _ (own_lt (h.rows k) hb)
  apart := h.apart
  held b hb := by
    obtain ⟨⟨cur, hc⟩, h2⟩ := h.held b hb
    exact ⟨⟨cur, (hk _ (lt_block hc)).trans hc⟩, h2⟩
  own := own_keep h.own fun b hb => hk _ (own_lt h.own hb)
theorem Eng.mono {T' : Nat} (h : Eng B g bm bw A n c H T V nf Ao m co s w) (hT : T ≤ T') : Eng B g bm bw A n c H T' V nf Ao m co s w :=
  { h with few := Nat.le_trans h.few hT, short := fun k => Nat.le_trans (h.short k) hT }
theorem Eng.hold {H' : List Nat} (h : Eng B g bm bw A n c H T V nf Ao m co s w) (hH : ∀ b ∈ H', (∃ cur, w.heap[b]? = some (.cells cur 3 (0, 0))) ∧ ∀ k, (rowV V k).ownBlock ≠ some b) : Eng B g bm bw A n c H' T V nf Ao m co s w :=
  { h with held := hH }
theorem Eng.outBound (h : Eng B g bm bw A n c H T V nf Ao m co s w) : m = s.out.length := by
  have := h.own.1
  rw [flat_len] at this
  omega
/-- A literal becomes true. -/
theorem Eng.step {w' : World} {x : Int} (h : Eng B g bm bw A n c H T V nf Ao m co s w) (hv : VMap w' bm (s.known.length + 1) (litF (x :: s.known))) (hg : w.grownBy w' (some bm)) :
    Eng B g bm bw A n c H T V nf Ao m co { s with known := x :: s.known } w' := by
  have hk : ∀ {b : Nat} {cs : Array Value} {t : TypeId} {fr : Nat × Nat}, w.heap[b]? = some (.cells cs t fr) → w'.heap[b]? = w.heap[b]? := fun hb => hg.block _ (lt_block hb) (fun e => h.tr.not_cells hb (by injection e))
  have ho : ∀ {base size n : Nat} {e : TypeId} {v : Value} {xs : List Value}, w.ownsRow base e size v n xs → w'.ownsRow base e size v n xs := fun ho => own_keep ho fun b hb => by
    obtain ⟨cur, hc⟩ := own_cells ho hb
    exact hk hc
  exact
  { blk := (hk h.blk).trans h.blk
    lg := h.lg
    lm := h.lm
    lw := h.lw
    ne := h.ne
    tr := by simpa using hv
    wm := h.wm.keep (hg.block _ h.wm.lt (fun e => h.ne (by injection e with e; exact e.symm)))
    few := h.few
    short := h.short
    rows := fun k => ho (h.rows k)
    apart := h.apart
    held := fun b hb => by
      obtain ⟨⟨cur, hc⟩, h2⟩ := h.held b hb
      exact ⟨⟨cur, (hk hc).trans hc⟩, h2⟩
    own := ho h.own }
/-- The head moves. -/
theorem Eng.setHead (h : Eng B g bm bw A n c H T V nf Ao m co s w) (hd : Nat) : Eng B g bm bw A n c H T V nf Ao m co { s with head := hd } (w.setCell ⟨g, 4, none⟩ (.int .i64 hd)) := by
  have hk : ∀ {b : Nat}, b ≠ g → (w.setCell ⟨g, 4, none⟩ (.int .i64 hd)).heap[b]? = w.heap[b]? := fun hb => Below.heap_setCell _ _ _ _ hb
  have ho : ∀ {base size n : Nat} {e : TypeId} {v : Value} {xs : List Value}, e ≠ 63 → w.ownsRow base e size v n xs → (w.setCell ⟨g, 4, none⟩ (.int .i64 hd)).ownsRow base e size v n xs := fun he ho => own_keep ho fun b hb => hk (by
    rintro rfl
    obtain ⟨cur, hc⟩ := own_cells ho hb
    rw [h.blk] at hc
    injection hc with hc
    injection hc with _ ht
    exact he ht.symm)
  exact
  { blk := by rw [heap_setCell_same _ _ _ _ _ _ h.blk]; rfl
    lg := h.lg
    lm := h.lm
    lw := h.lw
    ne := h.ne
    tr := h.tr.keep (hk (fun e => h.tr.not_cells h.blk e.symm))
    wm := h.wm.keep (hk (fun e => h.wm.not_cells h.blk e.symm))
    few := h.few
    short := h.short
    rows := fun k => ho (by decide) (h.rows k)
    apart := h.apart
    held := fun b hb => by
      obtain ⟨⟨cur, hc⟩, h2⟩ := h.held b hb
      refine ⟨⟨cur, (hk ?_).trans hc⟩, h2⟩
      rintro rfl
      rw [h.blk] at hc
      injection hc with hc
      injection hc with _ ht
      revert ht; decide
    own := ho (by decide) h.own }
/-- A step is appended, and the field set. -/
theorem Eng.push {w9 : World} {A9 : Option Addr} {c9 : Nat} {p : TStep} (h : Eng B g bm bw A n c H T V nf Ao m co s w) (ho9 : w9.ownsRow B 39 2 (.slice A9 (m + 1) c9) (m + 1) (flat (s.out ++ [p]))) (hg : w.grownBy w9 (Value.slice Ao m co).ownBlock)
    (hb : ∀ g, (Value.slice A9 (m + 1) c9).ownBlock = some g → (Value.slice Ao m co).ownBlock = some g ∨ w.heap.size ≤ g) :
    Eng B g bm bw A n c H T V nf A9 (m + 1) c9 { s with out := s.out ++ [p] } (w9.setCell ⟨g, 3, none⟩ (.slice A9 (m + 1) c9)) := by
  have hk0 : ∀ {b : Nat} {cs : Array Value} {t : TypeId} {fr : Nat × Nat}, w.heap[b]? = some (.cells cs t fr) → t ≠ 39 → w9.heap[b]? = w.heap[b]? := fun {b cs t fr} hc ht => hg.block _ (lt_block hc) (fun e => by
    obtain ⟨cur, hc'⟩ := own_cells h.own e.symm
    rw [hc] at hc'
    injection hc' with hc'
    injection hc' with _ ht'
    exact ht ht')
  have hblk : w9.heap[g]? = _ := (hk0 h.blk (by decide)).trans h.blk
  have hk1 : ∀ {b : Nat}, b ≠ g → (w9.setCell ⟨g, 3, none⟩ (.slice A9 (m + 1) c9)).heap[b]? = w9.heap[b]? := fun hb => Below.heap_setCell _ _ _ _ hb
  have hmap : ∀ {b k : Nat} {F : Int → Option Value}, VMap w b k F → VMap (w9.setCell ⟨g, 3, none⟩ (.slice A9 (m + 1) c9)) b k F := fun {b k F} hv => hv.keep ((hk1 (fun e => hv.not_cells h.blk e.symm)).trans (hg.block _ hv.lt (fun e => by
    obtain ⟨cur, hc'⟩ := own_cells h.own e.symm
    exact hv.not_cells hc' rfl)))
  have ng : ∀ {b : Nat} {cur : Array Value}, w.heap[b]? = some (.cells cur 3 (0, 0)) → b ≠ g := by
    rintro b cur hc rfl
    rw [h.blk] at hc
    injection hc with hc
    injection hc with _ ht
    revert ht; decide
  exact
  { blk := by rw [heap_setCell_same _ _ _ _ _ _ hblk]; rfl
    lg := h.lg
    lm := h.lm
    lw := h.lw
    ne := h.ne
    tr := hmap h.tr
    wm := hmap h.wm
    few := h.few
    short := h.short
    rows := fun k => own_keep (h.rows k) fun b hb => by
      obtain ⟨cur, hc⟩ := own_cells (h.rows k) hb
      exact (hk1 (ng hc)).trans (hk0 hc (by decide))
    apart := h.apart
    held := fun b hb => by
      obtain ⟨⟨cur, hc⟩, h2⟩ := h.held b hb
      exact ⟨⟨cur, ((hk1 (ng hc)).trans (hk0 hc (by decide))).trans hc⟩, h2⟩
    own := own_keep ho9 fun b hb' => hk1 (by
      rintro rfl
      obtain ⟨cur, hc⟩ := own_cells ho9 hb'
      rw [hblk] at hc
      injection hc with hc
      injection hc with _ ht
      revert ht; decide) }
def addTo (f : Int → List Int) (j : Int) (i : Int) : Int → List Int := fun k => if k = j then f k ++ [i] else f k
/-- A clause is filed under a literal. -/
theorem Eng.file {w9 w' : World} {A9 : Option Addr} {c9 q : Nat} {j i : Int} (h : Eng B g bm bw A n c H T V nf Ao m co s w) (hq : q = (s.f j).length) (ho9 : w9.ownsRow B 3 1 (.slice A9 (q + 1) c9) (q + 1) ((s.f j).map (Value.int .i64) ++ [.int .i64 i])) (hg : w.grownBy w9 (rowV V j).ownBlock)
    (hb : ∀ g, (Value.slice A9 (q + 1) c9).ownBlock = some g → (rowV V j).ownBlock = some g ∨ w.heap.size ≤ g)
    (hv : VMap w' bw (nf + 1) (upd V j (.slice A9 (q + 1) c9))) (hg' : w9.grownBy w' (some bw)) :
    Eng B g bm bw A n c H (T + 1) (upd V j (.slice A9 (q + 1) c9)) (nf + 1) Ao m co { s with f := addTo s.f j i } w' ∧ ∀ b ∈ H, w'.heap[b]? = w.heap[b]? := by
  have hne9 : ∀ {b : Nat}, b < w.heap.size → (rowV V j).ownBlock ≠ some b → w9.heap[b]? = w.heap[b]? := fun hl hb => hg.block _ hl (fun e => hb e.symm)
  have hrow : ∀ k, rowV (upd V j (.slice A9 (q + 1) c9)) k = if k = j then .slice A9 (q + 1) c9 else rowV V k := fun k => by
    unfold rowV upd
    split <;> rfl
  have hw9 : VMap w9 bw nf V := h.wm.keep (hne9 h.wm.lt (fun e => by
    obtain ⟨cur, hc⟩ := own_cells (h.rows j) e
    exact h.wm.not_cells hc rfl))
  have hk' : ∀ {b : Nat} {cs : Array Value} {t : TypeId} {fr : Nat × Nat}, w9.heap[b]? = some (.cells cs t fr) → w'.heap[b]? = w9.heap[b]? := fun hb => hg'.block _ (lt_block hb) (fun e => hw9.not_cells hb (by injection e))
  have hcells : ∀ {b : Nat} {cs : Array Value} {t : TypeId} {fr : Nat × Nat}, w.heap[b]? = some (.cells cs t fr) → (rowV V j).ownBlock ≠ some b → w'.heap[b]? = w.heap[b]? := fun hc hb => by
    have e := hne9 (lt_block hc) hb
    exact (hk' (e.trans hc)).trans e
  have nj : ∀ {b : Nat} {cs : Array Value} {t : TypeId}, w.heap[b]? = some (.cells cs t (0, 0)) → t ≠ 3 → (rowV V j).ownBlock ≠ some b := fun {b cs t} hc ht e => by
    obtain ⟨cur, hc'⟩ := own_cells (h.rows j) e
    rw [hc] at hc'
    injection hc' with hc'
    injection hc' with _ ht'
    exact ht ht'
  refine ⟨{ blk := (hcells h.blk (nj h.blk (by decide))).trans h.blk, lg := h.lg, lm := h.lm, lw := h.lw, ne := h.ne, tr := ?_, wm := hv, few := by have := h.few; omega, short := ?_, rows := ?_, apart := ?_, held := ?_, own := ?_ }, ?_⟩
  · refine (h.tr.keep (hne9 h.tr.lt (fun e => ?_))).keep (hg'.block _ ?_ (fun e => h.ne (by injection e)))
    · obtain ⟨cur, hc⟩ := own_cells (h.rows j) e
      exact h.tr.not_cells hc rfl
    · exact Nat.lt_of_lt_of_le h.tr.lt hg.size
  · intro k
    show (addTo s.f j i k).length ≤ _
    unfold addTo
    have := h.short k
    split <;> simp <;> omega
  · intro k
    rw [hrow]
    show w'.ownsRow B 3 1 _ (addTo s.f j i k).length ((addTo s.f j i k).map _)
    unfold addTo
    by_cases hkj : k = j
    · subst hkj
      rw [if_pos rfl, if_pos rfl, List.map_append, List.length_append, List.length_singleton, ← hq]
      refine own_keep ho9 fun b hb' => ?_
      obtain ⟨cur, hc⟩ := own_cells ho9 hb'
      exact hk' hc
    · rw [if_neg hkj, if_neg hkj]
      refine own_keep (h.rows k) fun b hb' => ?_
      obtain ⟨cur, hc⟩ := own_cells (h.rows k) hb'
      exact hcells hc (fun e => h.apart j k b (fun e => hkj e.symm) e hb')
  · intro a k b hak
    rw [hrow, hrow]
    by_cases h1 : a = j
    · by_cases h2 : k = j
      · exact absurd (h1.trans h2.symm) hak
      · rw [if_pos h1, if_neg h2]
        intro hb1 hb2
        rcases hb b hb1 with e | e
        · exact h.apart j k b (fun e => h2 e.symm) e hb2
        · have := own_lt (h.rows k) hb2; omega
    · by_cases h2 : k = j
      · rw [if_neg h1, if_pos h2]
        intro hb1 hb2
        rcases hb b hb2 with e | e
        · exact h.apart j a b (fun e => h1 e.symm) e hb1
        · have := own_lt (h.rows a) hb1; omega
      · rw [if_neg h1, if_neg h2]
        exact h.apart a k b hak
  · intro b hbH
    obtain ⟨⟨cur, hc⟩, h2⟩ := h.held b hbH
    refine ⟨⟨cur, (hcells hc (h2 j)).trans hc⟩, fun k => ?_⟩
    rw [hrow]
    by_cases h1 : k = j
    · rw [if_pos h1]
      intro hb1
      rcases hb b hb1 with e | e
      · exact h2 j e
      · have := lt_block hc; omega
    · rw [if_neg h1]; exact h2 k
  · refine own_keep h.own fun b hb' => ?_
    obtain ⟨cur, hc⟩ := own_cells h.own hb'
    exact hcells hc (nj hc (by decide))
  · intro b hbH
    obtain ⟨⟨cur, hc⟩, h2⟩ := h.held b hbH
    exact hcells hc (h2 j)
end
end Go.Proofs.Ytelgabamdhaplaa
