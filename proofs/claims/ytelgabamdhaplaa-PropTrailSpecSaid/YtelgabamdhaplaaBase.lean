/-
  WORDS FOR MEMORY, MORE: slices of slices, literals, what a call leaves.
-/
import Derived.Test.YtelgabamdhaplaaAppend
import Derived.OneCell
namespace Go.Proofs.Ytelgabamdhaplaa
open Go.RowKit

def RetBoolBelow (w : World) (b : Bool) (e : Ending) (w' : World) : Prop := e = .returned (.bool b) ∧ Below w.heap.size w w'
/-- Every number fits an int64. -/
def Fits (xs : List Int) : Prop := ∀ x ∈ xs, (Lit.int .i64 x).wf = true

theorem ints_info : (Try.prog.info? 29).map (fun i => (i.zero, i.size, i.bytes)) = some (some (.slice none 0 0), 1, 24) := by kernel_rfl

/-- A slice of slices of ints, all of the call's own (blocks from base on), reads as css. -/
def OwnRows (w : World) (base : Nat) (v : Value) (css : List (List Int)) : Prop :=
  ∃ rows : List Value, w.ownsRow base 29 1 v css.length rows ∧
    ∀ (i : Nat) (r : Value), rows[i]? = some r → ∃ cs, css[i]? = some cs ∧ w.ownsRow base 3 1 r cs.length (cs.map (Value.int .i64))

theorem OwnRows.nil_ (w : World) (base : Nat) : OwnRows w base (.slice none 0 0) [] := ⟨[], World.ownsRow_nil _ _ _ _, fun i r h => by simp at h⟩

/-- Kept where nothing but new blocks, and blocks of other element types than the two, turn. -/
theorem OwnRows.keep {w w' : World} {base : Nat} {v : Value} {css : List (List Int)} (h : OwnRows w base v css)
    (hk : ∀ k cs t, base ≤ k → w.heap[k]? = some (.cells cs t (0, 0)) → (t = 3 ∨ t = 29) → w'.heap[k]? = w.heap[k]?) : OwnRows w' base v css := by
  have own : ∀ {t n v xs}, (t = 3 ∨ t = 29) → w.ownsRow base t 1 v n xs → w'.ownsRow base t 1 v n xs := by
    intro t n v xs ht h
    refine ⟨h.1, ?_⟩
    rcases h.2 with hn | ⟨g, cap, cur, hv, hg, hh, r⟩
    · exact .inl hn
    · exact .inr ⟨g, cap, cur, hv, hg, (hk g cur t hg hh ht).trans hh, r⟩
  obtain ⟨rows, h1, h2⟩ := h
  exact ⟨rows, own (.inr rfl) h1, fun i r hr => by
    obtain ⟨cs, hcs, ho⟩ := h2 i r hr
    exact ⟨cs, hcs, own (.inl rfl) ho⟩⟩
theorem OwnRows.below {w w' : World} {B base : Nat} {v : Value} {css : List (List Int)} (h : OwnRows w base v css) (hb : Below B w w') (hB : w.heap.size ≤ B) : OwnRows w' base v css :=
  h.keep fun k cs t _ hh _ => hb.block k (by have := (Array.getElem?_eq_some_iff.1 hh).1; omega)

/-- What one more clause does. -/
theorem OwnRows.snoc {w w' : World} {base n : Nat} {v v' r : Value} {css : List (List Int)} {cs : List Int} {rows : List Value}
    (h1 : w.ownsRow base 29 1 v css.length rows)
    (h2 : ∀ (i : Nat) (r : Value), rows[i]? = some r → ∃ cs, css[i]? = some cs ∧ w.ownsRow base 3 1 r cs.length (cs.map (Value.int .i64)))
    (hr : w.ownsRow base 3 1 r cs.length (cs.map (Value.int .i64)))
    (hown : w'.ownsRow base 29 1 v' n (rows ++ [r])) (hn : n = css.length + 1) (hg : w.grownBy w' v.ownBlock) : OwnRows w' base v' (css ++ [cs]) := by
  have hl : rows.length = css.length := by have := h1.1; omega
  refine ⟨rows ++ [r], by rw [List.length_append]; simpa [hn] using hown, fun i r' hr' => ?_⟩
  by_cases hi : i < rows.length
  · rw [List.getElem?_append_left hi] at hr'
    obtain ⟨cs', e, ho⟩ := h2 i r' hr'
    refine ⟨cs', by rw [List.getElem?_append_left (by omega)]; exact e, ho.kept hg (own_ne ho h1 (by decide))⟩
  · rw [List.getElem?_append_right (by omega)] at hr'
    have : i - rows.length = 0 := by
      rcases Nat.eq_zero_or_pos (i - rows.length) with h | h
      · exact h
      · rw [List.getElem?_eq_none (by simp; omega)] at hr'; cases hr'
    rw [this] at hr'
    simp at hr'
    subst hr'
    exact ⟨cs, by rw [List.getElem?_append_right (by omega), show i - css.length = 0 by omega]; rfl, hr.kept hg (own_ne hr h1 (by decide))⟩

theorem OwnRows.base {w : World} {base base' : Nat} {v : Value} {css : List (List Int)} (h : OwnRows w base v css) (hb : base' ≤ base) : OwnRows w base' v css := by
  obtain ⟨rows, h1, h2⟩ := h
  exact ⟨rows, own_base h1 hb, fun i r hr => by
    obtain ⟨cs, e, ho⟩ := h2 i r hr
    exact ⟨cs, e, own_base ho hb⟩⟩

/-- The blocks that are there. -/
abbrev Lt (w : World) : Nat → Prop := fun k => k < w.heap.size
theorem Ints.lt {w : World} {S : Nat → Prop} {A : Option Addr} {n c : Nat} {xs : List Int} (h : Ints w S A n c xs) (hS : ∀ k, S k → k < w.heap.size) : Ints w (Lt w) A n c xs := h.more hS
theorem Ints.belowLt {w w' : World} {A : Option Addr} {n c : Nat} {xs : List Int} (h : Ints w (Lt w) A n c xs) (hb : Below w.heap.size w w') : Ints w' (Lt w') A n c xs :=
  (h.below hb (fun _ h => h)).more fun _ hk => Nat.lt_of_lt_of_le hk hb.size
theorem Ints.of_ownLt {w : World} {base : Nat} {e : TypeId} {A : Option Addr} {n c : Nat} {xs : List Int} (h : w.ownsRow base e 1 (.slice A n c) n (xs.map (Value.int .i64))) : Ints w (Lt w) A n c xs := (Ints.of_own h).more fun _ h => h.2
/-- A slice of slices of ints. -/
structure Rows2 (w : World) (A : Option Addr) (n c : Nat) (css : List (List Int)) : Prop where
  len : n = css.length
  cap : n ≤ c
  max : c ≤ maxLen
  rows : ∃ rows : List Value, Reads w (Lt w) 1 A n rows ∧ ∀ (i : Nat) (r : Value), rows[i]? = some r → ∃ A' n' c' cs, r = .slice A' n' c' ∧ css[i]? = some cs ∧ Ints w (Lt w) A' n' c' cs
theorem Rows2.belowLt {w w' : World} {A : Option Addr} {n c : Nat} {css : List (List Int)} (h : Rows2 w A n c css) (hb : Below w.heap.size w w') : Rows2 w' A n c css := by
  obtain ⟨h1, h2, h3, rows, hr, hrr⟩ := h
  refine ⟨h1, h2, h3, rows, hr.keep' (fun p hp => hb.cell hp) (fun _ hk => Nat.lt_of_lt_of_le hk hb.size), fun i r hi => ?_⟩
  obtain ⟨A', n', c', cs, e, hcs, hI⟩ := hrr i r hi
  exact ⟨A', n', c', cs, e, hcs, hI.belowLt hb⟩
theorem Rows2.of_own {w : World} {base : Nat} {A : Option Addr} {n c : Nat} {css : List (List Int)} (h : OwnRows w base (.slice A n c) css) : Rows2 w A n c css := by
  obtain ⟨rows, h1, h2⟩ := h
  obtain ⟨A0, c0, e0⟩ := own_form h1
  injection e0 with e1 e2 e3
  subst e1 e2 e3
  have hx : css.length ≤ c ∧ c ≤ maxLen := by
    rcases h1.2 with ⟨hv, hn⟩ | ⟨g, cap, cur, hv, _, _, hc, hm, _⟩
    · injection hv with _ _ hcap; subst hcap; rw [hn]; simp [maxLen]
    · injection hv with _ _ hcap; subst hcap; exact ⟨hc, hm⟩
  refine ⟨rfl, hx.1, hx.2, rows, (Reads.of_own h1).more fun _ h => h.2, fun i r hi => ?_⟩
  obtain ⟨cs, hcs, ho⟩ := h2 i r hi
  obtain ⟨A', c', rfl⟩ := own_form ho
  exact ⟨A', _, c', cs, rfl, hcs, Ints.of_ownLt ho⟩
theorem Rows2.at_ {w : World} {A : Option Addr} {n c : Nat} {css : List (List Int)} {k : Nat} (h : Rows2 w A n c css) (hk : k < n) :
    ∃ ad A' n' c', A = some ad ∧ ad.block < w.heap.size ∧ w.cell? (ad.add k) = some (.slice A' n' c') ∧ Ints w (Lt w) A' n' c' (css.getD k []) := by
  obtain ⟨h1, h2, h3, rows, hr, hrr⟩ := h
  obtain ⟨ad, u, e, hb, hu, hc⟩ := hr.at_ hk
  obtain ⟨A', n', c', cs, rfl, hcs, hI⟩ := hrr k u hu
  refine ⟨ad, A', n', c', e, hb, hc, ?_⟩
  rw [List.getD_eq_getElem?_getD, hcs]
  exact hI

theorem take_snoc_eq {α : Type} {xs ys : List α} {k : Nat} {d : α} (hx : k < xs.length) (hy : k < ys.length) (h : xs.take k = ys.take k) (he : xs.getD k d = ys.getD k d) : xs.take (k + 1) = ys.take (k + 1) := by
  rw [List.getD_eq_getElem?_getD, List.getElem?_eq_getElem hx, List.getD_eq_getElem?_getD, List.getElem?_eq_getElem hy] at he
  simp at he
  rw [List.take_succ_eq_append_getElem hx, List.take_succ_eq_append_getElem hy, h, he]

theorem lit_ints (w : World) (xs : List Int) (hx : xs.length ≤ maxLen) : Ints (w.alloc (.cells (xs.map (Value.int .i64)).toArray 3)) (Lt (w.alloc (.cells (xs.map (Value.int .i64)).toArray 3))) (some ⟨w.heap.size, 0, none⟩) xs.length xs.length xs := by
  refine ⟨rfl, Nat.le_refl _, hx, by simp, fun _ => ⟨_, rfl, by simp [Lt], fun j u hu => ?_⟩⟩
  have e : (⟨w.heap.size, 0, none⟩ : Addr).add j = ⟨w.heap.size, j, none⟩ := by unfold Addr.add; split <;> simp_all
  rw [e]
  have hb : (w.alloc (.cells (xs.map (Value.int .i64)).toArray 3)).heap[w.heap.size]? = some (.cells (xs.map (Value.int .i64)).toArray 3 (0, 0)) := heap_alloc_new w _
  rw [cell_of_row _ _ _ _ _ _ hb]
  simpa using hu
theorem alloc_lt {w : World} (o : Obj) : Below w.heap.size w (w.alloc o) := (Below.refl _ _).alloc (Nat.le_refl _) _
/-- Below, one step after the other. -/
theorem below_then {w a b : World} (h : Below w.heap.size w a) (k : Below a.heap.size a b) : Below w.heap.size w b := h.trans (k.mono h.size)

/-- A literal of rows: each row in a block of its own. -/
def allocAll (w : World) : List (List Int) → World
  | [] => w
  | x :: r => allocAll (w.alloc (.cells (x.map (Value.int .i64)).toArray 3)) r
def litRows (b : Nat) : List (List Int) → List Value
  | [] => []
  | x :: r => .slice (some ⟨b, 0, none⟩) x.length x.length :: litRows (b + 1) r
theorem litRows_len : ∀ (css : List (List Int)) (b : Nat), (litRows b css).length = css.length
  | [], _ => rfl
  | x :: r, b => by simp [litRows, litRows_len r]
theorem allocAll_below : ∀ (css : List (List Int)) (w : World), Below w.heap.size w (allocAll w css)
  | [], _ => Below.refl _ _
  | _ :: r, _ => below_then (alloc_lt _) (allocAll_below r _)
theorem allocAll_rows : ∀ (css : List (List Int)) (w : World), (∀ cs ∈ css, cs.length ≤ maxLen) → ∀ (i : Nat) (v : Value), (litRows w.heap.size css)[i]? = some v →
    ∃ A' n' c' cs, v = .slice A' n' c' ∧ css[i]? = some cs ∧ Ints (allocAll w css) (Lt (allocAll w css)) A' n' c' cs
  | [], w, _, i, v, h => by simp [litRows] at h
  | x :: r, w, hm, 0, v, h => by
    simp [litRows] at h
    subst h
    exact ⟨_, _, _, x, rfl, rfl, (lit_ints w x (hm x (by simp))).belowLt (allocAll_below r _)⟩
  | x :: r, w, hm, i + 1, v, h => by
    have e : w.heap.size + 1 = (w.alloc (.cells (x.map (Value.int .i64)).toArray 3)).heap.size := by simp
    simp only [litRows, List.getElem?_cons_succ, e] at h
    exact allocAll_rows r _ (fun cs hc => hm cs (by simp [hc])) i v h
theorem lit_rows (w : World) (css : List (List Int)) (hm : ∀ cs ∈ css, cs.length ≤ maxLen) (hl : css.length ≤ maxLen) (b : Nat) (hb : b = (allocAll w css).heap.size) :
    Rows2 ((allocAll w css).alloc (.cells (litRows w.heap.size css).toArray 29)) (some ⟨b, 0, none⟩) css.length css.length css := by
  subst hb
  have hbl := alloc_lt (w := allocAll w css) (.cells (litRows w.heap.size css).toArray 29)
  refine ⟨rfl, Nat.le_refl _, hl, litRows w.heap.size css, ⟨by simp [litRows_len], fun _ => ⟨_, rfl, by simp [Lt], fun j u hu => ?_⟩⟩, fun i r hi => ?_⟩
  · have e : (⟨(allocAll w css).heap.size, 0, none⟩ : Addr).add j = ⟨(allocAll w css).heap.size, j, none⟩ := by unfold Addr.add; split <;> simp_all
    rw [e]
    have hb : ((allocAll w css).alloc (.cells (litRows w.heap.size css).toArray 29)).heap[(allocAll w css).heap.size]? = some (.cells (litRows w.heap.size css).toArray 29 (0, 0)) := heap_alloc_new _ _
    rw [cell_of_row _ _ _ _ _ _ hb]
    simpa using hu
  · obtain ⟨A', n', c', cs, hv, hc, hI⟩ := allocAll_rows css w hm i r hi
    exact ⟨A', n', c', cs, hv, hc, hI.belowLt hbl⟩

theorem small_rows {css : List (List Int)} (h : css.all (fun cs => decide (cs.length ≤ 64)) = true) : ∀ cs ∈ css, cs.length ≤ maxLen := fun cs hc => by
  have := (List.all_eq_true.1 h) cs hc
  simp at this
  simp only [maxLen]; omega
theorem fits_lit {xs : List Int} (h : xs.all (fun x => decide ((Lit.int .i64 x).wf = true)) = true) : Fits xs := fun x hx => by simpa using (List.all_eq_true.1 h) x hx

end Go.Proofs.Ytelgabamdhaplaa
