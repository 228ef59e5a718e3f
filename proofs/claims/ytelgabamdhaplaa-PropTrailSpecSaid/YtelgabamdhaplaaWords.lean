/-
  WORDS FOR MEMORY: a slice of ints that reads as a list; how it is kept. (After the guide's page of words, turned to this seat: the place of a slice is a predicate on blocks.)
-/
import Derived.Test.YtelgabamdhaplaaRows
import Derived.Test.YtelgabamdhaplaaTotSpec
import Derived.WalkKit
import Derived.ProofKit
import Derived.OpenShut
import Derived.Lib.Hide
import Derived.Below
import Derived.Laws.OwnMore
import Derived.Laws.Rows
import Derived.Deep.AppendLies
import Derived.Deep.Draws
import Derived.Maps.AppendAt
import Derived.RegionTactic
import Derived.OwnWalk
import Derived.Outline
namespace Go.Proofs.Ytelgabamdhaplaa
open Go.RowKit

theorem block_of_add (a : Addr) (n : Nat) : (a.add n).block = a.block := by unfold Addr.add; split <;> rfl
theorem add_of_add (a : Addr) (i j : Nat) : (a.add i).add j = a.add (i + j) := by
  unfold Addr.add
  by_cases hi : i = 0 <;> by_cases hj : j = 0 <;> simp [hi, hj, Nat.add_assoc]
theorem add_zero (a : Addr) : a.add 0 = a := by simp [Addr.add]
theorem ret_int {k : IntKind} {a b : Int} (h : a = b) : Ending.returned (.int k a) = .returned (.int k b) := by rw [h]
theorem ret_bool {a b : Bool} (h : a = b) : Ending.returned (.bool a) = .returned (.bool b) := by rw [h]
theorem int_info : (Try.prog.info? 3).map (fun i => (i.zero, i.size, i.bytes)) = some (some (.int .i64 0), 1, 8) := by kernel_rfl

/-- The slice '.slice A n c' holds the cells xs ('size' a element), in a block that S lets. -/
def Reads (w : World) (S : Nat → Prop) (size : Nat) (A : Option Addr) (n : Nat) (xs : List Value) : Prop :=
  xs.length = n * size ∧ (0 < n → ∃ ad, A = some ad ∧ S ad.block ∧ ∀ j u, xs[j]? = some u → w.cell? (ad.add j) = some u)

section
variable {w w' : World} {S S' : Nat → Prop} {size n : Nat} {A : Option Addr} {xs : List Value}
theorem Reads.none_ : Reads w S size A 0 [] := ⟨by simp, fun h => absurd h (by omega)⟩
theorem Reads.at_ {k : Nat} (h : Reads w S 1 A n xs) (hk : k < n) : ∃ ad u, A = some ad ∧ S ad.block ∧ xs[k]? = some u ∧ w.cell? (ad.add k) = some u := by
  obtain ⟨ad, e, hb, hc⟩ := h.2 (by omega)
  have hl : k < xs.length := by have := h.1; omega
  exact ⟨ad, xs[k], e, hb, List.getElem?_eq_getElem hl, hc k _ (List.getElem?_eq_getElem hl)⟩
theorem Reads.keep' (h : Reads w S size A n xs) (hk : ∀ p : Addr, S p.block → w'.cell? p = w.cell? p) (hS : ∀ k, S k → S' k) : Reads w' S' size A n xs :=
  ⟨h.1, fun hn => by
    obtain ⟨ad, e, hb, hc⟩ := h.2 hn
    exact ⟨ad, e, hS _ hb, fun j u hu => (hk _ (by rw [block_of_add]; exact hb)).trans (hc j u hu)⟩⟩
theorem Reads.keep (h : Reads w S size A n xs) (hk : ∀ p : Addr, S p.block → w'.cell? p = w.cell? p) : Reads w' S size A n xs := h.keep' hk fun _ h => h
theorem Reads.more (h : Reads w S size A n xs) (hS : ∀ k, S k → S' k) : Reads w S' size A n xs := h.keep' (fun _ _ => rfl) hS
theorem Reads.of_own {base : Nat} {e : TypeId} {c : Nat} (h : w.ownsRow base e size (.slice A n c) n xs) : Reads w (fun k => base ≤ k ∧ k < w.heap.size) size A n xs := by
  refine ⟨h.1, fun hn => ?_⟩
  obtain ⟨g, cap, hv, hb, hlt⟩ := h.form hn
  have hA : A = some ⟨g, 0, none⟩ := by injection hv
  subst hA
  exact ⟨_, rfl, ⟨hb, hlt⟩, h.cells (g := g) rfl⟩
end

/-- An int as a value. -/
abbrev I (n : Int) : Value := .int .i64 n

/-- A slice of ints: address, length, capacity, what it reads as; it lies in a block that S lets. -/
structure Ints (w : World) (S : Nat → Prop) (A : Option Addr) (n c : Nat) (xs : List Int) : Prop where
  len : n = xs.length
  cap : n ≤ c
  max : c ≤ maxLen
  reads : Reads w S 1 A n (xs.map (Value.int .i64))

section
variable {w w' : World} {S S' : Nat → Prop} {n c : Nat} {A : Option Addr} {xs : List Int}
theorem Ints.nil_ : Ints w S none 0 0 [] := ⟨rfl, by omega, by simp [maxLen], Reads.none_⟩
theorem Ints.keep' (h : Ints w S A n c xs) (hk : ∀ p : Addr, S p.block → w'.cell? p = w.cell? p) (hS : ∀ k, S k → S' k) : Ints w' S' A n c xs := ⟨h.len, h.cap, h.max, h.reads.keep' hk hS⟩
theorem Ints.keep (h : Ints w S A n c xs) (hk : ∀ p : Addr, S p.block → w'.cell? p = w.cell? p) : Ints w' S A n c xs := ⟨h.len, h.cap, h.max, h.reads.keep hk⟩
theorem Ints.more (h : Ints w S A n c xs) (hS : ∀ k, S k → S' k) : Ints w S' A n c xs := ⟨h.len, h.cap, h.max, h.reads.more hS⟩
theorem Ints.drew (h : Ints w S A n c xs) : Ints w.drew S A n c xs := h.keep fun _ _ => rfl
theorem Ints.below {B : Nat} (h : Ints w S A n c xs) (hb : Below B w w') (hS : ∀ k, S k → k < B) : Ints w' S A n c xs := h.keep fun _ hp => hb.cell (hS _ hp)
theorem Ints.alloc (h : Ints w S A n c xs) (hS : ∀ k, S k → k < w.heap.size) (o : Obj) : Ints (w.alloc o) S A n c xs := h.keep fun p hp => World.cell?_alloc_lt w o p (hS _ hp)
theorem Ints.at_ {k : Nat} (h : Ints w S A n c xs) (hk : k < n) : ∃ ad, A = some ad ∧ S ad.block ∧ w.cell? (ad.add k) = some (.int .i64 (xs.getD k 0)) := by
  obtain ⟨ad, u, e, hb, hx, hc⟩ := h.reads.at_ hk
  have hl := h.len
  refine ⟨ad, e, hb, ?_⟩
  rw [hc]
  simp only [List.getElem?_map] at hx
  have : xs[k]? = some (xs.getD k 0) := by
    rw [List.getD_eq_getElem?_getD, List.getElem?_eq_getElem (by omega)]; rfl
  rw [this] at hx
  simp at hx
  rw [← hx]; simp
/-- A piece of it. -/
theorem Ints.piece (h : Ints w S A n c xs) {ad : Addr} (hA : A = some ad) {i j c' : Nat} (hi : i ≤ j) (hj : j ≤ n) (hc : j - i ≤ c') (hm : c' ≤ maxLen) :
    Ints w S (some (ad.add i)) (j - i) c' ((xs.drop i).take (j - i)) := by
  have hl := h.len
  refine ⟨by simp; omega, hc, hm, by simp; omega, fun hn => ?_⟩
  obtain ⟨ad', e, hb, hcell⟩ := h.reads.2 (by omega)
  rw [hA] at e
  cases e
  refine ⟨_, rfl, by rw [block_of_add]; exact hb, fun q u hu => ?_⟩
  rw [add_of_add]
  refine hcell _ u ?_
  simp only [List.map_take, List.map_drop, List.getElem?_take, List.getElem?_drop] at hu
  split at hu
  · exact hu
  · cases hu
theorem Ints.of_own {base : Nat} {e : TypeId} (h : w.ownsRow base e 1 (.slice A n c) n (xs.map (Value.int .i64))) : Ints w (fun k => base ≤ k ∧ k < w.heap.size) A n c xs := by
  have hx : n ≤ c ∧ c ≤ maxLen := by
    rcases h.2 with ⟨hv, hn⟩ | ⟨g, cap, cur, hv, _, _, hc, hm, _⟩
    · injection hv with _ _ hcap; subst hn hcap; simp [maxLen]
    · injection hv with _ _ hcap; subst hcap; exact ⟨hc, hm⟩
  exact ⟨by have := h.1; simpa using this.symm, hx.1, hx.2, Reads.of_own h⟩
end

/-- The ending of a call that hands back a slice of ints and leaves the world alone. -/
def RetIntsSame (w : World) (S : Nat → Prop) (xs : List Int) (e : Ending) (w' : World) : Prop := ∃ A n c, e = .returned (.slice A n c) ∧ Ints w S A n c xs ∧ w = w'
/-- The ending of a call that hands back a slice of ints in new memory, and leaves all that was there. -/
def RetIntsNew (w : World) (xs : List Int) (e : Ending) (w' : World) : Prop := ∃ A n c, e = .returned (.slice A n c) ∧ w'.ownsRow w.heap.size 3 1 (.slice A n c) n (xs.map (Value.int .i64)) ∧ Below w.heap.size w w'
end Go.Proofs.Ytelgabamdhaplaa
