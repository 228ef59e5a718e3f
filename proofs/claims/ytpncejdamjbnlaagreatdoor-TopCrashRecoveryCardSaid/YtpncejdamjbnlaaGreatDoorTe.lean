/-
  A part of the proof of TopCrashRecovery: the run of awake: tables, contracts, joining.
-/
import Derived.Test.YtpncejdamjbnlaaGreatDoorProg
import Derived.WalkKit
import Derived.Lib.Hide
import Derived.Below
import Derived.LoopN
import Derived.Laws.IdiomRangeMap
import Derived.RecoverIn
import Derived.TacticsInMore
set_option linter.all false
section
namespace Go.Proofs
open Go.RowKit
def nOf (v : Value) : Int := match v with | .int _ n => n | _ => 0
def Drawn1 (w w1 : World) : Prop := w1.Alike w ∧ w1.tape = w.tape
theorem next_map_taped {P : Program} (w : World) (ty : TypeId) (bm since c0 : Nat) (seen : Array Nat) (es : Array MapEntry) (clock : Nat) (hb : w.heap[bm]? = some (.map es clock)) (hold : ∀ x ∈ es.toList, x.born < since) (hsc : since ≤ c0) :
    ((leftOf es seen).size = 0 ∧ (Instr.next (.pointer (some ⟨w.heap.size, 0, none⟩)) false ty).run P (w.alloc (.mapIter (some bm) since seen c0)) = .ok (.tuple #[.bool false]) (w.alloc (.mapIter (some bm) since seen c0))) ∨
    ∃ e ∈ (leftOf es seen).toList, ∃ w1 : World, Drawn1 w w1 ∧ (Instr.next (.pointer (some ⟨w.heap.size, 0, none⟩)) false ty).run P (w.alloc (.mapIter (some bm) since seen c0)) = .ok (.tuple #[.bool true, e.key, e.val]) (w1.alloc (.mapIter (some bm) since (seen.push e.born) clock)) := by
  have hlt : bm < w.heap.size := by
    rcases Nat.lt_or_ge bm w.heap.size with h | h
    · exact h
    · simp [Array.getElem?_eq_none h] at hb
  have hb' : (w.alloc (.mapIter (some bm) since seen c0)).heap[bm]? = some (.map es clock) := by rw [heap_alloc_old w _ hlt, hb]
  simp only [Instr.next, getObj, Sem.run_bind, Sem.run, heap_alloc_new, hb', Result.andThen, next_test_false seen es since c0 hold hsc, Bool.false_eq_true, if_false]
  unfold leftOf
  have hmem : ∀ x ∈ (Array.filter (fun e => !seen.contains e.born) es).toList, x.born < since := fun x hx => hold x (by simp at hx ⊢; exact hx.1)
  generalize Array.filter (fun e => !seen.contains e.born) es = L at hmem ⊢
  have e1 : L.filter (fun x => decide (x.born < since)) = L := Array.filter_eq_self.2 (fun x hx => by simpa using hmem x (by simpa using hx))
  have e2 : L.filter (fun x => decide (x.born ≥ since)) = #[] := by
    rw [Array.filter_eq_empty_iff]
    intro x hx
    have := hmem x (by simpa using hx)
    simp
    omega
  simp only [e1, e2, Array.append_empty]
  by_cases h0 : L.size = 0
  · left
    have : L = #[] := Array.eq_empty_of_size_eq_zero h0
    subst this
    refine ⟨rfl, ?_⟩
    simp [choose, Sem.run, Question.forced]
  · right
    have hne : L.isEmpty = false := by simp [Array.isEmpty, h0]
    simp only [hne, Bool.false_eq_true, if_false, Array.empty_append, Array.size_map]
    have hch : ∃ (j : Nat) (w1 : World), j < L.size ∧ Drawn1 w w1 ∧ (choose (Question.mapNext L.size)).run P (w.alloc (.mapIter (some bm) since seen c0)) = .ok j (w1.alloc (.mapIter (some bm) since seen c0)) := by
      by_cases hf : L.size ≤ 1
      · exact ⟨0, w, by omega, ⟨⟨rfl, rfl, rfl⟩, rfl⟩, by simp [choose, Sem.run, Question.forced, hf]⟩
      · exact ⟨_, w.drew, Nat.mod_lt _ (by omega), ⟨⟨rfl, rfl, rfl⟩, rfl⟩, by
          simp only [choose, Sem.run, Question.forced, decide_eq_true_eq, hf, if_false, Question.cut]
          rfl⟩
    obtain ⟨j, w1, hj, hal, hrun⟩ := hch
    refine ⟨L[j], by simp, w1, hal, ?_⟩
    have hsz : w1.heap.size = w.heap.size := by rw [hal.1.1]
    have hp : ∀ (h : Array Obj) (x y : Obj), (h.push x).setIfInBounds h.size y = h.push y := by
      intro h x y
      apply Array.toList_inj.1
      simp
    have hset : ∀ (a : Option Nat) (b : Nat) (c : Array Nat) (d : Nat) (o' : Obj), (setObj w.heap.size o').run P (w1.alloc (.mapIter a b c d)) = .ok () (w1.alloc o') := fun a b c d o' => by
      simp only [setObj, Sem.run]
      rw [← hsz, heap_alloc_new]
      show Result.ok () ({ w1.alloc (.mapIter a b c d) with heap := (w1.heap.push (.mapIter a b c d)).setIfInBounds w1.heap.size o' } : World) = _
      rw [hp]
      rfl
    simp only [hrun, Array.getElem?_map, Array.getElem?_eq_getElem hj, Option.map_some, Sem.run_bind, hset, Result.andThen]
    rfl
theorem Drawn1.below {w w1 : World} (h : Drawn1 w w1) : Below w.heap.size w w1 := ⟨h.1.2.1, h.2, h.1.2.2, by rw [h.1.1]; exact Nat.le_refl _, fun k _ => by rw [h.1.1]⟩
theorem Drawn1.trans {a b c : World} (h : Drawn1 a b) (k : Drawn1 b c) : Drawn1 a c := ⟨⟨k.1.1.trans h.1.1, k.1.2.1.trans h.1.2.1, k.1.2.2.trans h.1.2.2⟩, k.2.trans h.2⟩
theorem Drawn1.refl (w : World) : Drawn1 w w := ⟨⟨rfl, rfl, rfl⟩, rfl⟩
set_option maxRecDepth 1000000 in
theorem T.of_walk (bm : Nat) (es : Array MapEntry) (clock : Nat) (want : Int) (w : World) (hb : w.heap[bm]? = some (.map es clock)) (hst : MapKept.Stamped es clock) (hv : ∀ x ∈ es.toList, ∃ s v, x.key = .string s ∧ x.val = .int .i64 v) :
    Calls Tryz.prog 219 #[.map (some bm), .int .i64 want] w fun e w' => (∃ s, e = .returned (.string s) ∧ ((∃ x ∈ es.toList, x.key = .string s ∧ nOf x.val = want) ∨ (s = ⟨#[]⟩ ∧ ∀ x ∈ es.toList, nOf x.val ≠ want))) ∧ Below w.heap.size w w' := by
  have hrg := run_range_map (P := Tryz.prog) w 260 9 3 bm es clock Tryz.underlying260 hb
  go_enter Tryz.func219, Tryz.ntmps219
  go_wp2
  go_loopw [] (fun w' => ∃ (w1 : World) (seen : Array Nat), Drawn1 w w1 ∧ w' = w1.alloc (.mapIter (some bm) clock seen clock) ∧ ∀ x ∈ es.toList, seen.contains x.born = true → ¬ nOf x.val = want) (fun w' => (leftOf es (w'.iterSeen w.heap.size)).size)
  case atStart => exact ⟨w, #[], Drawn1.refl w, rfl, fun x _ h => by simp at h⟩
  case round =>
    obtain ⟨w1, seen, hal, rfl, hno⟩ := hrel
    have hsz : w1.heap.size = w.heap.size := by rw [hal.1.1]
    have hb1 : w1.heap[bm]? = some (.map es clock) := by rw [hal.1.1]; exact hb
    have law := next_map_taped (P := Tryz.prog) w1 0 bm clock clock seen es clock hb1 hst.1 (Nat.le_refl _)
    rw [hsz] at law
    have hbel : ∀ (w2 : World) (o : Obj), Drawn1 w w2 → Below w.heap.size w (w2.alloc o) := fun w2 o h => h.below.alloc (by rw [h.1.1]; exact Nat.le_refl _) o
    rcases law with ⟨h0, hrun⟩ | ⟨e, he, w2, hal2, hrun⟩
    · have hnx : ∀ ty, (Instr.next (.pointer (some ⟨w.heap.size, 0, none⟩)) false ty).run Tryz.prog (w1.alloc (.mapIter (some bm) clock seen clock)) = _ := fun _ => hrun
      go_wp2
      go_ret
      exact ⟨⟨_, rfl, .inr ⟨rfl, fun x hx => hno x hx (all_seen es seen h0 x hx)⟩⟩, hbel w1 _ hal⟩
    · obtain ⟨s, v, hkey, hval⟩ := hv e (mem_left he).1
      rw [hkey, hval] at hrun
      have hnx : ∀ ty, (Instr.next (.pointer (some ⟨w.heap.size, 0, none⟩)) false ty).run Tryz.prog (w1.alloc (.mapIter (some bm) clock seen clock)) = _ := fun _ => hrun
      have hsz2 : w2.heap.size = w.heap.size := by rw [hal2.1.1, hal.1.1]
      have hb2 : w2.heap[bm]? = some (.map es clock) := by rw [hal2.1.1]; exact hb1
      have hen := run_entry_map (P := Tryz.prog) w2 bm clock seen es clock e hb2 (mem_left he).1 hst.2.1
      rw [hsz2, hkey, hval] at hen
      have hal3 : Drawn1 w w2 := hal.trans hal2
      go_wp2
      · rename_i heq
        go_ret
        exact ⟨⟨s, rfl, .inl ⟨e, (mem_left he).1, hkey, by rw [hval]; simpa [nOf] using heq⟩⟩, hbel w2 _ hal3⟩
      · rename_i hne
        go_roundw
        case rel =>
          refine ⟨w2, seen.push e.born, hal3, rfl, fun x hx hc => ?_⟩
          rw [contains_push] at hc
          rcases Bool.or_eq_true _ _ ▸ hc with h1 | h1
          · exact hno x hx h1
          · have : x = e := born_inj hst.2.1 hx (mem_left he).1 (beq_iff_eq.1 h1)
            subst this
            rw [hval]
            simpa [nOf] using hne
        case measure =>
          rw [← hsz2, World.iterSeen_alloc, hsz2, ← hsz, World.iterSeen_alloc]
          exact left_shrinks es seen e he
end Go.Proofs
end
section
namespace Go.Proofs
open Go.RowKit
set_option maxRecDepth 100000 in
theorem T.rec62 (x y : Value) (w : World) : CallsDIn Fence.wide 0 Tryz.prog 62 #[x, y] .returning w fun e u w' => (∃ x, e = .returned x) ∧ u = .returning ∧ w' = w := by
  refine callsDIn_of_wpSIn Tryz.func62 rfl trivial fun c₀ cs hc => ?_
  refine wpSIn_seq ?_
  refine wpSIn_region ?_
  simp [wpOpsSIn, go_sem, recoverD, hc, Tryz.ntmps62, Exit.thenS]
  refine wpSIn_of_wpIn rfl ?_
  gi_wp2
  cases c₀
  simp_all [bodyPostS, results, Tryz.results62]
set_option maxRecDepth 100000 in
theorem T.rec242 (x : Value) (w : World) : CallsDIn Fence.wide 0 Tryz.prog 242 #[x] .returning w fun e u w' => (∃ x, e = .returned x) ∧ u = .returning ∧ w' = w := by
  refine callsDIn_of_wpSIn Tryz.func242 rfl trivial fun c₀ cs hc => ?_
  refine wpSIn_seq ?_
  refine wpSIn_region ?_
  simp [wpOpsSIn, go_sem, recoverD, hc, Tryz.ntmps242, Exit.thenS]
  refine wpSIn_of_wpIn rfl ?_
  gi_wp2
  cases c₀
  simp_all [bodyPostS, results, Tryz.results242]
set_option maxRecDepth 100000 in
theorem T.rec258 (x y z : Value) (w : World) : CallsDIn Fence.wide 0 Tryz.prog 258 #[x, y, z] .returning w fun e u w' => (∃ x, e = .returned x) ∧ u = .returning ∧ w' = w := by
  refine callsDIn_of_wpSIn Tryz.func258 rfl trivial fun c₀ cs hc => ?_
  refine wpSIn_seq ?_
  refine wpSIn_region ?_
  simp [wpOpsSIn, go_sem, recoverD, hc, Tryz.ntmps258, Exit.thenS]
  refine wpSIn_of_wpIn rfl ?_
  gi_wp2
  cases c₀
  simp_all [bodyPostS, results, Tryz.results258]
end Go.Proofs
end
