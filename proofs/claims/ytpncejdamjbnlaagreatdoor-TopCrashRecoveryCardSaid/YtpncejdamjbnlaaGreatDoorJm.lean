/-
  A part of the proof of TopCrashRecovery: walks of the functions that the law calls.
-/
import Derived.Test.YtpncejdamjbnlaaGreatDoorJc
import Derived.ChangeShapes
import Derived.WideShapes
import Derived.Deep.Slices
import Derived.Deep.SlicePairs
import Derived.ProofKit
import Derived.Handed
import Derived.SizedLaws
set_option linter.all false
section
namespace Go.Proofs.YtpncejdamjbnlaaGreatDoor
open Go.ChangeShapes Go.WideShapes Go.ChangeAt Go.RowKit
theorem wf_64 {a : Int} (h : (Lit.int .i64 a).wf = true) : W64 a := by
  simp only [Lit.wf, decide_eq_true_eq] at h
  have h2 : IntKind.i64.min ≤ a ∧ a ≤ 9223372036854775807 := by simpa using h
  have h3 : IntKind.i64.min = -9223372036854775808 := by decide
  unfold W64
  omega
theorem open_places {H : Type} {enc : TypeId × Value → H} {W : World} {v : Value} {y : DataW H × List MemPlace} {m : Nat}
    (h : DataW.trod enc Tryz.prog W 0 (fun _ => true) true m 30 [v] = some y) : ∃ A n c ps, v = .slice A n c ∧ Arr W A n c ps ∧ W64s ps := by
  rcases Deep.open_slice_pairs Tryz.underlying30 Tryz.underlying104 (by kernel_rfl) rfl rfl (by kernel_rfl) (by kernel_rfl) h with ⟨hcs, _⟩ | ⟨x, len, cap, m, n, V0, V1, D0, D1, P0, P1, hcs, _, hl, hm, hmm, _, hcell⟩
  · simp at hcs
    subst hcs
    exact ⟨none, 0, 0, [], rfl, Arr.nil_, fun p hp => by cases hp⟩
  · simp at hcs
    subst hcs
    simp at hmm
    subst hmm
    have hi : ∀ i, i < len → ∃ p : Pl, V0 i = .int .i64 p.1 ∧ V1 i = .int .i64 p.2 ∧ W64 p.1 ∧ W64 p.2 := fun i hi => by
      obtain ⟨_, _, h0, h1⟩ := hcell i (by omega)
      obtain ⟨a, ha, _, hwa⟩ := DataW.trod_int Tryz.underlying3 h0
      obtain ⟨b, hb, _, hwb⟩ := DataW.trod_int Tryz.underlying3 h1
      simp at ha hb
      exact ⟨(a, b), ha, hb, wf_64 hwa, wf_64 hwb⟩
    have hex : ∃ f : Nat → Pl, ∀ i, i < len → V0 i = .int .i64 (f i).1 ∧ V1 i = .int .i64 (f i).2 ∧ W64 (f i).1 ∧ W64 (f i).2 :=
      ⟨fun i => if h : i < len then (hi i h).choose else (0, 0), fun i h => by simp only [dif_pos h]; exact (hi i h).choose_spec⟩
    obtain ⟨f, hf⟩ := hex
    refine ⟨some x, len, m, (List.range len).map f, rfl, ⟨by simp, hl, hm, ⟨by rw [flat_len]; simp, fun h0 => ⟨x, rfl, ?_, fun j u hu => ?_⟩⟩, fun e => by cases e⟩, fun p hp => ?_⟩
    · have := World.block_lt_of_cell? W _ (hcell 0 (by omega)).1
      rwa [block_of_add] at this
    · have hj : j < len * 2 := by
        rcases Nat.lt_or_ge j (len * 2) with h | h
        · exact h
        · rw [List.getElem?_eq_none (by rw [flat_len]; simp [pl_size]; omega)] at hu; cases hu
      have hk : j / 2 < len := by omega
      have hfk : ((List.range len).map f)[j / 2]? = some (f (j / 2)) := by rw [List.getElem?_map, List.getElem?_range hk]; rfl
      have g := flat_get hfk (j := j % 2) (by rw [pl_size]; omega)
      rw [pl_size, show j / 2 * 2 + j % 2 = j by omega] at g
      obtain ⟨k0, k1, _⟩ := hcell (j / 2) (by omega)
      obtain ⟨e0, e1, _⟩ := hf _ hk
      rw [hu] at g
      rcases (by omega : j % 2 = 0 ∨ j % 2 = 1) with hp | hp
      · rw [hp] at g
        have : u = .int .i64 (f (j / 2)).1 := by
          have g' : some u = some (.int .i64 (f (j / 2)).1) := g
          injection g'
        rw [this, ← e0, ← k0, show j / 2 * 2 = j by omega]
      · rw [hp] at g
        have : u = .int .i64 (f (j / 2)).2 := by
          have g' : some u = some (.int .i64 (f (j / 2)).2) := g
          injection g'
        rw [this, ← e1, ← k1, show j / 2 * 2 + 1 = j by omega]
    · obtain ⟨i, hi', rfl⟩ := List.mem_map.1 hp
      exact (hf i (List.mem_range.1 hi')).2.2
theorem open_weeks {H : Type} {enc : TypeId × Value → H} {W : World} {a : Option Addr} {len cap : Nat} {d : DataW H} {ps : List MemPlace}
    (h : DataW.Trod enc Tryz.prog W 0 (fun _ => true) true 22 (.slice a len cap) d ps) : ∃ wks : List (List Pl), RowsOf W a len cap wks ∧ ∀ ps ∈ wks, W64s ps := by
  obtain ⟨fuel, hf⟩ := h
  rcases Deep.open_slice1 Tryz.underlying22 (by kernel_rfl) hf with ⟨hcs, _⟩ | ⟨x, l, c, m, n, V, D, Pd, hcs, _, hl, hm, hmm, _, hcell⟩
  · simp [Value.cells] at hcs
    obtain ⟨rfl, rfl, rfl⟩ := hcs
    exact ⟨[], ⟨rfl, Nat.le_refl _, by simp [maxLen], [], Reads.none_, fun i r h => by simp at h⟩, fun p hp => by cases hp⟩
  · simp [Value.cells] at hcs
    obtain ⟨rfl, rfl, rfl⟩ := hcs
    simp at hmm
    subst hmm
    have hi : ∀ i, i < len → ∃ p : Option Addr × Nat × Nat × List Pl, V i = .slice p.1 p.2.1 p.2.2.1 ∧ Arr W p.1 p.2.1 p.2.2.1 p.2.2.2 ∧ W64s p.2.2.2 := fun i hi => by
      obtain ⟨_, h0⟩ := hcell i (by omega)
      obtain ⟨y0, n', _, _, h1⟩ := trod_struct1 Tryz.underlying32 h0
      have c30 : Tryz.prog.cellsOf 30 = 1 := by kernel_rfl
      simp only [List.drop_zero] at h1
      rw [c30] at h1
      obtain ⟨A, n2, c2, ps, e1, e2, e3⟩ := open_places (v := V i) h1
      exact ⟨(A, n2, c2, ps), e1, e2, e3⟩
    have hex : ∃ f : Nat → Option Addr × Nat × Nat × List Pl, ∀ i, i < len → V i = .slice (f i).1 (f i).2.1 (f i).2.2.1 ∧ Arr W (f i).1 (f i).2.1 (f i).2.2.1 (f i).2.2.2 ∧ W64s (f i).2.2.2 :=
      ⟨fun i => if h : i < len then (hi i h).choose else (none, 0, 0, []), fun i h => by simp only [dif_pos h]; exact (hi i h).choose_spec⟩
    obtain ⟨f, hf⟩ := hex
    refine ⟨(List.range len).map fun i => (f i).2.2.2, ⟨by simp, hl, hm, (List.range len).map fun i => .slice (f i).1 (f i).2.1 (f i).2.2.1, ⟨by simp, fun h0 => ⟨x, rfl, ?_, fun j u hu => ?_⟩⟩, fun i r hr => ?_⟩, fun p hp => ?_⟩
    · have := World.block_lt_of_cell? W _ (hcell 0 (by omega)).1
      rwa [block_of_add] at this
    · rw [List.getElem?_map] at hu
      by_cases hj : j < len
      · rw [List.getElem?_range hj] at hu
        simp at hu
        rw [(hcell j (by omega)).1, (hf j hj).1, hu]
      · rw [List.getElem?_eq_none (by simp; omega)] at hu; cases hu
    · rw [List.getElem?_map] at hr
      by_cases hj : i < len
      · rw [List.getElem?_range hj] at hr
        simp at hr
        exact ⟨_, _, _, (f i).2.2.2, hr.symm, by rw [List.getElem?_map, List.getElem?_range hj]; rfl, (hf i hj).2.1⟩
      · rw [List.getElem?_eq_none (by simp; omega)] at hr; cases hr
    · obtain ⟨i, hi', rfl⟩ := List.mem_map.1 hp
      exact (hf i (List.mem_range.1 hi')).2.2
end Go.Proofs.YtpncejdamjbnlaaGreatDoor
end
section
namespace Go
variable {H : Type} {enc : TypeId × Value → H}
theorem returnsInHanded_of_change_and_shaped {a : Assume} {C : Checked} {os : Os} {f : FuncId} {fn : Func} {s : ChangeSpec} {conds : List PathCond} {apart fresh handsOn again : Bool} {X : World → Array Value → Prop}
    (hX : ∀ (w w' : World) (args : Array Value), w.heap = w'.heap → X w args → X w' args)
    (own : ownKnob C.prog.godebug = none) (started : os.Started) (noInit : C.prog.inits.idxOf? f = none) (hfn : C.prog.funcs[f]? = some fn)
    (witness : ∃ (w : World) (tape : Tape) (i : Input), w.os = os ∧ (w.forCall tape i).Shaped C.prog ∧ i.vars = [] ∧ Input.okWide C.prog (w.forCall tape i) .any w.heap.size f i ∧
      ((s.pre enc C.prog fn conds apart (w.forCall tape i).memory i.args ∧ X (w.forCall tape i).memory i.args) ∧ sizedMet enc C.prog fn (OpenSpec.ofChange s) apart (w.forCall tape i).memory i.args) ∧ a.holds C.prog (lone (Frame.enter C.prog f i.args .normal) [] (w.forCall tape i)))
    (contract : ∀ (W : World) (base : Nat) (args : Array Value) (ds gs : List (DataW H)) (before : List MemPlace),
      (∀ (j : Nat) t v, fn.params[j]? = some t → args[j]? = some v → Value.okWide C.prog W .any base t v) →
      DataW.Whole enc C.prog fn.params.toList s.vars apart W args.toList ds gs before →
      conds.all (PathCond.test C.prog ⟨fn.params.toList, ds, s.plain.varTypes C.prog, gs⟩) = true →
      (DataW.weightsEach C.prog (fn.params.toList ++ s.plain.varTypes C.prog) (ds ++ gs)).all (· ≤ reachBytes) = true → X W args → W.ShapedOpen C.prog →
      a.holds C.prog (lone (Frame.enter C.prog f args .normal) [] W) →
      Calls C.prog f args W fun e W' => ∃ v, e = .returned v ∧ s.post enc C.prog fn apart fresh handsOn again W args v W') :
    ReturnsInHanded a C os f .any (fun w args => (s.pre enc C.prog fn conds apart w args ∧ X w args) ∧ sizedMet enc C.prog fn (OpenSpec.ofChange s) apart w args) (s.post enc C.prog fn apart fresh handsOn again) := by
  refine returnsInHanded_of_calls own started noInit witness ?_
  intro w tape i _ hsh _ hok hpre hholds
  obtain ⟨_, _, _, fn', hfn', _, _, _, _, hval⟩ := hok
  have e : fn' = fn := Option.some.inj (hfn'.symm.trans hfn)
  subst e
  obtain ⟨⟨⟨ds, gs, before, hw, hc⟩, hx⟩, hz⟩ := hpre
  have hw' := DataW.Whole.of_heap (w' := w.forCall tape i) (by rfl) hw
  refine (contract (w.forCall tape i) w.heap.size i.args ds gs before hval hw' hc (hz.weights hw) (hX _ _ _ (by rfl) hx) hsh hholds).mono fun e W' ⟨v, he, hp⟩ => ?_
  subst he
  exact ChangeSpec.post_blind hp
end Go
end
