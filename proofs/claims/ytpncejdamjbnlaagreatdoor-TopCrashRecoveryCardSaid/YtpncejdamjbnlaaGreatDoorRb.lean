/-
  A part of the proof of TopCrashRecovery: an abstract machine that the kernel runs, and its soundness.
-/
import Derived.Test.YtpncejdamjbnlaaGreatDoorRa
import Derived.Laws.Cells
import Derived.Laws.World
set_option linter.all false
section
namespace Go.Refl
open Go.RowKit
structure EnvOk (P : Program) (E : Env) (C : Ctx) : Prop where
  ng : E.ng = C.G
  ty : ∀ t a, E.ty.get t = some a → ∃ i, P.info? t = some i ∧ P.underlying t = some a.d ∧ i.size = a.size ∧ i.bytes = a.bytes ∧
    (isBad a.zero = false → ∃ z, i.zero = some z ∧ ∀ σ, conc σ a.zero = some z)
  fn : ∀ f x, E.fn.get f = some x → P.funcs[f]? = some x ∧ (x.name == "runtime.NumGoroutine") = false
section types
variable {P : Program} {E : Env} {C : Ctx} (hE : EnvOk P E C) {t : TypeId} {a : ATy} (h : E.ty.get t = some a) (w : World)
include hE h
theorem run_und : (underlying t).run P w = .ok a.d w := by
  obtain ⟨i, h1, h2, h3, h4, h5⟩ := hE.ty t a h
  simp [underlying, h2]
theorem run_size : (sizeOf t).run P w = .ok a.size w := by
  obtain ⟨i, h1, h2, h3, h4, h5⟩ := hE.ty t a h
  simp [sizeOf, typeInfo, h1, h3]
theorem run_bytes : ∃ i, (typeInfo t).run P w = .ok i w ∧ i.bytes = a.bytes := by
  obtain ⟨i, h1, h2, h3, h4, h5⟩ := hE.ty t a h
  exact ⟨i, by simp [typeInfo, h1], h4⟩
theorem run_isAgg : (isAgg t).run P w = .ok (isAggD a.d) w := by
  simp only [isAgg, Sem.run_bind, run_und hE h, Result.andThen_ok]
  cases a.d <;> rfl
theorem run_zero (hz : isBad a.zero = false) : ∃ z, (zeroValue t).run P w = .ok z w ∧ ∀ σ, conc σ a.zero = some z := by
  obtain ⟨i, h1, h2, h3, h4, h5⟩ := hE.ty t a h
  obtain ⟨z, hz1, hz2⟩ := h5 hz
  exact ⟨z, by simp [zeroValue, typeInfo, h1, hz1], hz2⟩
end types
theorem cond_eq {b : Bool} {x y : Bool} (h : cond b x y = true) : (b = true ∧ x = true) ∨ (b = false ∧ y = true) := by cases b <;> simp_all
theorem cond_f {b : Bool} {x : Bool} (h : cond b x false = true) : b = true ∧ x = true := by cases b <;> simp_all
theorem cond_t {b : Bool} {x : Bool} (h : cond b false x = true) : b = false ∧ x = true := by cases b <;> simp_all
theorem ble_eq {a b : Nat} (h : Nat.ble a b = true) : a ≤ b := Nat.le_of_ble_eq_true h
theorem bles_eq {a b : Nat} (h : Nat.ble (Nat.succ a) b = true) : a < b := Nat.le_of_ble_eq_true h
theorem beq_eq {a b : Nat} (h : Nat.beq a b = true) : a = b := Nat.eq_of_beq_eq_true h
theorem byteOk_map (l : List UInt8) : byteOk (l.map UInt8.toNat) = true := by
  induction l with
  | nil => rfl
  | cons c l ih =>
    have : c.toNat ≤ 255 := Nat.le_of_lt_succ c.toNat_lt
    simp [byteOk, ih, this]
theorem bytesOf_map (s : ByteArray) : bytesOf (s.data.toList.map UInt8.toNat) = s := by
  obtain ⟨⟨l⟩⟩ := s
  unfold bytesOf
  have : (UInt8.ofNat ∘ UInt8.toNat) = id := by funext c; simp
  simp [this]
theorem strK_spec : ∀ (l : List UInt8) (g : List Nat → Bool), strK l g = true → g (l.map UInt8.toNat) = true
  | [], g, h => h
  | c :: l, g, h => by
    have h' : strK l (fun s => fn_ c.toNat fun n => g (n :: s)) = true := h
    have := strK_spec l _ h'
    rw [fn_eq] at this
    exact this
theorem cst1_spec (v : Value) (g : AV → Bool) (h : cst1 v g = true) : ∃ a, g a = true ∧ ∀ σ, conc σ a = some v := by
  unfold cst1 at h
  split at h
  · exact ⟨_, h, fun σ => rfl⟩
  · rw [fi_eq] at h; exact ⟨_, h, fun σ => rfl⟩
  · rename_i s
    have := strK_spec _ _ h
    refine ⟨_, this, fun σ => ?_⟩
    simp only [conc, byteOk_map, if_true]
    rw [bytesOf_map]
  · exact ⟨_, h, fun σ => rfl⟩
  · rename_i l c
    cases l with
    | zero =>
      cases c with
      | zero => exact ⟨_, h, fun σ => rfl⟩
      | succ c => exact absurd (show false = true from h) (by decide)
    | succ l => exact absurd (show false = true from h) (by decide)
  · exact ⟨_, h, fun σ => rfl⟩
  · exact ⟨_, h, fun σ => rfl⟩
  · exact ⟨_, h, fun σ => rfl⟩
  · rename_i f a c
    split at h
    · rename_i ha hc
      refine ⟨_, h, fun σ => ?_⟩
      have ha' : a = #[] := by simpa using ha
      have hc' : c = #[] := by simpa using hc
      subst ha'; subst hc'; simp [conc, concL]
    · cases h
  · rename_i vs
    split at h
    · rename_i hv
      have hv' : vs = #[] := by simpa using hv
      subst hv'
      exact ⟨_, h, fun σ => by simp [conc, concL]⟩
    · cases h
  · cases h
theorem cstL_spec : ∀ (l : List Value) (g : List AV → Bool), cstL l g = true → ∃ a, g a = true ∧ ∀ σ, concL σ a = some l
  | [], g, h => ⟨[], h, fun σ => rfl⟩
  | v :: l, g, h => by
    have h' : cst1 v (fun v => cstL l fun l => g (v :: l)) = true := h
    obtain ⟨a, ha, hc⟩ := cst1_spec v _ h'
    obtain ⟨b, hb, hd⟩ := cstL_spec l _ ha
    exact ⟨_, hb, fun σ => by simp [concL, hc σ, hd σ]⟩
theorem cst_spec (v : Value) (g : AV → Bool) (h : cst v g = true) : ∃ a, g a = true ∧ ∀ σ, conc σ a = some v := by
  unfold cst at h
  split at h
  · obtain ⟨a, ha, hc⟩ := cstL_spec _ _ h
    exact ⟨_, ha, fun σ => by simp [conc, hc σ]⟩
  · exact cst1_spec v g h
structure OpR (σ : Sig) (tm : Tr AV) (ρ : Operand → Value) : Prop where
  tmp : ∀ t, VR σ (tget tm t) (ρ (.tmp t))
  const : ∀ v, ρ (.const v) = v
  global : ∀ n, ρ (.global n) = .pointer (some ⟨n, 0, none⟩)
  func : ∀ f, ρ (.func f) = .func (.func f) #[] #[]
theorem ev_spec {P : Program} {E : Env} {C : Ctx} (hE : EnvOk P E C) {o : Operand} {tm : Tr AV} {g : AV → Bool} (h : ev E o tm g = true) :
    ∃ v, g v = true ∧ ∀ σ hp w ρ, HRel C σ hp w → OpR σ tm ρ → VR σ v (ρ o) := by
  unfold ev at h
  split at h
  · rename_i t
    refine ⟨tget tm t, ?_, fun σ hp w ρ _ hr => hr.tmp t⟩
    unfold tget
    cases ht : tm.get t with
    | none => rw [ht] at h; exact h
    | some v => rw [ht] at h; exact h
  · rename_i v
    obtain ⟨a, ha, hc⟩ := cst_spec v g h
    exact ⟨a, ha, fun σ hp w ρ _ hr => .inr (by rw [hr.const]; exact hc σ)⟩
  · rename_i n
    obtain ⟨h1, h2⟩ := cond_f h
    refine ⟨_, h2, fun σ hp w ρ hh hr => .inr ?_⟩
    rw [hr.global]
    simp [conc, hh.glob n (by rw [← hE.ng]; exact bles_eq h1)]
  · rename_i f
    exact ⟨_, h, fun σ hp w ρ _ hr => .inr (by rw [hr.func]; simp [conc, concL])⟩
theorem evL_spec {P : Program} {E : Env} {C : Ctx} (hE : EnvOk P E C) {tm : Tr AV} : ∀ {l : List Operand} {g : List AV → Bool}, evL E l tm g = true →
    ∃ vs, g vs = true ∧ vs.length = l.length ∧ ∀ σ hp w ρ, HRel C σ hp w → OpR σ tm ρ → ∀ (i : Nat) v o, vs[i]? = some v → l[i]? = some o → VR σ v (ρ o)
  | [], g, h => ⟨[], h, rfl, fun _ _ _ _ _ _ i v o e => by simp at e⟩
  | o :: l, g, h => by
    have h' : ev E o tm (fun v => evL E l tm fun l => g (v :: l)) = true := h
    obtain ⟨v, hv, hs⟩ := ev_spec hE h'
    obtain ⟨vs, hvs, hl, hss⟩ := evL_spec hE hv
    refine ⟨v :: vs, hvs, by simp [hl], fun σ hp w ρ hh hr i u p e1 e2 => ?_⟩
    cases i with
    | zero => simp at e1 e2; subst e1; subst e2; exact hs σ hp w ρ hh hr
    | succ i => simp at e1 e2; exact hss σ hp w ρ hh hr i u p e1 e2
def allOk (vs : List AV) : Prop := ∀ (i : Nat) v, vs[i]? = some v → v ≠ .bad
theorem VR.conc {σ : Sig} {v : AV} {x : Value} (h : VR σ v x) (hb : v ≠ .bad) : Refl.conc σ v = some x := h.resolve_left hb
theorem VR.conc' {σ : Sig} {v : AV} {x : Value} (h : VR σ v x) (hb : isBad v = false) : Refl.conc σ v = some x := h.resolve_left (fun e => by subst e; simp [isBad] at hb)
theorem dropK_spec {α : Type} : ∀ (n : Nat) (l : List α) (g : List α → Bool), dropK n l g = true → g (l.drop n) = true
  | 0, l, g, h => h
  | n + 1, [], g, h => by simpa using (show g [] = true from h)
  | n + 1, _ :: l, g, h => by simpa using dropK_spec n l g h
theorem takeK_spec : ∀ (n : Nat) (l : List AV) (g : List AV → Bool), takeK n l g = true → g (l.take n) = true ∧ n ≤ l.length ∧ ∀ (i : Nat) v, (l.take n)[i]? = some v → isBad v = false
  | 0, l, g, h => ⟨by simpa using (show g [] = true from h), Nat.zero_le _, fun i v e => by simp at e⟩
  | n + 1, [], g, h => absurd (show false = true from h) (by decide)
  | n + 1, v :: l, g, h => by
    obtain ⟨h1, h2⟩ := cond_t (show cond (isBad v) false (takeK n l fun r => g (v :: r)) = true from h)
    obtain ⟨a, b, c⟩ := takeK_spec n l _ h2
    refine ⟨by simpa using a, by simpa using b, fun i u e => ?_⟩
    cases i with
    | zero => simp at e; subst e; exact h1
    | succ i => simp at e; exact c i u (by simpa using e)
theorem overK_spec : ∀ (vs l : List AV) (g : List AV → Bool), overK vs l g = true → g (vs ++ l.drop vs.length) = true ∧ vs.length ≤ l.length ∧ ∀ v ∈ vs, scal v = true
  | [], l, g, h => ⟨by simpa using (show g l = true from h), Nat.zero_le _, fun v hv => by simp at hv⟩
  | v :: vs, [], g, h => absurd (show false = true from h) (by decide)
  | v :: vs, u :: l, g, h => by
    obtain ⟨h1, h2⟩ := cond_f (show cond (scal v) (overK vs l fun r => g (v :: r)) false = true from h)
    obtain ⟨a, b, c⟩ := overK_spec vs l _ h2
    refine ⟨by simpa using a, by simpa using b, fun x hx => ?_⟩
    rcases List.mem_cons.1 hx with rfl | hx
    · exact h1
    · exact c x hx
theorem spliceK_spec : ∀ (o : Nat) (vs l : List AV) (g : List AV → Bool), spliceK o vs l g = true →
    g (l.take o ++ vs ++ l.drop (o + vs.length)) = true ∧ o + vs.length ≤ l.length ∧ ∀ v ∈ vs, scal v = true
  | 0, vs, l, g, h => by
    obtain ⟨a, b, c⟩ := overK_spec vs l g h
    exact ⟨by simpa using a, by simpa using b, c⟩
  | o + 1, vs, [], g, h => absurd (show false = true from h) (by decide)
  | o + 1, vs, u :: l, g, h => by
    obtain ⟨a, b, c⟩ := spliceK_spec o vs l _ (show spliceK o vs l (fun r => g (u :: r)) = true from h)
    refine ⟨?_, by simp; omega, c⟩
    have e : o + 1 + vs.length = (o + vs.length) + 1 := by omega
    rw [e]
    simpa using a
theorem splice_get {α : Type} (l vs : List α) (o i : Nat) (h : o + vs.length ≤ l.length) :
    (l.take o ++ vs ++ l.drop (o + vs.length))[i]? = if i < o then l[i]? else if i < o + vs.length then vs[i - o]? else l[i]? := by
  have hto : (l.take o).length = o := by simp; omega
  by_cases h1 : i < o
  · rw [if_pos h1, List.append_assoc, List.getElem?_append_left (by omega), List.getElem?_take, if_pos h1]
  · rw [if_neg h1]
    by_cases h2 : i < o + vs.length
    · rw [if_pos h2, List.getElem?_append_left (by simp; omega), List.getElem?_append_right (by omega), hto]
    · rw [if_neg h2, List.getElem?_append_right (by simp; omega), List.getElem?_drop]
      congr 1
      simp; omega
theorem add_eq (b o n : Nat) : (⟨b, o, none⟩ : Addr).add n = ⟨b, o + n, none⟩ := by
  unfold Addr.add
  split
  · rename_i h; subst h; rfl
  · rfl
theorem cell_of {w : World} {b o : Nat} {arr : Array Value} {e : TypeId} {fz : Nat × Nat} (h : w.heap[b]? = some (.cells arr e fz)) : w.cell? ⟨b, o, none⟩ = arr[o]? := by
  simp [World.cell?, h]
theorem rdK_spec {h : AH} {b o n : Nat} {g : List AV → Bool} (hr : rdK h b o n g = true) :
    ∃ cs all e z ro, g cs = true ∧ h.m.get b = some (.cells all e z ro) ∧ cs = (all.drop o).take n ∧ cs.length = n ∧ o + n ≤ all.length + (if n = 0 then o else 0) ∧ ∀ (i : Nat) v, cs[i]? = some v → isBad v = false := by
  unfold rdK at hr
  split at hr
  · rename_i cs e z ro hm
    have := dropK_spec _ _ _ hr
    obtain ⟨h1, h2, h3⟩ := takeK_spec _ _ _ this
    refine ⟨_, cs, e, z, ro, h1, hm, rfl, by simp at h2 ⊢; omega, ?_, h3⟩
    simp at h2; split <;> omega
  · cases hr
theorem rd_conc {C : Ctx} {σ : Sig} {h : AH} {w : World} (k : HRel C σ h w) {b o n : Nat} {all : List AV} {e z : Nat} {ro : Bool} (hm : h.m.get b = some (.cells all e z ro)) {x : Loc} (hx : σ b = some x)
    (hl : ((all.drop o).take n).length = n) (hb : ∀ (i : Nat) v, ((all.drop o).take n)[i]? = some v → isBad v = false) :
    ∃ vals, concL σ ((all.drop o).take n) = some vals ∧ vals.length = n ∧ ∀ (j : Nat) v, vals[j]? = some v → w.cell? ⟨x.blk, x.shift + o + j, none⟩ = some v := by
  obtain ⟨arr, fz, h1, h2, h3, h4⟩ := k.obj b _ x hm hx
  have key : ∀ j, j < n → ∃ v z, ((all.drop o).take n)[j]? = some v ∧ arr[x.shift + o + j]? = some z ∧ conc σ v = some z := fun j hj => by
    have hlt : j < ((all.drop o).take n).length := by omega
    obtain ⟨v, hv⟩ : ∃ v, ((all.drop o).take n)[j]? = some v := ⟨_, List.getElem?_eq_getElem hlt⟩
    have hv' : all[o + j]? = some v := by
      rw [List.getElem?_take, if_pos hj, List.getElem?_drop] at hv; exact hv
    rcases h3 _ v hv' with hbad | ⟨y, hy, hc⟩
    · subst hbad; have := hb j _ hv; simp [isBad] at this
    · exact ⟨v, y, hv, by rw [Nat.add_assoc]; exact hy, hc⟩
  refine ⟨(List.range n).map fun j => arr.getD (x.shift + o + j) undef, ?_, by simp, fun j v hv => ?_⟩
  · refine concL_of_get (by simp; simp at hl; omega) fun i v hv => ?_
    have hi : i < n := by
      have := (List.getElem?_eq_some_iff.1 hv).1; omega
    obtain ⟨v', y, e1, e2, e3⟩ := key i hi
    rw [hv] at e1; cases e1
    refine ⟨y, ?_, e3⟩
    simp [hi, e2]
  · have hj : j < n := by
      have := (List.getElem?_eq_some_iff.1 hv).1; simpa using this
    obtain ⟨v', y, e1, e2, e3⟩ := key j hj
    simp [hj, e2] at hv
    rw [cell_of h1, e2, hv]
theorem run_load_n {P : Program} {w : World} {b o n : Nat} {vals : List Value} (hl : vals.length = n) (h : ∀ (j : Nat) v, vals[j]? = some v → w.cell? ⟨b, o + j, none⟩ = some v) :
    (loadCells ⟨b, o, none⟩ n).run P w = .ok vals.toArray w := by
  subst hl
  exact run_loadCells_list w _ vals fun j v hv => by rw [add_eq]; exact h j v hv
theorem run_store_n {P : Program} (g o : Nat) (e : TypeId) (fz : Nat × Nat) : ∀ (vs : List Value) (i : Nat) (arr : Array Value) (w : World), w.heap[g]? = some (.cells arr e fz) → o + i + vs.length ≤ arr.size →
    (∀ j, j < arr.size → (decide (fz.1 ≤ j) && decide (j < fz.2)) = false) → (∀ v ∈ vs, v.oneCell' = true) →
    ∃ w' arr', (storeCells ⟨g, o, none⟩ vs i).run P w = .ok () w' ∧ w'.heap[g]? = some (.cells arr' e fz) ∧ arr'.size = arr.size ∧
      (∀ j, arr'[j]? = if o + i ≤ j ∧ j < o + i + vs.length then vs[j - (o + i)]? else arr[j]?) ∧ w'.heap.size = w.heap.size ∧ (∀ j, j ≠ g → w'.heap[j]? = w.heap[j]?) ∧ (∀ B, B ≤ g → Below B w w')
  | [], i, arr, w, hg, _, _, _ => by
    refine ⟨w, arr, rfl, hg, rfl, fun j => ?_, rfl, fun _ _ => rfl, fun B _ => Below.refl B w⟩
    rw [if_neg (by simp)]
  | v :: vs, i, arr, w, hg, hl, hfz, h1 => by
    simp at hl
    have hcell : w.cell? ⟨g, o + i, none⟩ = some arr[o + i] := by rw [cell_of hg]; simp
    have hfro : w.frozen? ⟨g, o + i, none⟩ = false := by
      obtain ⟨lo, hi⟩ := fz
      simp only [World.frozen?, hg]; exact hfz _ (by omega)
    have hst : (store ((⟨g, o, none⟩ : Addr).add i) v).run P w = .ok () (w.setCell ⟨g, o + i, none⟩ v) := by
      rw [add_eq, run_store P w _ v _ (h1 v (by simp)), hcell]; simp [hfro]
    have hg' : (w.setCell ⟨g, o + i, none⟩ v).heap[g]? = some (.cells (arr.setIfInBounds (o + i) v) e fz) := by
      simp [World.setCell, Array.getElem?_modify, hg]
    obtain ⟨w', arr', r1, r2, r3, r4, r5, r6, r7⟩ := run_store_n g o e fz vs (i + 1) (arr.setIfInBounds (o + i) v) (w.setCell ⟨g, o + i, none⟩ v) hg' (by simp; omega) (by simpa using hfz) (fun u hu => h1 u (by simp [hu]))
    refine ⟨w', arr', ?_, r2, by simpa using r3, fun j => ?_, by simpa [World.setCell] using r5, fun j hj => ?_, fun B hB => ?_⟩
    · simp only [storeCells, Sem.run_bind, hst, Result.andThen_ok]; exact r1
    · rw [r4 j]
      by_cases e1 : o + (i + 1) ≤ j ∧ j < o + (i + 1) + vs.length
      · rw [if_pos e1, if_pos (by simp; omega)]
        obtain ⟨d, rfl⟩ : ∃ d, j = o + i + (d + 1) := ⟨j - (o + i) - 1, by omega⟩
        have a1 : o + i + (d + 1) - (o + (i + 1)) = d := by omega
        have a2 : o + i + (d + 1) - (o + i) = d + 1 := by omega
        rw [a1, a2]; try simp
      · rw [if_neg e1, Array.getElem?_setIfInBounds]
        by_cases e2 : o + i = j
        · subst e2; rw [if_pos rfl, if_pos (by omega), if_pos (by simp)]; try simp
        · rw [if_neg e2, if_neg (by simp; omega)]
    · rw [r6 j hj]; exact Below.heap_setCell w _ v j hj
    · exact ((Below.refl B w).setCell (p := ⟨g, o + i, none⟩) hB v).trans (r7 B hB)
end Go.Refl
end
section
namespace Go.Refl
open Go.RowKit
theorem scal_one {σ : Sig} {v : AV} {z : Value} (h : scal v = true) (hc : conc σ v = some z) : z.oneCell' = true := by
  cases v <;> simp only [scal, Bool.false_eq_true] at h <;> simp only [conc, Option.map_eq_some_iff, Option.some.injEq, Option.bind_eq_some_iff] at hc
  case str s => split at hc <;> simp at hc; subst hc; rfl
  case ptr => obtain ⟨x, _, rfl⟩ := hc; rfl
  case sl => obtain ⟨x, _, rfl⟩ := hc; rfl
  case map => obtain ⟨x, _, rfl⟩ := hc; rfl
  case fn => obtain ⟨x, _, y, _, rfl⟩ := hc; rfl
  case yield => obtain ⟨x, _, rfl⟩ := hc; rfl
  case iface => obtain ⟨x, _, rfl⟩ := hc; rfl
  all_goals (subst hc; rfl)
theorem concL_mem_one {σ : Sig} : ∀ {vs : List AV} {vals : List Value}, concL σ vs = some vals → (∀ v ∈ vs, scal v = true) → ∀ z ∈ vals, z.oneCell' = true
  | [], vals, h, _, z, hz => by simp [concL] at h; subst h; simp at hz
  | v :: vs, vals, h, k, z, hz => by
    simp only [concL] at h
    cases hv : conc σ v with
    | none => rw [hv] at h; cases h
    | some y =>
      cases hc : concL σ vs with
      | none => rw [hv, hc] at h; cases h
      | some l =>
        rw [hv, hc] at h; cases h
        rcases List.mem_cons.1 hz with rfl | hz
        · exact scal_one (k v (by simp)) hv
        · exact concL_mem_one hc (fun u hu => k u (by simp [hu])) z hz
theorem cells_conc {σ : Sig} {v : AV} {z : Value} (h : conc σ v = some z) : concL σ (cellsOf v) = some z.cells.toList := by
  cases v <;> simp only [cellsOf] <;> simp only [conc, Option.map_eq_some_iff, Option.some.injEq, Option.bind_eq_some_iff] at h
  case bad => cases h
  case str s => split at h <;> simp at h; subst h; rename_i hb; simp [concL, conc, Value.cells, hb]
  case ptr => obtain ⟨x, hx, rfl⟩ := h; simp [concL, conc, Value.cells, hx]
  case sl => obtain ⟨x, hx, rfl⟩ := h; simp [concL, conc, Value.cells, hx]
  case map => obtain ⟨x, hx, rfl⟩ := h; simp [concL, conc, Value.cells, hx]
  case fn => obtain ⟨x, hx, y, hy, rfl⟩ := h; simp [concL, conc, Value.cells, hx, hy]
  case yield => obtain ⟨x, hx, rfl⟩ := h; simp [concL, conc, Value.cells, hx]
  case iface => obtain ⟨x, hx, rfl⟩ := h; simp [concL, conc, Value.cells, hx]
  case agg => obtain ⟨x, hx, rfl⟩ := h; simpa [Value.cells] using hx
  case tup => obtain ⟨x, hx, rfl⟩ := h; simp [concL, conc, Value.cells, hx]
  all_goals (subst h; simp [concL, conc, Value.cells])
theorem wrK_spec {h : AH} {b o : Nat} {vs : List AV} {g : AH → Bool} (hk : wrK h b o vs g = true) :
    ∃ cs e z m, g ⟨m, h.nx⟩ = true ∧ h.m.get b = some (.cells cs e z false) ∧ o + vs.length ≤ cs.length ∧ (∀ v ∈ vs, scal v = true) ∧ h.m.Put b (.cells (cs.take o ++ vs ++ cs.drop (o + vs.length)) e z false) m := by
  unfold wrK at hk
  split at hk
  · rename_i cs e z hm
    obtain ⟨h1, h2, h3⟩ := spliceK_spec _ _ _ _ hk
    obtain ⟨m, h4, h5⟩ := Tr.set_spec _ _ _ _ h1
    exact ⟨cs, e, z, m, h4, hm, h2, h3, h5⟩
  · cases hk
theorem wr_sound {P : Program} {C : Ctx} {σ : Sig} {h : AH} {w : World} (k : HRel C σ h w) {b o : Nat} {vs : List AV} {cs : List AV} {e z : Nat} {m : Tr AO} (hm : h.m.get b = some (.cells cs e z false)) (hl : o + vs.length ≤ cs.length)
    (hs : ∀ v ∈ vs, scal v = true) (hp : h.m.Put b (.cells (cs.take o ++ vs ++ cs.drop (o + vs.length)) e z false) m) {x : Loc} (hx : σ b = some x) {vals : List Value} (hv : concL σ vs = some vals) :
    ∃ w', (storeCells ⟨x.blk, x.shift + o, none⟩ vals).run P w = .ok () w' ∧ HRel C σ ⟨m, h.nx⟩ w' := by
  obtain ⟨arr, fz, h1, h2, h3, h4⟩ := k.obj b _ x hm hx
  have hvl := concL_length hv
  obtain ⟨w', arr', r1, r2, r3, r4, r5, r6, r7⟩ := run_store_n (P := P) x.blk (x.shift + o) e fz vals 0 arr w h1 (by omega) (unmarked (h4.1 rfl)) (concL_mem_one hv hs)
  refine ⟨w', r1, k.turn hm hx rfl rfl hp (r7 _) r5 r6 rfl ⟨arr', fz, r2, ?_, fun i v hi => ?_, ⟨fun _ => by rw [r3]; exact h4.1 rfl, fun e => ⟨(h4.2 e).1, by rw [r3, (h4.2 e).2]; simp; omega⟩⟩⟩⟩
  · rw [r3]; simp; omega
  · rw [splice_get _ _ _ _ hl] at hi
    rw [r4]
    simp only [Nat.add_zero]
    by_cases e1 : i < o
    · rw [if_pos e1] at hi; rw [if_neg (by omega)]; exact h3 i v hi
    · rw [if_neg e1] at hi
      by_cases e2 : i < o + vs.length
      · rw [if_pos e2] at hi; rw [if_pos (by omega)]
        have : x.shift + i - (x.shift + o) = i - o := by omega
        rw [this]
        exact .inr (concL_get hv _ _ hi)
      · rw [if_neg e2] at hi; rw [if_neg (by omega)]; exact h3 i v hi
theorem newK_spec {h : AH} {o : AO} {g : Nat → AH → Bool} (hk : newK h o g = true) : ∃ m, g h.nx ⟨m, h.nx + 1⟩ = true ∧ h.m.Put h.nx o m := by
  unfold newK at hk
  obtain ⟨m, h1, h2⟩ := Tr.set_spec _ _ _ _ hk
  rw [fn_eq] at h1
  exact ⟨m, h1, h2⟩
theorem alloc_get (w : World) (o : Obj) : (w.alloc o).heap[w.heap.size]? = some o := by show (w.heap.push o)[w.heap.size]? = _; simp
theorem new_cells {C : Ctx} {σ : Sig} {h : AH} {w : World} (k : HRel C σ h w) {cs : List AV} {e z : Nat} {m : Tr AO} (hp : h.m.Put h.nx (.cells cs e z false) m) {vals : List Value} (hv : concL σ cs = some vals)
    (rest : List Value) (extra : Nat) (hx : extra * z ≤ rest.length) (arr : Array Value) (ha : arr.toList = vals ++ rest) (hz : z = 0 → rest = []) :
    HRel C (σ.put h.nx ⟨w.heap.size, 0, extra⟩) ⟨m, h.nx + 1⟩ (w.alloc (.cells arr e)) ∧ σ.le (σ.put h.nx ⟨w.heap.size, 0, extra⟩) := by
  have hle := k.lp ⟨w.heap.size, 0, extra⟩
  refine ⟨k.new hp 0 extra _ fun σ' hσ => ⟨arr, (0, 0), alloc_get _ _, ?_, fun i v hi => .inr ?_, fun _ => .inl rfl, fun e => ⟨rfl, by rw [← Array.length_toList, ha, hz e, ← concL_length hv]; simp⟩⟩, hle⟩
  · have := concL_length hv
    have : arr.size = vals.length + rest.length := by rw [← Array.length_toList, ha]; simp
    simp; omega
  · obtain ⟨y, hy, hc⟩ := concL_get hv i v hi
    refine ⟨y, ?_, conc_mono hσ _ _ hc⟩
    have hlt : i < vals.length := (List.getElem?_eq_some_iff.1 hy).1
    rw [← Array.getElem?_toList, ha]
    simp [List.getElem?_append_left hlt, hy]
section
variable {P : Program} {E : Env} {C : Ctx} (hE : EnvOk P E C)
include hE
theorem loadK_spec {t : TypeId} {b o : Nat} {h : AH} {g : AV → Bool} (hk : loadK E t b o h g = true) :
    ∃ v, g v = true ∧ isBad v = false ∧ ∀ σ w x, HRel C σ h w → σ b = some x → ∃ z, (loadVar t ⟨x.blk, x.shift + o, none⟩).run P w = .ok z w ∧ conc σ v = some z := by
  unfold loadK at hk
  split at hk
  · cases hk
  · rename_i a ht
    rcases cond_eq hk with ⟨h1, h2⟩ | ⟨h1, h2⟩
    · obtain ⟨cs, all, e, z, ro, hg, hm, hcs, hl, _, hb⟩ := rdK_spec h2
      refine ⟨_, hg, rfl, fun σ w x k hx => ?_⟩
      subst hcs
      obtain ⟨vals, hv, hvl, hr⟩ := rd_conc k hm hx hl hb
      refine ⟨.agg vals.toArray, ?_, by simp [conc, hv]⟩
      simp only [loadVar, Sem.run_bind, run_isAgg hE ht, h1, Result.andThen_ok, if_true, run_size hE ht, run_load_n hvl hr, Sem.run_pure]
    · obtain ⟨cs, all, e, z, ro, hg, hm, hcs, hl, _, hb⟩ := rdK_spec h2
      split at hg
      · rename_i v
        have hbv := hb 0 v (by simp)
        refine ⟨v, hg, hbv, fun σ w x k hx => ?_⟩
        rw [hcs] at hl hb
        obtain ⟨vals, hv, hvl, hr⟩ := rd_conc k hm hx hl hb
        rw [← hcs] at hv
        simp only [concL] at hv
        cases hc : conc σ v with
        | none => rw [hc] at hv; cases hv
        | some y =>
          rw [hc] at hv; cases hv
          have := hr 0 y (by simp)
          simp only [Nat.add_zero] at this
          exact ⟨y, by simp [loadVar, run_isAgg hE ht, h1, this], rfl⟩
      · cases hg
theorem storeK_spec {t : TypeId} {b o : Nat} {v : AV} {h : AH} {g : AH → Bool} (hk : storeK E t b o v h g = true) :
    ∃ h', g h' = true ∧ ∀ σ w x z, HRel C σ h w → σ b = some x → conc σ v = some z → ∃ w', (storeVar t ⟨x.blk, x.shift + o, none⟩ z).run P w = .ok () w' ∧ HRel C σ h' w' := by
  unfold storeK at hk
  split at hk
  · cases hk
  · rename_i a ht
    obtain ⟨h1, h2⟩ := cond_f hk
    obtain ⟨cs, e, z, m, hg, hm, hl, hs, hp⟩ := wrK_spec h2
    refine ⟨_, hg, fun σ w x y k hx hc => ?_⟩
    have hcc := cells_conc hc
    obtain ⟨w', r1, r2⟩ := wr_sound (P := P) k hm hl hs hp hx hcc
    refine ⟨w', ?_, r2⟩
    have hsz : y.cells.size = a.size := by
      have := concL_length hcc
      rw [beq_eq h1] at this
      simpa using this
    simp [storeVar, run_size hE ht, hsz, r1]
theorem varK_spec {t : TypeId} {v : AV} {h : AH} {g : AV → AH → Bool} (hk : varK E t v h g = true) :
    ∃ b h', g b h' = true ∧ isBad b = false ∧ ∀ σ w z, HRel C σ h w → conc σ v = some z → ∃ σ' w' a, σ.le σ' ∧ (newVar t z).run P w = .ok a w' ∧ HRel C σ' h' w' ∧ conc σ' b = some (.pointer (some a)) := by
  unfold varK at hk
  split at hk
  · cases hk
  · rename_i a ht
    obtain ⟨m, hg, hp⟩ := newK_spec hk
    refine ⟨_, _, hg, rfl, fun σ w z k hc => ?_⟩
    obtain ⟨r1, r2⟩ := new_cells k hp (cells_conc hc) [] 0 (by simp) z.cells (by simp) (fun _ => rfl)
    exact ⟨_, _, ⟨w.heap.size, 0, none⟩, r2, rfl, r1, by simp [conc, Sig.put_same]⟩
theorem partK_spec {t : TypeId} {cs : List AV} {o : Nat} {g : AV → Bool} (hk : partK E t cs o g = true) :
    ∃ v, g v = true ∧ ∀ σ w l, concL σ cs = some l → ∃ z, (part t l.toArray o).run P w = .ok z w ∧ conc σ v = some z := by
  unfold partK at hk
  split at hk
  · cases hk
  · rename_i a ht
    have hd := dropK_spec _ _ _ hk
    rcases cond_eq hd with ⟨h1, h2⟩ | ⟨h1, h2⟩
    · obtain ⟨h3, h4, h5⟩ := takeK_spec _ _ _ h2
      refine ⟨_, h3, fun σ w l hl => ⟨.agg ((l.drop o).take a.size).toArray, ?_, ?_⟩⟩
      · simp only [part, Sem.run_bind, run_isAgg hE ht, h1, Result.andThen_ok, if_true, run_size hE ht, Sem.run_pure]
        congr 2
        apply Array.ext'
        simp [List.extract_eq_take_drop, Nat.add_sub_cancel_left]
      · have : concL σ ((cs.drop o).take a.size) = some ((l.drop o).take a.size) := by
          have hcl := concL_length hl
          refine concL_of_get (by simp; omega) fun i v hi => ?_
          rw [List.getElem?_take, List.getElem?_drop] at hi ⊢
          by_cases hia : i < a.size
          · rw [if_pos hia] at hi ⊢; exact concL_get hl _ _ hi
          · rw [if_neg hia] at hi; cases hi
        simp [conc, this]
    · split at h2
      · rename_i v r hv
        refine ⟨v, h2, fun σ w l hl => ?_⟩
        have hv' : cs[o]? = some v := by
          have := congrArg (fun q => q[0]?) hv
          simpa [List.getElem?_drop] using this
        obtain ⟨y, hy, hc⟩ := concL_get hl _ _ hv'
        exact ⟨y, by simp [part, run_isAgg hE ht, h1, hy], hc⟩
      · cases h2
end
end Go.Refl
end
