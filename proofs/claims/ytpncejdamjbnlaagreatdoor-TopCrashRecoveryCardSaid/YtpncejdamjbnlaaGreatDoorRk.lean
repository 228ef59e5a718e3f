/-
  A part of the proof of TopCrashRecovery: an abstract machine that the kernel runs, and its soundness.
-/
import Derived.Test.YtpncejdamjbnlaaGreatDoorRj
import Derived.LaidHandle
import Derived.LaidMore
set_option linter.all false
section
namespace Go.Refl
open Go.RowKit
def litV : Lit → Value
  | .bool b => .bool b
  | .int k n => .int k n
  | .string bs => .string ⟨bs.toArray⟩
  | _ => .tuple #[]
mutual
def flatD {H : Type} : DataW H → List Value
  | .lit l => [litV l]
  | .agg ds => flatDs ds
  | _ => []
def flatDs {H : Type} : List (DataW H) → List Value
  | [] => []
  | d :: r => flatD d ++ flatDs r
end
def contig (P : Program) (N : Nat) : Nat → List Field → Bool
  | o, [] => Nat.beq o N
  | o, f :: r => Nat.beq f.offset o && contig P N (o + P.cellsOf f.type) r
def solid (P : Program) : Nat → TypeId → Bool
  | 0, _ => false
  | n + 1, t =>
    match P.underlying t with
    | some .bool | some (.int _) | some .string => true
    | some (.array m e) => Nat.beq (P.cellsOf t) (m * P.cellsOf e) && solid P n e
    | some (.struct fs) => contig P (P.cellsOf t) 0 fs.toList && fs.toList.all fun f => solid P n f.type
    | _ => false
theorem chunks_row (cs : List Value) (s : Nat) : ∀ n, (List.range n).flatMap (fun i => (cs.drop (i * s)).take s) = cs.take (n * s)
  | 0 => by simp
  | n + 1 => by
    rw [List.range_succ, List.flatMap_append, chunks_row cs s n, Nat.succ_mul, List.take_add]
    simp
theorem chunks_fields (P : Program) (cs : List Value) : ∀ (fs : List Field) (o : Nat), contig P cs.length o fs = true → fs.flatMap (fun f => (cs.drop f.offset).take (P.cellsOf f.type)) = cs.drop o
  | [], o, h => by
    have := Nat.eq_of_beq_eq_true h
    subst this
    simp
  | f :: r, o, h => by
    simp only [contig, Bool.and_eq_true] at h
    have e := Nat.eq_of_beq_eq_true h.1
    rw [List.flatMap_cons, chunks_fields P cs r _ h.2, e, ← List.drop_drop, List.take_append_drop]
theorem mapM_flat {α H : Type} (f : α → Option (DataW H × List MemPlace)) (chunk : α → List Value) : ∀ (l : List α) (xs : List (DataW H × List MemPlace)), l.mapM f = some xs → (∀ i ∈ l, ∀ y, f i = some y → chunk i = flatD y.1) →
    l.flatMap chunk = flatDs (xs.map (·.1))
  | [], xs, h, _ => by simp at h; subst h; rfl
  | a :: l, xs, h, hf => by
    rw [List.mapM_cons] at h
    cases ha : f a with
    | none => rw [ha] at h; cases h
    | some y =>
      rw [ha] at h
      cases hl : l.mapM f with
      | none => simp [hl] at h
      | some ys =>
        simp [hl] at h
        subst h
        simp only [List.flatMap_cons, List.map_cons, flatDs]
        rw [hf a (by simp) y ha, mapM_flat f chunk l ys hl fun i hi => hf i (by simp [hi])]
theorem trod_flat {H : Type} {enc : TypeId × Value → H} {P : Program} {w : World} {base : Nat} {sp : Nat → Bool} {held : Bool} : ∀ (n : Nat) (fuel : Nat) (t : TypeId) (cs : List Value) (x : DataW H × List MemPlace), solid P n t = true →
    DataW.trod enc P w base sp held fuel t cs = some x → cs = flatD x.1
  | 0, _, _, _, _, h, _ => by cases h
  | n + 1, 0, t, cs, x, _, h => by simp [DataW.trod] at h
  | n + 1, fuel + 1, t, cs, x, hs, h => by
    unfold solid at hs
    unfold DataW.trod at h
    split at hs
    · rename_i ht
      rw [ht] at h
      split at h <;> simp_all
      subst h; rfl
    · rename_i k ht
      rw [ht] at h
      split at h <;> simp_all
      obtain ⟨_, rfl⟩ := h; rfl
    · rename_i ht
      rw [ht] at h
      split at h <;> simp_all
      obtain ⟨_, rfl⟩ := h
      simp [flatD, litV]
    · rename_i m e ht
      rw [ht] at h
      simp only at h
      simp only [Bool.and_eq_true] at hs
      have hc := Nat.eq_of_beq_eq_true hs.1
      split at h
      · rename_i hl
        simp only [Option.map_eq_some_iff] at h
        obtain ⟨xs, h1, rfl⟩ := h
        have := mapM_flat _ (fun i => (cs.drop (i * P.cellsOf e)).take (P.cellsOf e)) _ _ h1 (fun i _ y hy => trod_flat n fuel e _ y hs.2 hy)
        rw [chunks_row, ← hc, ← hl, List.take_length] at this
        exact this
      · cases h
    · rename_i fs ht
      rw [ht] at h
      simp only at h
      simp only [Bool.and_eq_true, List.all_eq_true] at hs
      split at h
      · rename_i hl
        simp only [Option.map_eq_some_iff] at h
        obtain ⟨xs, h1, rfl⟩ := h
        have := mapM_flat _ (fun f => (cs.drop f.offset).take (P.cellsOf f.type)) _ _ h1 (fun f hf y hy => trod_flat n fuel f.type _ y (hs.2 f hf) hy)
        rw [chunks_fields P cs _ 0 (by rw [hl]; exact hs.1)] at this
        rw [List.drop_zero] at this
        exact this
      · cases h
    · cases hs
end Go.Refl
end
section
namespace Go.Refl
open Go.RowKit
def litA : Lit → AV
  | .bool b => .bool b
  | .int k n => .int k n
  | .string bs => .str (bs.map UInt8.toNat)
  | _ => .bad
def convE {H : Type} (datA : DataW H → AV) (z : Lit × DataW H) : AV × AV := (litA z.1, datA z.2)
theorem concE_mk {σ : Sig} {k v : AV} {n : Nat} {es : List (AV × AV × Nat)} {x : MapEntry} {l : List MapEntry} (h1 : conc σ k = some x.key) (h2 : conc σ v = some x.val) (h3 : n = x.born) (h4 : concE σ es = some l) :
    concE σ ((k, v, n) :: es) = some (x :: l) := by
  subst h3
  simp [concE, h1, h2, h4]
theorem entries_conc {σ : Sig} {H : Type} {datA : DataW H → AV} {f : MapEntry → Option ((Lit × DataW H) × List MemPlace)} : ∀ (l : List MapEntry) (xs : List ((Lit × DataW H) × List MemPlace)), l.mapM f = some xs →
    (∀ x ∈ l, ∀ y, f x = some y → conc σ (litA y.1.1) = some x.key ∧ conc σ (datA y.1.2) = some x.val) →
    ∃ es2 : List (AV × AV × Nat), concE σ es2 = some l ∧ es2.map (fun e => (e.1, e.2.1)) = xs.map (fun z => convE datA z.1)
  | [], xs, h, _ => by simp at h; subst h; exact ⟨[], rfl, rfl⟩
  | a :: l, xs, h, hf => by
    rw [List.mapM_cons] at h
    cases ha : f a with
    | none => rw [ha] at h; cases h
    | some y =>
      rw [ha] at h
      cases hl : l.mapM f with
      | none => simp [hl] at h
      | some ys =>
        simp [hl] at h
        subst h
        obtain ⟨es2, h1, h2⟩ := entries_conc l ys hl fun x hx => hf x (by simp [hx])
        obtain ⟨q1, q2⟩ := hf a (by simp) y ha
        exact ⟨(litA y.1.1, datA y.1.2, a.born) :: es2, concE_mk q1 q2 rfl h1, by simp only [List.map_cons, h2, convE]⟩
theorem litA_inj {a b : Lit} (h : litA a = litA b) (hn : litA a ≠ .bad) : a = b := by
  cases a <;> cases b <;> simp_all [litA]
  rename_i x y
  have : ∀ {x y : List UInt8}, x.map UInt8.toNat = y.map UInt8.toNat → x = y := by
    intro x
    induction x with
    | nil => intro y h; cases y <;> simp_all
    | cons a x ih =>
      intro y h
      cases y with
      | nil => simp at h
      | cons b y => simp at h; rw [ih h.2, UInt8.toNat_inj.1 h.1]
  exact this h
theorem mapM_mem {α β : Type} {f : α → Option β} : ∀ (l : List α) (xs : List β), l.mapM f = some xs → ∀ x ∈ l, ∀ y, f x = some y → y ∈ xs
  | [], _, _, x, hx, _, _ => by cases hx
  | a :: l, xs, h, x, hx, y, hy => by
    rw [List.mapM_cons] at h
    cases ha : f a with
    | none => rw [ha] at h; cases h
    | some z =>
      rw [ha] at h
      cases hl : l.mapM f with
      | none => simp [hl] at h
      | some ys =>
        simp [hl] at h
        subst h
        rcases List.mem_cons.1 hx with rfl | hx
        · rw [ha] at hy; cases hy; simp
        · exact List.mem_cons_of_mem _ (mapM_mem l ys hl x hx y hy)
theorem map_read {H : Type} {enc : TypeId × Value → H} {P : Program} {W : World} {base : Nat} {sp : Nat → Bool} {held : Bool} {t k e : TypeId} {fuel : Nat} {cs : List Value} {D : List (Lit × DataW H)} {p : List MemPlace}
    (ht : P.underlying t = some (.map k e)) (h : DataW.trod enc P W base sp held (fuel + 1) t cs = some (.map D, p)) :
    ∃ (b : Nat) (es' : Array MapEntry) (clock : Nat) (xs : List ((Lit × DataW H) × List MemPlace)), cs = [.map (some b)] ∧ W.heap[b]? = some (.map es' clock) ∧
      (es'.toList.mapM fun x => (keyOf P k x.key).bind fun key => if x.val.formed P e then (DataW.trod enc P W base sp held fuel e x.val.cells.toList).map fun y => ((key, y.1), y.2) else none) = some xs ∧
      (xs.map (·.1)).foldr DataW.insert [] = D ∧ DataW.rising ((xs.map (·.1)).foldr DataW.insert []) = true := by
  unfold DataW.trod at h
  rw [ht] at h
  split at h
  all_goals first
    | (rename_i k2 e2 b heq
       have hke : k = k2 ∧ e = e2 := by simpa using heq
       obtain ⟨rfl, rfl⟩ := hke
       split at h
       · rename_i es' clock hb
         split at h
         · simp only [Option.bind_eq_some_iff] at h
           obtain ⟨xs, h1, h2⟩ := h
           split at h2
           · rename_i hris
             simp only [Option.some.injEq, Prod.mk.injEq, DataW.map.injEq] at h2
             exact ⟨b, es', clock, xs, rfl, hb, h1, h2.1, hris⟩
           · cases h2
         · cases h
       · cases h)
    | simp_all
theorem map_or {σ : Sig} {H : Type} {enc : TypeId × Value → H} {P : Program} {W : World} {base : Nat} {sp : Nat → Bool} {held : Bool} {datA : DataW H → AV} {t k e : TypeId} {fuel : Nat} {cs : List Value} {D : List (Lit × DataW H)} {p : List MemPlace} {es : List (AV × AV)}
    (ht : P.underlying t = some (.map k e)) (h : DataW.trod enc P W base sp held fuel t cs = some (.map D, p))
    (hK : ∀ v l, keyOf P k v = some l → conc σ (litA l) = some v) (hV : ∀ fuel v y, v.formed P e = true → DataW.trod enc P W base sp held fuel e v.cells.toList = some y → y.1 ∈ D.map (·.2) → conc σ (datA y.1) = some v)
    (hes : D.map (convE datA) = es) (hkind : (∀ z ∈ es, ∃ s, z.1 = .str s) ∨ (∃ q, ∀ z ∈ es, ∃ n, z.1 = .int q n)) : ∃ b, cs = [.map (some b)] ∧ OR σ ⟨b, 0, 0⟩ W (.lmap es) := by
  cases fuel with
  | zero => simp [DataW.trod] at h
  | succ fuel =>
    obtain ⟨b, es', clock, xs, rfl, hb, h1, hD, hris⟩ := map_read ht h
    have hperm := WideShapes.sorted_perm (xs.map (·.1))
    have hap := WideShapes.apart_of_rising (xs.map (·.1)) hris
    rw [hD] at hperm
    obtain ⟨es2, q1, q2⟩ := entries_conc (σ := σ) (datA := datA) _ _ h1 (by
      intro x hx y hy
      have hmem := mapM_mem _ _ h1 x hx y hy
      simp only [Option.bind_eq_some_iff] at hy
      obtain ⟨key, hkey, hy⟩ := hy
      split at hy
      · rename_i hform
        simp only [Option.map_eq_some_iff] at hy
        obtain ⟨z, hz, rfl⟩ := hy
        refine ⟨hK _ _ hkey, hV fuel _ z hform hz ?_⟩
        have : (key, z.1) ∈ D := hperm.mem_iff.2 (List.mem_map.2 ⟨_, hmem, rfl⟩)
        exact List.mem_map.2 ⟨_, this, rfl⟩
      · cases hy)
    have hperm2 : (es2.map fun e => (e.1, e.2.1)).Perm es := by
      rw [q2, ← hes]
      have := hperm.symm.map (convE datA)
      rw [List.map_map] at this
      exact this
    refine ⟨b, rfl, es', clock, es2, hb, hperm2, ?_, hkind, q1⟩
    have hDap : D.Pairwise (fun p q => p.1 ≠ q.1) := (hperm.pairwise_iff (fun {a b} h => Ne.symm h)).2 hap
    rw [← hes, List.map_map]
    refine List.pairwise_map.2 (hDap.imp_of_mem fun {a b} ha hb hne e => hne ?_)
    refine litA_inj e fun hbad => ?_
    have hz : convE datA a ∈ es := by rw [← hes]; exact List.mem_map.2 ⟨a, ha, rfl⟩
    have hb2 : (convE datA a).1 = .bad := hbad
    rcases hkind with hk | ⟨q, hk⟩
    · obtain ⟨s, hs⟩ := hk _ hz; rw [hs] at hb2; cases hb2
    · obtain ⟨n, hs⟩ := hk _ hz; rw [hs] at hb2; cases hb2
end Go.Refl
end
section
namespace Go.Refl
open Go.RowKit
theorem key_str {σ : Sig} {P : Program} {k : TypeId} (hk : P.underlying k = some .string) : ∀ v l, keyOf P k v = some l → conc σ (litA l) = some v := by
  intro v l h
  simp only [keyOf, hk, mapKey] at h
  cases v <;> simp at h
  rename_i s
  obtain ⟨_, rfl⟩ := h
  simp [litA, conc, byteOk_map, bytesOf_map]
theorem key_int {σ : Sig} {P : Program} {k : TypeId} {q : IntKind} (hk : P.underlying k = some (.int q)) : ∀ v l, keyOf P k v = some l → conc σ (litA l) = some v := by
  intro v l h
  simp only [keyOf, hk, mapKey] at h
  cases v <;> simp at h
  obtain ⟨⟨rfl, _⟩, rfl⟩ := h
  simp [litA, conc]
def datL {H : Type} : DataW H → AV
  | .lit l => litA l
  | _ => .bad
def isScalT (d : TypeDesc) : Bool := match d with | .bool | .int _ | .string => true | _ => false
theorem val_lit {σ : Sig} {H : Type} {enc : TypeId × Value → H} {P : Program} {W : World} {base : Nat} {sp : Nat → Bool} {held : Bool} {e : TypeId} {d : TypeDesc} (he : P.underlying e = some d) (hd : isScalT d = true) :
    ∀ (fuel : Nat) (v : Value) (y : DataW H × List MemPlace), v.formed P e = true → DataW.trod enc P W base sp held fuel e v.cells.toList = some y → conc σ (datL y.1) = some v := by
  intro fuel v y hf h
  cases fuel with
  | zero => simp [DataW.trod] at h
  | succ fuel =>
    unfold DataW.trod at h
    have hv : v.cells.toList = [v] := by
      cases v with
      | agg cs => simp only [Value.formed, he] at hf; cases d <;> simp [isScalT] at hd <;> simp at hf
      | tuple cs => simp [Value.formed] at hf
      | _ => simp [Value.cells]
    rw [hv, he] at h
    cases d <;> simp [isScalT] at hd
    · cases v <;> simp at h
      subst h; simp [datL, litA, conc]
    · cases v <;> simp at h
      obtain ⟨⟨rfl, _⟩, rfl⟩ := h
      simp [datL, litA, conc]
    · cases v <;> simp at h
      obtain ⟨_, rfl⟩ := h
      simp [datL, litA, conc, byteOk_map, bytesOf_map]
def datF (tab : List (List UInt8 × Nat)) : DataW (List UInt8) → AV
  | .held nm => match tab.find? (fun z => z.1 == nm) with | some z => .fn z.2 [] [] | none => .bad
  | _ => .bad
theorem val_func {σ : Sig} {P : Program} {W : World} {base : Nat} {sp : Nat → Bool} {e : TypeId} {ps rs : Array TypeId} {va : Bool} (he : P.underlying e = some (.func ps rs va)) {tab : List (List UInt8 × Nat)}
    (hone : ∀ z ∈ tab, z.1 ≠ [] ∧ ((List.range P.funcs.size).filter fun f => (P.funcs[f]?).any (·.name.toUTF8.data.toList == z.1)) = [z.2]) :
    ∀ (fuel : Nat) (v : Value) (y : DataW (List UInt8) × List MemPlace), v.formed P e = true → DataW.trod (funcToken P) P W base sp true fuel e v.cells.toList = some y → datF tab y.1 ≠ .bad → conc σ (datF tab y.1) = some v := by
  intro fuel v y hf h hbad
  have hv : v.cells.toList = [v] := by
    cases v with
    | agg cs => simp [Value.formed, he] at hf
    | tuple cs => simp [Value.formed] at hf
    | _ => simp [Value.cells]
  rw [hv] at h
  obtain ⟨d, p⟩ := y
  unfold datF at hbad ⊢
  split at hbad
  · rename_i nm heq
    simp only at heq
    subst heq
    cases hfnd : tab.find? (fun z => z.1 == nm) with
    | none => rw [hfnd] at hbad; exact absurd rfl hbad
    | some z =>
      have hz := List.find?_some hfnd
      have hm := List.mem_of_find?_eq_some hfnd
      have hnm : z.1 = nm := by simpa using hz
      obtain ⟨h1, h2⟩ := hone z hm
      subst hnm
      obtain ⟨zb, zf⟩ := z
      cases zb with
      | nil => exact absurd rfl h1
      | cons b r =>
        have := func_of_trod he h2 h
        subst this
        simp [conc, concL]
  · exact absurd rfl hbad
end Go.Refl
end
