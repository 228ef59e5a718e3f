/-
  A part of the proof of TopCrashRecovery: the run of awake: tables, contracts, joining.
-/
import Derived.Test.YtpncejdamjbnlaaGreatDoorTl
import Derived.Test.YtpncejdamjbnlaaGreatDoorTm
set_option linter.all false
section
namespace Go.Refl
open Go.Proofs Go.RowKit
theorem sorted_unique : ∀ {a b : List Int}, a.Pairwise (· ≤ ·) → b.Pairwise (· ≤ ·) → a.Perm b → a = b
  | [], b, _, _, h => h.nil_eq
  | x :: a, [], _, _, h => by have := h.length_eq; simp at this
  | x :: a, y :: b, h1, h2, h => by
    have e1 : x ≤ y := by
      have : y ∈ x :: a := h.mem_iff.2 (by simp)
      rcases List.mem_cons.1 this with e | e
      · omega
      · exact (List.pairwise_cons.1 h1).1 y e
    have e2 : y ≤ x := by
      have : x ∈ y :: b := h.mem_iff.1 (by simp)
      rcases List.mem_cons.1 this with e | e
      · omega
      · exact (List.pairwise_cons.1 h2).1 x e
    have e : x = y := by omega
    subst e
    rw [sorted_unique (List.pairwise_cons.1 h1).2 (List.pairwise_cons.1 h2).2 (List.Perm.cons_inv h)]
theorem insI_ok (x : Int) : ∀ (l : List Int) (g : List Int → Bool), insI x l g = true → ∃ l', g l' = true ∧ l'.Perm (x :: l) ∧ (l.Pairwise (· ≤ ·) → l'.Pairwise (· ≤ ·))
  | [], g, h => ⟨[x], h, .refl _, fun _ => by simp⟩
  | y :: r, g, h => by
    have h' : cond (ltI x y) (g (x :: y :: r)) (insI x r fun l => g (y :: l)) = true := h
    cases e : ltI x y with
    | true =>
      rw [e, cond_true] at h'
      rw [ltI_eq] at e
      have e : x < y := by simpa using e
      refine ⟨_, h', .refl _, fun hp => ?_⟩
      refine List.pairwise_cons.2 ⟨fun z hz => ?_, hp⟩
      rcases List.mem_cons.1 hz with rfl | hz
      · omega
      · have := (List.pairwise_cons.1 hp).1 z hz; omega
    | false =>
      rw [e, cond_false] at h'
      rw [ltI_eq] at e
      have e : ¬ x < y := by simpa using e
      obtain ⟨l', g1, g2, g3⟩ := insI_ok x r _ h'
      refine ⟨_, g1, ((List.Perm.cons y g2).trans (List.Perm.swap _ _ _)), fun hp => ?_⟩
      refine List.pairwise_cons.2 ⟨fun z hz => ?_, g3 (List.pairwise_cons.1 hp).2⟩
      rcases List.mem_cons.1 (g2.mem_iff.1 hz) with rfl | hz
      · omega
      · exact (List.pairwise_cons.1 hp).1 z hz
def keyInt (x : MapEntry) : Int := nOf x.key
theorem keysI_ok : ∀ (es : List (AV × AV × Nat)) (g : List Int → Bool), keysI es g = true → ∃ ks, g ks = true ∧ ks.Pairwise (· ≤ ·) ∧ ∀ σ l, concE σ es = some l → ks.Perm (l.map keyInt)
  | [], g, h => ⟨[], h, .nil, fun σ l hl => by simp [concE] at hl; subst hl; exact .refl _⟩
  | (a, b, m) :: es, g, h => by
    have h' : (match (generalizing := false) a with | .int _ n => keysI es fun l => insI n l g | _ => false) = true := h
    split at h'
    · rename_i k n
      obtain ⟨ks, g1, g2, g3⟩ := keysI_ok es _ h'
      obtain ⟨l', i1, i2, i3⟩ := insI_ok n ks _ g1
      refine ⟨l', i1, i3 g2, fun σ l hl => ?_⟩
      obtain ⟨kk, v, l2, h1, h2, h3, rfl⟩ := concE_cons' hl
      have := conc_int h1
      subst this
      exact i2.trans (.cons _ (g3 σ l2 h3))
    · cases h'
theorem mapI_ok : ∀ (l : List Int) (g : List AV → Bool), mapI l g = true → g (l.map (AV.int .i64)) = true
  | [], g, h => h
  | n :: l, g, h => by
    have h' : (mapI l fun r => g (.int .i64 n :: r)) = true := h
    exact mapI_ok l _ h'
theorem freshI_ok {σ : Sig} {n : Int} {m : Nat} : ∀ (es : List (AV × AV × Nat)) (l : List MapEntry), freshI n m es = true → concE σ es = some l → ∀ x ∈ l, x.born ≠ m ∧ x.key ≠ .int .i64 n
  | [], l, _, hl, x, hx => by simp [concE] at hl; subst hl; cases hx
  | (a, b, j) :: es, l, hf, hl, x, hx => by
    have hf' : (match (generalizing := false) a with | .int .i64 k => cond (Nat.beq j m) false (cond (eqI k n) false (freshI n m es)) | _ => false) = true := hf
    obtain ⟨k, v, l', h1, h2, h3, rfl⟩ := concE_cons' hl
    split at hf'
    · rename_i q
      obtain ⟨g1, hf1⟩ := cond_t hf'
      obtain ⟨g2, hf2⟩ := cond_t hf1
      have := conc_int h1
      subst this
      rcases List.mem_cons.1 hx with rfl | hx
      · refine ⟨beq_no g1, fun e => ?_⟩
        rw [eqI_eq] at g2
        simp only [Value.int.injEq, true_and] at e
        subst e; simp at g2
      · exact freshI_ok es l' hf2 h3 x hx
    · cases hf'
theorem stampI_ok {σ : Sig} {clock : Nat} : ∀ (es : List (AV × AV × Nat)) (l : List MapEntry), stampI clock es = true → concE σ es = some l →
    ((∀ x ∈ l, x.born < clock) ∧ (l.map (·.born)).Nodup ∧ (l.map (·.key)).Nodup) ∧ ∀ x ∈ l, ∃ n, x.key = .int .i64 n ∧ inI n = true
  | [], l, _, hl => by simp [concE] at hl; subst hl; simp
  | (a, b, m) :: es, l, hf, hl => by
    have hf' : (match (generalizing := false) a with | .int .i64 n => cond (inI n) (cond (Nat.ble (Nat.succ m) clock) (cond (freshI n m es) (stampI clock es) false) false) false | _ => false) = true := hf
    obtain ⟨k, v, l', h1, h2, h3, rfl⟩ := concE_cons' hl
    split at hf'
    · rename_i q
      obtain ⟨g0, hf0⟩ := cond_f hf'
      obtain ⟨g1, hf1⟩ := cond_f hf0
      obtain ⟨g2, hf2⟩ := cond_f hf1
      have := conc_int h1
      subst this
      obtain ⟨⟨q1, q2, q3⟩, q4⟩ := stampI_ok es l' hf2 h3
      have hfr := freshI_ok es l' g2 h3
      refine ⟨⟨fun x hx => ?_, ?_, ?_⟩, fun x hx => ?_⟩
      · rcases List.mem_cons.1 hx with rfl | hx
        · exact ble_eq g1
        · exact q1 x hx
      · simp only [List.map_cons, List.nodup_cons, List.mem_map, not_exists, not_and]
        exact ⟨fun x hx => (hfr x hx).1, q2⟩
      · simp only [List.map_cons, List.nodup_cons, List.mem_map, not_exists, not_and]
        exact ⟨fun x hx => (hfr x hx).2, q3⟩
      · rcases List.mem_cons.1 hx with rfl | hx
        · exact ⟨_, rfl, g0⟩
        · exact q4 x hx
    · cases hf'
theorem inI_wf {n : Int} (h : inI n = true) : (Lit.int .i64 n).wf = true := by
  unfold inI at h
  have e1 : IntKind.i64.min = -9223372036854775808 := rfl
  have e2 : IntKind.i64.max = 9223372036854775807 := rfl
  simp only [Lit.wf, e1, e2, Bool.and_eq_true, decide_eq_true_eq]
  split at h
  · have := ble_eq h; constructor <;> simp <;> omega
  · have := ble_eq h; constructor <;> omega
theorem HRel.adopt {C : Ctx} {σ : Sig} {h : AH} {w w' : World} (k : HRel C σ h w) (hb : Below w.heap.size w w') {m : Tr AO} {ao : AO} (hm : h.m.Put h.nx ao m) {g extra : Nat} (hg : w.heap.size ≤ g)
    (hor : OR (σ.put h.nx ⟨g, 0, extra⟩) ⟨g, 0, extra⟩ w' ao) : HRel C (σ.put h.nx ⟨g, 0, extra⟩) ⟨m, h.nx + 1⟩ w' := by
  have hn : σ h.nx = none := k.fresh _ (Nat.le_refl _)
  have hle := Sig.sub_put (b := h.nx) ⟨g, 0, extra⟩ hn
  have old : ∀ c p y, h.m.get c = some p → σ c = some y → p.owns = true → y.blk < w.heap.size := fun c p y h1 h2 h3 => (k.obj c p y h1 h2).lt h3
  have hget : ∀ c p, m.get c = some p → c ≠ h.nx → h.m.get c = some p := fun c p h1 h2 => by rw [hm c, if_neg h2] at h1; exact h1
  refine ⟨k.below.trans (hb.mono k.base), Nat.le_trans k.base hb.size, fun n hn' => hle n _ (k.glob n hn'), fun c hc => ?_, (by have := k.nx; simp only [Sig.put]; omega), fun c p y h1 h2 => ?_, fun c p y h1 h2 h3 h4 => ?_, fun c d p q y z h1 h2 h3 h4 hne h5 h6 => ?_⟩
  · have hc : h.nx + 1 ≤ c := hc
    rw [Sig.put_other _ (by omega)]; exact k.fresh c (by omega)
  · by_cases e : c = h.nx
    · subst e; rw [Sig.put_same] at h2; cases h2; rw [hm, if_pos rfl] at h1; cases h1; exact hor
    · rw [Sig.put_other _ e] at h2
      have h1 := hget c p h1 e
      by_cases hd : p.owns = true
      · exact (k.obj c p y h1 h2).mono hle (hb.block _ (old c p y h1 h2 hd))
      · exact (k.obj c p y h1 h2).ownless hle (by simpa using hd)
  · by_cases e : c = h.nx
    · subst e; rw [Sig.put_same] at h2; cases h2; exact Nat.le_trans k.base hg
    · rw [Sig.put_other _ e] at h2; exact k.own c p y (hget c p h1 e) h2 h3 h4
  · by_cases e : c = h.nx
    · subst e; rw [Sig.put_same] at h3; cases h3
      rw [Sig.put_other _ (Ne.symm hne)] at h4
      have := old d q z (hget d q h2 (Ne.symm hne)) h4 h6
      simp; omega
    · rw [Sig.put_other _ e] at h3
      have h1 := hget c p h1 e
      by_cases e2 : d = h.nx
      · subst e2; rw [Sig.put_same] at h4; cases h4
        have := old c p y h1 h3 h5
        simp; omega
      · rw [Sig.put_other _ e2] at h4; exact k.apart c d p q y z h1 (hget d q h2 e2) h3 h4 hne h5 h6
end Go.Refl
end
section
namespace Go.Refl
open Go.Proofs Go.RowKit
theorem length_sorted' {H : Type} (l : List (Lit × DataW H)) : (l.foldr DataW.insert []).length = l.length := (WideShapes.sorted_perm l).length_eq
theorem keyOf_int {n : Int} (h : inI n = true) : keyOf Tryz.prog 3 (.int .i64 n) = some (.int .i64 n) := by
  have hk : Tryz.prog.underlying 3 = some (.int .i64) := Tryz.underlying3
  simp [keyOf, mapKey, hk, inI_wf h]
theorem ints_sorted (ss ks : List Int) (h1 : ks.Pairwise (· ≤ ·)) (h2 : ks.Perm ss) : ss.mergeSort (fun x y => decide (x ≤ y)) = ks := by
  refine sorted_unique ?_ h1 ((List.mergeSort_perm ss _).trans h2.symm)
  have := List.pairwise_mergeSort (le := fun x y : Int => decide (x ≤ y)) (fun a b c h1 h2 => by simp at h1 h2 ⊢; omega) (fun a b => by simp; omega) ss
  exact this.imp (fun h => by simpa using h)
theorem sort_ok : SortOk := by
  intro C hC b h g hk
  have hent : ∀ w xs, (callFunc 311 xs).run Tryz.prog w = .ok (.enter 311 xs) w := fun w xs => enters_of Tryz.func311 (by kernel_rfl) rfl _ _
  unfold sortK at hk
  split at hk
  · rename_i c e z ro hm
    obtain ⟨hz, hk1⟩ := cond_f hk
    have hz := beq_eq hz
    subst hz
    split at hk1
    · rename_i es clock ro2 hmc
      obtain ⟨hlen, hk2⟩ := cond_f hk1
      obtain ⟨hst, hk3⟩ := cond_f hk2
      have hlen := ble_eq hlen
      obtain ⟨ks, hg, hsorted, hperm⟩ := keysI_ok es _ hk3
      have walk : ∀ (σ : Sig) (w : World) (vals : List Value), HRel C σ h w → ARel σ [.fn 358 [] [.ptr b 0]] vals → CallsIn Fence.wide 0 Tryz.prog 311 vals.toArray w fun e w' => ∃ v : Value, e = .returned v ∧
          w'.ownsRow w.heap.size 3 1 v ks.length (ks.map (Value.int .i64)) ∧ (v = .slice none 0 0 ↔ ks = []) ∧ Below w.heap.size w w' := fun σ w vals k ha => by
        obtain ⟨x, rfl, hx⟩ := ha.one
        obtain ⟨y, hy, rfl⟩ : ∃ y, σ b = some y ∧ x = .func (.func 358) #[] #[.pointer (some ⟨y.blk, y.shift + 0, none⟩)] := by
          have := VR.conc hx (by simp)
          simp only [conc, concL, Option.bind_some, Option.map_some, Option.bind_eq_some_iff, Option.map_eq_some_iff] at this
          obtain ⟨l, ⟨_, ⟨y, hy, rfl⟩, h2⟩, rfl⟩ := this
          cases h2
          exact ⟨y, hy, rfl⟩
        obtain ⟨arr, fz, a1, a2, a3, a4, a5⟩ := k.obj b _ y hm hy
        obtain ⟨hsh, hsz⟩ := a5 rfl
        rw [hsh] at a3
        rw [hsh]
        obtain ⟨yc, hyc, c0⟩ : ∃ yc, σ c = some yc ∧ arr[0]? = some (.map (some yc.blk)) := by
          rcases a3 0 _ rfl with hb | ⟨z, h1, h2⟩
          · cases hb
          · simp only [conc, Option.map_eq_some_iff] at h2
            obtain ⟨yc, hyc, rfl⟩ := h2
            exact ⟨yc, hyc, by simpa using h1⟩
        obtain ⟨es', q1, q2⟩ := k.obj c _ yc hmc hyc
        obtain ⟨r1, r2⟩ := stampI_ok es _ hst q2
        have hsize : es'.size = es.length := by
          have := concE_length q2; simpa using this
        let R : Value → Option (DataW Unit × List MemPlace) := fun _ => some (.nil, [])
        have hrd : ∀ x ∈ es'.toList, WideElems.rd Tryz.prog 3 R x = some (.int .i64 (keyInt x), .nil) := fun x hx => by
          obtain ⟨n, hn, hi⟩ := r2 x hx
          simp [WideElems.rd, hn, keyOf_int hi, R, keyInt, nOf]
        have hFit : WideElems.Fit Tryz.prog 3 R es' clock := ⟨by unfold maxLen; omega, r1, fun x hx => ⟨_, hrd x hx⟩⟩
        have hmap : es'.toList.map (WideElems.rg Tryz.prog 3 R) = es'.toList.map (fun x => ((.int .i64 (keyInt x), .nil) : Lit × DataW Unit)) :=
          List.map_congr_left fun x hx => by simp [WideElems.rg, hrd x hx]
        have hown : w.ownsMap Tryz.prog 3 R yc.blk es'.size (.map ((es'.toList.map (WideElems.rg Tryz.prog 3 R)).foldr DataW.insert [])) := ⟨es', clock, q1, hFit, Nat.le_refl _, rfl⟩
        have hsz2 : Maps.size (DataW.map ((es'.toList.map (WideElems.rg Tryz.prog 3 R)).foldr DataW.insert []) : DataW Unit) = es.length := by
          show (List.foldr DataW.insert [] _).length = _
          rw [length_sorted']; simp [hsize]
        have hcall := Tryz.sorted y.blk yc.blk es'.size _ R w ((Array.getElem?_eq_some_iff.1 a1).1) (by rw [cell_of a1]; exact c0) hown (by rw [hsz2]; unfold maxLen; omega) (by rw [hsz2]; omega)
        refine hcall.mono ?_
        rintro e w' ⟨v, ss, rfl, hp, hrow, hnil, hb⟩
        have hp2 : ss.Perm (es'.toList.map keyInt) := by
          refine hp.trans ?_
          simp only [intKeys]
          refine ((WideShapes.sorted_perm _).map _).trans ?_
          rw [hmap, List.map_map]
          exact .refl _
        have hks := (hperm σ _ q2).trans hp2.symm
        rw [ints_sorted ss ks hsorted hks, ← hks.length_eq] at hrow
        exact ⟨v, rfl, hrow, hnil.trans ⟨fun e => by subst e; exact hks.eq_nil, fun e => by subst e; exact hks.symm.eq_nil⟩, hb⟩
      split at hg
      · refine ⟨_, _, hg, hent, fun σ w vals k ha => (walk σ w vals k ha).mono ?_⟩
        rintro e w' ⟨v, rfl, hrow, hnil, hb⟩
        have := hnil.2 rfl
        subst this
        exact ⟨_, σ, rfl, Sig.le.refl σ, k.junk hb, .inr rfl⟩
      · rename_i k0 kr
        have hg2 := mapI_ok _ _ hg
        rw [fn_eq] at hg2
        obtain ⟨m, hg3, hput⟩ := newK_spec hg2
        refine ⟨_, _, hg3, hent, fun σ w vals k ha => (walk σ w vals k ha).mono ?_⟩
        rintro e w' ⟨v, rfl, hrow, hnil, hb⟩
        obtain ⟨hl, hrow⟩ := hrow
        rcases hrow with ⟨hv, _⟩ | ⟨g0, cap, cur, rfl, hbase, hheap, hcap, hcm, hcs, htake⟩
        · have := hnil.1 hv; cases this
        · have hle := k.lp ⟨g0, 0, cap - (k0 :: kr).length⟩
          refine ⟨_, _, rfl, hle, k.adopt hb hput hbase ?_, .inr ?_⟩
          · refine ⟨cur, (0, 0), hheap, by simp only [List.length_map]; omega, fun i v hv => .inr ?_, fun _ => .inl rfl, fun e => by cases e⟩
            rw [List.getElem?_map] at hv
            cases hki : (k0 :: kr)[i]? with
            | none => rw [hki] at hv; cases hv
            | some n =>
              rw [hki] at hv; cases hv
              refine ⟨.int .i64 n, ?_, rfl⟩
              have hi : i < (k0 :: kr).length := (List.getElem?_eq_some_iff.1 hki).1
              have : (cur.toList.take ((k0 :: kr).length * 1))[i]? = some (.int .i64 n) := by rw [htake, List.getElem?_map, hki]; rfl
              rw [List.getElem?_take, if_pos (by omega)] at this
              simpa using this
          · have : (k0 :: kr).length + (cap - (k0 :: kr).length) = cap := by omega
            simp only [conc, Sig.put_same, Option.map_some, if_true, this]
    · cases hk1
  · cases hk
end Go.Refl
end
