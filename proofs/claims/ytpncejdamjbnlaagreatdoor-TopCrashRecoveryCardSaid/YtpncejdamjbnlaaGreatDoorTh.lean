/-
  A part of the proof of TopCrashRecovery: the run of awake: tables, contracts, joining.
-/
import Derived.Test.YtpncejdamjbnlaaGreatDoorTb
import Derived.Test.YtpncejdamjbnlaaGreatDoorTd
import Derived.Test.YtpncejdamjbnlaaGreatDoorTe
import Derived.Test.YtpncejdamjbnlaaGreatDoorTg
import Derived.CallsIn
import Derived.KernelRfl
set_option linter.all false
section
namespace Go.Refl
open Go.Proofs Go.RowKit
def Good (C : Ctx) : Prop := C.G = 19 ∧ 11 < C.B ∧ ∃ m, C.w0.cell? ⟨11, 0, none⟩ = some (.int .i64 m)
theorem cell_below {B : Nat} {w w' : World} (h : Below B w w') {b o : Nat} (hb : b < B) : w'.cell? ⟨b, o, none⟩ = w.cell? ⟨b, o, none⟩ := by
  simp only [World.cell?, h.block b hb]
theorem Good.stays (C : Ctx) (w : World) (h : Good C) (hs : C.B ≤ w.heap.size) (hb : Below C.B C.w0 w) : Good ⟨C.G, w.heap.size, w⟩ := by
  obtain ⟨h0, h1, m, hm⟩ := h
  exact ⟨h0, Nat.lt_of_lt_of_le h1 hs, m, (cell_below hb h1).trans hm⟩
theorem Good.cell {C : Ctx} (h : Good C) {σ : Sig} {a : AH} {w : World} (k : HRel C σ a w) : ∃ m, w.cell? ⟨11, 0, none⟩ = some (.int .i64 m) := by
  obtain ⟨_, h1, m, hm⟩ := h
  exact ⟨m, (cell_below k.below h1).trans hm⟩
theorem ofNat_inj {a b : Nat} (ha : a ≤ 255) (hb : b ≤ 255) (h : UInt8.ofNat a = UInt8.ofNat b) : a = b := by
  have := congrArg UInt8.toNat h
  simp at this; omega
theorem beq_no {a b : Nat} (h : Nat.beq a b = false) : a ≠ b := Nat.ne_of_beq_eq_false h
theorem preS_no : ∀ (t s : List Nat), byteOk t = true → byteOk s = true → preS t s = false → (t.map UInt8.ofNat).isPrefixOf (s.map UInt8.ofNat) = false
  | [], s, _, _, h => by cases h
  | x :: t, [], _, _, _ => rfl
  | x :: t, y :: s, ht, hs, h => by
    have h' : cond (Nat.beq x y) (preS t s) false = false := h
    simp only [byteOk, Bool.and_eq_true] at ht hs
    simp only [List.map_cons, List.isPrefixOf, Bool.and_eq_false_iff]
    cases e : Nat.beq x y with
    | true =>
      rw [e, cond_true] at h'
      exact .inr (preS_no t s ht.2 hs.2 h')
    | false =>
      left
      have := beq_no e
      simp only [beq_eq_false_iff_ne]
      exact fun he => this (ofNat_inj (ble_eq ht.1) (ble_eq hs.1) he)
theorem occS_no : ∀ (s t : List Nat), byteOk t = true → byteOk s = true → occS t s = false → Lib.index (s.map UInt8.ofNat) (t.map UInt8.ofNat) = -1
  | [], t, ht, hs, h => by
    have h' : preS t [] = false := h
    cases t with
    | nil => cases h'
    | cons x t => rfl
  | x :: s, t, ht, hs, h => by
    have h' : cond (preS t (x :: s)) true (occS t s) = false := h
    cases e : preS t (x :: s) with
    | true => rw [e] at h'; cases h'
    | false =>
      rw [e, cond_false] at h'
      have h1 := preS_no t (x :: s) ht hs e
      have hs2 : byteOk s = true := by simp only [byteOk, Bool.and_eq_true] at hs; exact hs.2
      have h2 := occS_no s t ht hs2 h'
      simp only [List.map_cons] at h1 ⊢
      simp only [Lib.index, h1, h2]
      rfl
theorem ARel.two {σ : Sig} {a b : AV} {vals : List Value} (h : ARel σ [a, b] vals) : ∃ x y, vals = [x, y] ∧ VR σ a x ∧ VR σ b y := by
  obtain ⟨h1, h2⟩ := h
  match vals, h1 with
  | [x, y], _ => exact ⟨x, y, rfl, h2 0 a x rfl rfl, h2 1 b y rfl rfl⟩
theorem ARel.one {σ : Sig} {a : AV} {vals : List Value} (h : ARel σ [a] vals) : ∃ x, vals = [x] ∧ VR σ a x := by
  obtain ⟨h1, h2⟩ := h
  match vals, h1 with
  | [x], _ => exact ⟨x, rfl, h2 0 a x rfl rfl⟩
theorem VR.str {σ : Sig} {s : List Nat} {x : Value} (h : VR σ (.str s) x) : byteOk s = true ∧ x = .string (bytesOf s) := by
  have this : Refl.conc σ _ = some x := h.conc (by simp)
  simp only [Refl.conc] at this
  split at this
  · rename_i hb; cases this; exact ⟨hb, rfl⟩
  · cases this
theorem VR.int {σ : Sig} {k : IntKind} {n : Int} {x : Value} (h : VR σ (.int k n) x) : x = .int k n := by
  have this : Refl.conc σ _ = some x := h.conc (by simp)
  simp only [Refl.conc] at this; cases this; rfl
theorem idx_ok {C : Ctx} (hC : Good C) {s t : List Nat} {h : AH} {g : AV → AH → Bool} (hk : idxK s t h g = true) : ∃ v h', g v h' = true ∧ CallOk Tryz.prog C 227 [.str s, .str t] h v h' := by
  unfold idxK at hk
  obtain ⟨hlen, hk⟩ := cond_f hk
  obtain ⟨hocc, hk⟩ := cond_t hk
  refine ⟨_, _, hk, fun w xs => enters_of Tryz.func227 (by kernel_rfl) rfl _ _, fun σ w vals k ha => ?_⟩
  obtain ⟨x, y, rfl, hx, hy⟩ := ha.two
  obtain ⟨b1, rfl⟩ := hx.str
  obtain ⟨b2, rfl⟩ := hy.str
  obtain ⟨m, hm⟩ := hC.cell k
  refine callsIn_wide.2 ((Tryz.strings_Index (bytesOf s) (bytesOf t) m w (by rw [bytesOf_size]; have := ble_eq hlen; omega) hm).mono ?_)
  rintro e w' ⟨rfl, rfl⟩
  refine ⟨_, σ, rfl, Sig.le.refl σ, k, .inr ?_⟩
  have e1 : (bytesOf s).data.toList = s.map UInt8.ofNat := by simp [bytesOf]
  have e2 : (bytesOf t).data.toList = t.map UInt8.ofNat := by simp [bytesOf]
  rw [e1, e2, occS_no s t b2 b1 hocc]
  rfl
end Go.Refl
end
section
namespace Go.Refl
open Go.Proofs Go.RowKit
theorem concE_cons' {σ : Sig} {e : AV × AV × Nat} {es : List (AV × AV × Nat)} {l : List MapEntry} (h : concE σ (e :: es) = some l) :
    ∃ k v l', conc σ e.1 = some k ∧ conc σ e.2.1 = some v ∧ concE σ es = some l' ∧ l = { key := k, val := v, born := e.2.2 } :: l' := by
  obtain ⟨a, b, n⟩ := e
  simp only [concE] at h
  cases hk : conc σ a with
  | none => rw [hk] at h; cases h
  | some k =>
    cases hv : conc σ b with
    | none => rw [hk, hv] at h; cases h
    | some v =>
      cases hl : concE σ es with
      | none => rw [hk, hv, hl] at h; cases h
      | some l' => rw [hk, hv, hl] at h; cases h; exact ⟨k, v, l', rfl, rfl, rfl, rfl⟩
theorem conc_str {σ : Sig} {s : List Nat} {x : Value} (h : conc σ (.str s) = some x) : byteOk s = true ∧ x = .string (bytesOf s) := by
  simp only [conc] at h
  split at h
  · rename_i hb; cases h; exact ⟨hb, rfl⟩
  · cases h
theorem conc_int {σ : Sig} {k : IntKind} {n : Int} {x : Value} (h : conc σ (.int k n) = some x) : x = .int k n := by
  simp only [conc] at h; cases h; rfl
theorem eqW_self : ∀ s : List Nat, eqW s s = true
  | [] => rfl
  | x :: s => by
    show cond (Nat.beq x x) (eqW s s) false = true
    rw [eqW_self s, Nat.beq_refl]; rfl
theorem freshE_ok {σ : Sig} {s : List Nat} {n : Nat} (hs : byteOk s = true) : ∀ (es : List (AV × AV × Nat)) (l : List MapEntry), freshE s n es = true → concE σ es = some l →
    ∀ x ∈ l, x.born ≠ n ∧ x.key ≠ .string (bytesOf s)
  | [], l, _, hl, x, hx => by simp [concE] at hl; subst hl; cases hx
  | (a, b, m) :: es, l, hf, hl, x, hx => by
    have hf' : (match (generalizing := false) a with | .str t => cond (Nat.beq m n) false (cond (eqW s t) false (freshE s n es)) | _ => false) = true := hf
    obtain ⟨k, v, l', h1, h2, h3, rfl⟩ := concE_cons' hl
    cases a with
    | str t =>
      simp only at hf'
      obtain ⟨g1, hf'⟩ := cond_t hf'
      obtain ⟨g2, hf'⟩ := cond_t hf'
      obtain ⟨hb, rfl⟩ := conc_str h1
      rcases List.mem_cons.1 hx with rfl | hx
      · refine ⟨beq_no g1, fun e => ?_⟩
        simp only [Value.string.injEq] at e
        have := bytesOf_inj hb hs e
        subst this
        rw [eqW_self] at g2; cases g2
      · exact freshE_ok hs es l' hf' h3 x hx
    | _ => cases hf'
theorem stampE_ok {σ : Sig} {clock : Nat} : ∀ (es : List (AV × AV × Nat)) (l : List MapEntry), stampE clock es = true → concE σ es = some l →
    ((∀ x ∈ l, x.born < clock) ∧ (l.map (·.born)).Nodup ∧ (l.map (·.key)).Nodup) ∧ ∀ x ∈ l, ∃ s, byteOk s = true ∧ x.key = .string (bytesOf s)
  | [], l, _, hl => by simp [concE] at hl; subst hl; simp
  | (a, b, m) :: es, l, hf, hl => by
    have hf' : (match (generalizing := false) a with | .str s => cond (Nat.ble (Nat.succ m) clock) (cond (freshE s m es) (stampE clock es) false) false | _ => false) = true := hf
    obtain ⟨k, v, l', h1, h2, h3, rfl⟩ := concE_cons' hl
    cases a with
    | str t =>
      simp only at hf'
      obtain ⟨g1, hf'⟩ := cond_f hf'
      obtain ⟨g2, hf'⟩ := cond_f hf'
      obtain ⟨hb, rfl⟩ := conc_str h1
      obtain ⟨⟨q1, q2, q3⟩, q4⟩ := stampE_ok es l' hf' h3
      have hfr := freshE_ok hb es l' g2 h3
      refine ⟨⟨fun x hx => ?_, ?_, ?_⟩, fun x hx => ?_⟩
      · rcases List.mem_cons.1 hx with rfl | hx
        · exact ble_eq g1
        · exact q1 x hx
      · simp only [List.map_cons, List.nodup_cons, List.mem_map, not_exists, not_and]
        exact ⟨fun x hx => (hfr x hx).1, q2⟩
      · simp only [List.map_cons, List.nodup_cons, List.mem_map, not_exists, not_and]
        exact ⟨fun x hx => (hfr x hx).2, q3⟩
      · rcases List.mem_cons.1 hx with rfl | hx
        · exact ⟨t, hb, rfl⟩
        · exact q4 x hx
    | _ => cases hf'
theorem noneV_ok {σ : Sig} {n : Int} : ∀ (es : List (AV × AV × Nat)) (l : List MapEntry), noneV n es = true → concE σ es = some l → ∀ x ∈ l, (∃ v, x.val = .int .i64 v) ∧ nOf x.val ≠ n
  | [], l, _, hl, x, hx => by simp [concE] at hl; subst hl; cases hx
  | (a, b, m) :: es, l, hf, hl, x, hx => by
    have hf' : (match (generalizing := false) b with | .int .i64 m => cond (eqI m n) false (noneV n es) | _ => false) = true := hf
    obtain ⟨k, v, l', h1, h2, h3, rfl⟩ := concE_cons' hl
    split at hf'
    · rename_i j
      obtain ⟨g1, hf'⟩ := cond_t hf'
      have := conc_int h2
      subst this
      rcases List.mem_cons.1 hx with rfl | hx
      · refine ⟨⟨j, rfl⟩, ?_⟩
        rw [eqI_eq] at g1
        simpa [nOf] using g1
      · exact noneV_ok es l' hf' h3 x hx
    · cases hf'
theorem findV_ok {n : Int} {g : AV → Bool} {z : Unit → Bool} : ∀ (es : List (AV × AV × Nat)), findV n es g z = true →
    (∀ σ l, concE σ es = some l → ∀ x ∈ l, ∃ v, x.val = .int .i64 v) ∧ ((∃ k, g k = true ∧ ∀ σ l, concE σ es = some l → (∃ x ∈ l, nOf x.val = n) ∧ ∀ x ∈ l, nOf x.val = n → conc σ k = some x.key) ∨
      (z () = true ∧ ∀ σ l, concE σ es = some l → ∀ x ∈ l, nOf x.val ≠ n))
  | [], hz => ⟨fun σ l hl x hx => by (simp [concE] at hl; subst hl; cases hx), .inr ⟨hz, fun σ l hl x hx => by (simp [concE] at hl; subst hl; cases hx)⟩⟩
  | (a, b, m) :: es, hf => by
    have hf' : (match (generalizing := false) b with | .int .i64 m => cond (eqI m n) (cond (noneV n es) (g a) false) (findV n es g z) | _ => false) = true := hf
    split at hf'
    · rename_i j
      cases hj : eqI j n with
      | true =>
        rw [hj, cond_true] at hf'
        obtain ⟨g1, hf2⟩ := cond_f hf'
        rw [eqI_eq] at hj
        have hj : j = n := by simpa using hj
        subst hj
        refine ⟨fun σ l hl x hx => ?_, .inl ⟨a, hf2, fun σ l hl => ?_⟩⟩
        · obtain ⟨k, v, l', h1, h2, h3, rfl⟩ := concE_cons' hl
          have := conc_int h2
          subst this
          rcases List.mem_cons.1 hx with rfl | hx
          · exact ⟨_, rfl⟩
          · exact (noneV_ok es l' g1 h3 x hx).1
        · obtain ⟨k, v, l', h1, h2, h3, rfl⟩ := concE_cons' hl
          have := conc_int h2
          subst this
          refine ⟨⟨_, List.mem_cons_self, rfl⟩, fun x hx he => ?_⟩
          rcases List.mem_cons.1 hx with rfl | hx
          · exact h1
          · exact absurd he (noneV_ok es l' g1 h3 x hx).2
      | false =>
        rw [hj, cond_false] at hf'
        obtain ⟨i1, i2⟩ := findV_ok es hf'
        rw [eqI_eq] at hj
        have hj : j ≠ n := by simpa using hj
        refine ⟨fun σ l hl x hx => ?_, ?_⟩
        · obtain ⟨k, v, l', h1, h2, h3, rfl⟩ := concE_cons' hl
          have := conc_int h2
          subst this
          rcases List.mem_cons.1 hx with rfl | hx
          · exact ⟨_, rfl⟩
          · exact i1 σ l' h3 x hx
        · rcases i2 with ⟨q, q1, q2⟩ | ⟨q1, q2⟩
          · refine .inl ⟨q, q1, fun σ l hl => ?_⟩
            obtain ⟨k, v, l', h1, h2, h3, rfl⟩ := concE_cons' hl
            have := conc_int h2
            subst this
            obtain ⟨⟨x0, q3, q4⟩, q5⟩ := q2 σ l' h3
            refine ⟨⟨x0, List.mem_cons_of_mem _ q3, q4⟩, fun x hx he => ?_⟩
            rcases List.mem_cons.1 hx with rfl | hx
            · exact absurd he hj
            · exact q5 x hx he
          · refine .inr ⟨q1, fun σ l hl x hx => ?_⟩
            obtain ⟨k, v, l', h1, h2, h3, rfl⟩ := concE_cons' hl
            have := conc_int h2
            subst this
            rcases List.mem_cons.1 hx with rfl | hx
            · exact hj
            · exact q2 σ l' h3 x hx
    · cases hf'
theorem HRel.junk {C : Ctx} {σ : Sig} {h : AH} {w w' : World} (k : HRel C σ h w) (hb : Below w.heap.size w w') : HRel C σ h w' := by
  have old : ∀ c p y, h.m.get c = some p → σ c = some y → p.owns = true → w'.heap[y.blk]? = w.heap[y.blk]? := fun c p y h1 h2 h3 => hb.block _ ((k.obj c p y h1 h2).lt h3)
  refine ⟨k.below.trans (hb.mono k.base), Nat.le_trans k.base hb.size, k.glob, k.fresh, k.nx, fun c p y h1 h2 => ?_, k.own, k.apart⟩
  by_cases hd : p.owns = true
  · exact (k.obj c p y h1 h2).mono (Sig.le.refl σ) (old c p y h1 h2 hd)
  · exact (k.obj c p y h1 h2).ownless (Sig.le.refl σ) (by simpa using hd)
theorem VR.map_at {σ : Sig} {b : Nat} {x : Value} (h : VR σ (.map b) x) : ∃ y, σ b = some y ∧ x = .map (some y.blk) := by
  have := VR.conc h (by simp)
  simp only [Refl.conc, Option.map_eq_some_iff] at this
  obtain ⟨y, hy, e⟩ := this
  exact ⟨y, hy, e.symm⟩
theorem of_ok {C : Ctx} {b : Nat} {n : Int} {h : AH} {g : AV → AH → Bool} (hk : ofK b n h g = true) : ∃ v h', g v h' = true ∧ CallOk Tryz.prog C 219 [.map b, .int .i64 n] h v h' := by
  unfold ofK at hk
  split at hk
  · rename_i es clock ro hm
    obtain ⟨hst, hk⟩ := cond_f hk
    have hent : ∀ w xs, (callFunc 219 xs).run Tryz.prog w = .ok (.enter 219 xs) w := fun w xs => enters_of Tryz.func219 (by kernel_rfl) rfl _ _
    have walk : ∀ (σ : Sig) (w : World) (vals : List Value), HRel C σ h w → ARel σ [.map b, .int .i64 n] vals → ∃ es' : Array MapEntry, concE σ es = some es'.toList ∧
        CallsIn Fence.wide 0 Tryz.prog 219 vals.toArray w fun e w' => HRel C σ h w' ∧ ∃ s, e = .returned (.string s) ∧ ((∃ x ∈ es'.toList, x.key = .string s ∧ nOf x.val = n) ∨ (s = ⟨#[]⟩ ∧ ∀ x ∈ es'.toList, nOf x.val ≠ n)) := fun σ w vals k ha => by
      obtain ⟨x, y, rfl, hx, hy⟩ := ha.two
      obtain ⟨y0, hy0, rfl⟩ := hx.map_at
      have := hy.int
      subst this
      obtain ⟨es', q1, q2⟩ := k.obj b _ y0 hm hy0
      obtain ⟨r1, r2⟩ := stampE_ok es _ hst q2
      have r3 := (findV_ok es hk).1 σ _ q2
      refine ⟨es', q2, callsIn_wide.2 ((T.of_walk y0.blk es' clock n w q1 r1 fun x hx => ?_).mono ?_)⟩
      · obtain ⟨s, _, hs⟩ := r2 x hx
        obtain ⟨v, hv⟩ := r3 x hx
        exact ⟨bytesOf s, v, hs, hv⟩
      · rintro e w' ⟨⟨s, rfl, hs⟩, hb⟩
        exact ⟨k.junk hb, s, rfl, hs⟩
    rcases (findV_ok es hk).2 with ⟨key, hg, hkey⟩ | ⟨hg, hno⟩
    · refine ⟨key, h, hg, hent, fun σ w vals k ha => ?_⟩
      obtain ⟨es', q2, hw⟩ := walk σ w vals k ha
      obtain ⟨⟨x0, a1, a2⟩, a3⟩ := hkey σ _ q2
      refine hw.mono ?_
      rintro e w' ⟨k', s, rfl, hs⟩
      rcases hs with ⟨x, b1, b2, b3⟩ | ⟨_, b1⟩
      · exact ⟨_, σ, rfl, Sig.le.refl σ, k', .inr (by rw [a3 x b1 b3, b2])⟩
      · exact absurd a2 (b1 x0 a1)
    · refine ⟨.str [], h, hg, hent, fun σ w vals k ha => ?_⟩
      obtain ⟨es', q2, hw⟩ := walk σ w vals k ha
      refine hw.mono ?_
      rintro e w' ⟨k', s, rfl, hs⟩
      rcases hs with ⟨x, b1, b2, b3⟩ | ⟨rfl, _⟩
      · exact absurd b3 (hno σ _ q2 x b1)
      · exact ⟨_, σ, rfl, Sig.le.refl σ, k', .inr rfl⟩
  · cases hk
end Go.Refl
end
section
namespace Go.Refl
open Go.Proofs Go.RowKit
theorem ofU8s_ok : ∀ (l : List AV) (g : List Nat → Bool), ofU8s l g = true → ∃ s, g s = true ∧ l = s.map (fun n => AV.int .u8 (.ofNat n)) ∧ byteOk s = true := by
  intro l
  induction l with
  | nil => exact fun g h => ⟨[], h, rfl, rfl⟩
  | cons v l ih =>
    intro g
    have key : ofU8s (v :: l) g = (match v with | .int .u8 (.ofNat n) => cond (Nat.ble n 255) (ofU8s l fun s => g (n :: s)) false | _ => false) := rfl
    rw [key]
    intro h'
    split at h'
    · rename_i n
      obtain ⟨h1, h2⟩ := cond_f h'
      obtain ⟨s, h3, h4, h5⟩ := ih _ h2
      have h1 := ble_eq h1
      exact ⟨n :: s, h3, by simp [h4], by simp [byteOk, h5, h1]⟩
    · cases h'
theorem setCell_at {w : World} {b o : Nat} {v : Value} {arr : Array Value} {e : TypeId} {fz : Nat × Nat} (h : w.heap[b]? = some (.cells arr e fz)) (j : Nat) :
    (w.setCell ⟨b, o, none⟩ v).heap[j]? = if j = b then some (.cells (arr.setIfInBounds o v) e fz) else w.heap[j]? := by
  simp only [World.setCell, Array.getElem?_modify]
  by_cases hj : j = b
  · subst hj; simp [h]
  · rw [if_neg (Ne.symm hj), if_neg hj]
theorem setCell_size {w : World} {a : Addr} {v : Value} : (w.setCell a v).heap.size = w.heap.size := by simp [World.setCell]
theorem HRel.turn_any {C : Ctx} {σ : Sig} {h : AH} {w w' : World} (k : HRel C σ h w) {b : Nat} {ao ao' : AO} {x : Loc} (hb : h.m.get b = some ao) (hx : σ b = some x) (hd : ao.owns = true) (hro : ao.ro = false)
    {m : Tr AO} (hm : h.m.Put b ao' m) (hbelow : C.B ≤ x.blk → Below C.B w w') (hsize : w'.heap.size = w.heap.size) (hoth : ∀ j, j ≠ x.blk → w'.heap[j]? = w.heap[j]?) (hor : OR σ x w' ao') : HRel C σ ⟨m, h.nx⟩ w' := by
  have hB := k.own b ao x hb hx hd hro
  refine ⟨k.below.trans (hbelow hB), by rw [hsize]; exact k.base, k.glob, k.fresh, k.nx, fun c p y h1 h2 => ?_, fun c p y h1 h2 h3 h4 => ?_, fun c d p q y z h1 h2 h3 h4 hne h5 h6 => ?_⟩
  · by_cases e : c = b
    · subst e; rw [hm c, if_pos rfl] at h1; cases h1; rw [hx] at h2; cases h2; exact hor
    · rw [hm c, if_neg e] at h1
      by_cases hp : p.owns = true
      · exact (k.obj c p y h1 h2).mono (Sig.le.refl σ) (hoth _ (k.apart c b p ao y x h1 hb h2 hx e hp hd))
      · exact (k.obj c p y h1 h2).ownless (Sig.le.refl σ) (by simpa using hp)
  · by_cases e : c = b
    · subst e; rw [hx] at h2; cases h2; exact hB
    · rw [hm c, if_neg e] at h1; exact k.own c p y h1 h2 h3 h4
  · by_cases e : c = b
    · subst e
      rw [hx] at h3; cases h3
      by_cases e2 : d = c
      · exact absurd e2.symm hne
      · rw [hm d, if_neg e2] at h2; exact k.apart c d ao q x z hb h2 hx h4 hne hd h6
    · rw [hm c, if_neg e] at h1
      by_cases e2 : d = b
      · subst e2; rw [hx] at h4; cases h4; exact k.apart c d p ao y x h1 hb h3 hx hne h5 hd
      · rw [hm d, if_neg e2] at h2; exact k.apart c d p q y z h1 h2 h3 h4 hne h5 h6
theorem VR.ptr_at {σ : Sig} {b o : Nat} {x : Value} (h : VR σ (.ptr b o) x) : ∃ y, σ b = some y ∧ x = .pointer (some ⟨y.blk, y.shift + o, none⟩) := by
  have := VR.conc h (by simp)
  simp only [Refl.conc, Option.map_eq_some_iff] at this
  obtain ⟨y, hy, e⟩ := this
  exact ⟨y, hy, e.symm⟩
theorem lies175 : ∀ e : Nat, e = 175 → liesAt Tryz.prog Tryz.prog.depth e (2 / Tryz.prog.cellsOf e) 0 175 1 = true := fun e he =>
  @Eq.rec Nat 175 (fun e _ => liesAt Tryz.prog Tryz.prog.depth e (2 / Tryz.prog.cellsOf e) 0 175 1 = true) (by kernel_rfl) e he.symm
theorem lies177 : ∀ e : Nat, e = 177 → liesAt Tryz.prog Tryz.prog.depth e (2 / Tryz.prog.cellsOf e) 0 175 1 = true := fun e he =>
  @Eq.rec Nat 177 (fun e _ => liesAt Tryz.prog Tryz.prog.depth e (2 / Tryz.prog.cellsOf e) 0 175 1 = true) (by kernel_rfl) e he.symm
theorem isB_lies {e : Nat} (h : isB e = true) : liesAt Tryz.prog Tryz.prog.depth e (2 / Tryz.prog.cellsOf e) 0 175 1 = true := by
  have h' : cond (Nat.beq e 175) true (Nat.beq e 177) = true := h
  cases h1 : Nat.beq e 175 with
  | true => exact lies175 e (beq_eq h1)
  | false =>
    rw [h1, cond_false] at h'
    exact lies177 e (beq_eq h')
theorem not_frozen {fz : Nat × Nat} {n : Nat} {w : World} {b i : Nat} {arr : Array Value} {e : TypeId} (h : w.heap[b]? = some (.cells arr e fz)) (hf : fz.1 = fz.2 ∨ n ≤ fz.1) (hi : i < n) : w.frozen? ⟨b, i, none⟩ = false := by
  simp only [World.frozen?, h]
  exact unmarked hf i hi
theorem two_cells {arr : Array Value} {a b : Value} (h : arr.size = 2) (h0 : arr[0]? = some a) (h1 : arr[1]? = some b) : arr = #[a, b] := by
  apply Array.ext_getElem?
  intro i
  match i with
  | 0 => simpa using h0
  | 1 => simpa using h1
  | i + 2 => simp [h]
theorem copy_ok {C : Ctx} {b : Nat} {h : AH} {g : AV → AH → Bool} (hk : copyK b h g = true) : ∃ v h', g v h' = true ∧ CallOk Tryz.prog C 267 [.ptr b 0] h v h' := by
  have hent : ∀ w xs, (callFunc 267 xs).run Tryz.prog w = .ok (.enter 267 xs) w := fun w xs => enters_of Tryz.func267 (by kernel_rfl) rfl _ _
  unfold copyK at hk
  split at hk
  · rename_i p q e z hm
    obtain ⟨hB, hk⟩ := cond_f hk
    obtain ⟨hz, hk⟩ := cond_f hk
    have hz := beq_eq hz
    subst hz
    have hlies := isB_lies hB
    split at hk
    · obtain ⟨m, hg, hput⟩ := Tr.set_spec _ _ _ _ hk
      refine ⟨_, _, hg, hent, fun σ w vals k ha => ?_⟩
      obtain ⟨x, rfl, hx⟩ := ha.one
      obtain ⟨y, hy, rfl⟩ := hx.ptr_at
      obtain ⟨arr, fz, a1, a2, a3, a4, a5⟩ := k.obj b _ y hm hy
      obtain ⟨hsh, hsz⟩ := a5 rfl
      have hsz : arr.size = 2 := hsz
      rw [hsh] at a3
      rw [hsh]
      have c0 : arr[0]? = some (.pointer none) := by
        rcases a3 0 _ rfl with hb | ⟨z, h1, h2⟩
        · cases hb
        · simp only [conc] at h2; cases h2; simpa using h1
      refine callsIn_wide.2 ((T.copyCheck_fresh y.blk e hlies w (by rw [cell_of a1]; exact c0) (by simp [World.shape?, a1, hsz]) (not_frozen a1 (a4 rfl) (by omega))).mono ?_)
      rintro e' w' ⟨rfl, rfl⟩
      refine ⟨_, σ, rfl, Sig.le.refl σ, ?_, .inr rfl⟩
      refine k.turn_any hm hy rfl rfl hput (fun hb => (Below.refl _ w).setCell (p := ⟨y.blk, 0, none⟩) hb _) setCell_size (fun j hj => by rw [setCell_at a1, if_neg hj]) ?_
      refine ⟨arr.setIfInBounds 0 (.pointer (some ⟨y.blk, 0, none⟩)), fz, by rw [setCell_at a1, if_pos rfl], by simpa using a2, fun i v hv => ?_, fun hr => by simpa using a4 hr, fun _ => ⟨hsh, by simpa using hsz⟩⟩
      rw [hsh]
      match i, hv with
      | 0, hv =>
        cases hv
        exact .inr ⟨.pointer (some ⟨y.blk, 0, none⟩), by simp [hsz], by simp [conc, hy, hsh]⟩
      | 1, hv =>
        rcases a3 1 v hv with hb | ⟨z, h1, h2⟩
        · exact .inl hb
        · exact .inr ⟨z, by rw [Array.getElem?_setIfInBounds_ne (by omega)]; exact h1, h2⟩
    · rename_i b' o'
      obtain ⟨h1, hk1⟩ := cond_f hk
      obtain ⟨h2, hk2⟩ := cond_f hk1
      have h1 := beq_eq h1; have h2 := beq_eq h2
      subst h1 h2
      refine ⟨_, _, hk2, hent, fun σ w vals k ha => ?_⟩
      obtain ⟨x, rfl, hx⟩ := ha.one
      obtain ⟨y, hy, rfl⟩ := hx.ptr_at
      obtain ⟨arr, fz, a1, a2, a3, a4, a5⟩ := k.obj _ _ y hm hy
      obtain ⟨hsh, hsz⟩ := a5 rfl
      rw [hsh] at a3
      rw [hsh]
      have c0 : arr[0]? = some (.pointer (some ⟨y.blk, 0, none⟩)) := by
        rcases a3 0 _ rfl with hb | ⟨z, h1, h2⟩
        · cases hb
        · simp only [conc, hy, Option.map_some, hsh, Nat.add_zero] at h2; cases h2; simpa using h1
      refine callsIn_wide.2 ((T.copyCheck_used y.blk w (by rw [cell_of a1]; exact c0)).mono ?_)
      rintro e' w' ⟨rfl, rfl⟩
      exact ⟨_, σ, rfl, Sig.le.refl σ, k, .inr rfl⟩
    · cases hk
  · cases hk
end Go.Refl
end
section
namespace Go.Refl
open Go.Proofs Go.RowKit
theorem freeze_at {w : World} {b o n : Nat} {arr : Array Value} {e : TypeId} {fz : Nat × Nat} (h : w.heap[b]? = some (.cells arr e fz)) :
    ∃ fz', (w.freeze ⟨b, o, none⟩ n).heap[b]? = some (.cells arr e fz') ∧ (w.freeze ⟨b, o, none⟩ n).heap.size = w.heap.size ∧ ∀ j, j ≠ b → (w.freeze ⟨b, o, none⟩ n).heap[j]? = w.heap[j]? := by
  unfold World.freeze
  split
  · exact ⟨fz, h, rfl, fun _ _ => rfl⟩
  · refine ⟨_, by show (w.heap.modify b _)[b]? = _; rw [Array.getElem?_modify, if_pos rfl, h]; rfl, by simp, fun j hj => by show (w.heap.modify b _)[j]? = _; rw [Array.getElem?_modify, if_neg (Ne.symm hj)]⟩
theorem u8_at {σ : Sig} {s : List Nat} {vals : List Value} (hb : byteOk s = true) (h : concL σ (s.map fun n => AV.int .u8 (.ofNat n)) = some vals) (j : Nat) (x : UInt8) (hx : (s.map UInt8.ofNat)[j]? = some x) : vals[j]? = some (.int .u8 x.toNat) := by
  rw [List.getElem?_map] at hx
  cases hs : s[j]? with
  | none => rw [hs] at hx; cases hx
  | some n =>
    rw [hs] at hx
    cases hx
    obtain ⟨z, hz, hc⟩ := concL_get h j (.int .u8 (.ofNat n)) (by rw [List.getElem?_map, hs]; rfl)
    simp only [conc] at hc; cases hc
    have hle : n ≤ 255 := (byteOk_iff s).1 hb n (List.mem_of_getElem? hs)
    rw [hz]
    have : (UInt8.ofNat n).toNat = n := by simp; omega
    rw [this]; rfl
theorem bstr_ok {C : Ctx} {b : Nat} {h : AH} {g : AV → AH → Bool} (hk : bstrK b h g = true) : ∃ v h', g v h' = true ∧ CallOk Tryz.prog C 133 [.ptr b 0] h v h' := by
  have hent : ∀ w xs, (callFunc 133 xs).run Tryz.prog w = .ok (.enter 133 xs) w := fun w xs => enters_of Tryz.func133 (by kernel_rfl) rfl _ _
  unfold bstrK at hk
  split at hk
  · rename_i p c q n cap op e z ro hm
    obtain ⟨hz, hk1⟩ := cond_f hk
    obtain ⟨hn1, hk2⟩ := cond_f hk1
    obtain ⟨hnc, hk3⟩ := cond_f hk2
    obtain ⟨hnl, hk4⟩ := cond_f hk3
    clear hk hk1 hk2 hk3
    have hz := beq_eq hz; have hn1 := ble_eq hn1; have hnc := ble_eq hnc; have hnl := ble_eq hnl
    subst hz
    obtain ⟨l, all, e2, z2, ro2, h1, hmc, hl, hln, hlen, hbad⟩ := rdK_spec hk4
    obtain ⟨s, h2, hs, hby⟩ := ofU8s_ok _ _ h1
    rw [hmc] at h2
    split at h2
    · rename_i cs5 e5 z5 heq
      cases heq
      obtain ⟨he5, h2⟩ := cond_f h2
      have he5 := beq_eq he5
      obtain ⟨m, hg, hput⟩ := Tr.set_spec _ _ _ _ h2
      refine ⟨_, _, hg, hent, fun σ w vals k ha => ?_⟩
      obtain ⟨x, rfl, hx⟩ := ha.one
      obtain ⟨y, hy, rfl⟩ := hx.ptr_at
      obtain ⟨arr, fz, a1, a2, a3, a4, a5⟩ := k.obj b _ y hm hy
      obtain ⟨hsh, hsz⟩ := a5 rfl
      rw [hsh] at a3
      rw [hsh]
      obtain ⟨yc, hyc, c0⟩ : ∃ yc, σ c = some yc ∧ arr[1]? = some (.slice (some ⟨yc.blk, yc.shift + q, none⟩) n (if op then cap + yc.extra else cap)) := by
        rcases a3 1 _ rfl with hb | ⟨z, h1, h2⟩
        · cases hb
        · simp only [conc, Option.map_eq_some_iff] at h2
          obtain ⟨yc, hyc, rfl⟩ := h2
          exact ⟨yc, hyc, by simpa using h1⟩
      obtain ⟨vals2, v1, v2, v3⟩ := rd_conc (n := n) (o := q) k hmc hyc (by rw [← hl]; exact hln) (by rw [← hl]; exact hbad)
      rw [← hl, hs] at v1
      obtain ⟨arr2, fz2, b1, b2, b3, b4, b5⟩ := k.obj c _ yc hmc hyc
      have hsn : s.length = n := by rw [← hln, hs]; simp
      have hlen1 : (s.map UInt8.ofNat).length = n := by simpa using hsn
      have hne : s.map UInt8.ofNat ≠ [] := by
        intro e; rw [e] at hlen1; simp at hlen1; omega
      have hcall := T.String_some y.blk yc.blk (yc.shift + q) (if op then cap + yc.extra else cap) (s.map UInt8.ofNat) arr2.size w hne (by split <;> omega) (by rw [hlen1]; omega) (by rw [cell_of a1, c0, hlen1]) (by simp [World.shape?, b1, he5])
        (by rw [hlen1]; have : n ≠ 0 := by omega
            rw [if_neg this] at hlen; omega)
        (fun j x hx => by
          have := v3 j _ (u8_at hby v1 j x hx)
          by_cases hj : j = 0
          · subst hj; simpa [Addr.add] using this
          · simpa [Addr.add, hj] using this)
      refine callsIn_wide.2 (hcall.mono ?_)
      rintro e' w' ⟨rfl, rfl⟩
      refine ⟨_, σ, rfl, Sig.le.refl σ, ?_, .inr ?_⟩
      · have k1 := k.drew
        obtain ⟨fz', f1, f2, f3⟩ := freeze_at (w := w.drew) (o := yc.shift + q) (n := (s.map UInt8.ofNat).length) (show w.drew.heap[yc.blk]? = _ from b1)
        refine (show HRel C σ h w.drew from k1).turn_any hmc hyc rfl rfl hput (fun hb => Lib.below_freeze (Below.refl _ _) hb _) f2 f3 ?_
        exact ⟨arr2, fz', f1, b2, b3, fun e => (by cases e), b5⟩
      · simp only [conc, hby, if_true]; rfl
    · cases h2
  · cases hk
end Go.Refl
end
section
namespace Go.Refl
open Go.Proofs Go.RowKit
theorem badL_length : ∀ k, (badL k).length = k
  | 0 => rfl
  | k + 1 => by show (AV.bad :: badL k).length = k + 1; simp [badL_length k]
theorem badL_get (k : Nat) : ∀ (i : Nat) (v : AV), (badL k)[i]? = some v → v = AV.bad := by
  induction k with
  | zero => intro i v h; cases h
  | succ k ih =>
    intro i v h
    have h' : (AV.bad :: badL k)[i]? = some v := h
    cases i with
    | zero => simpa using h'.symm
    | succ i => exact ih i v (by simpa using h')
theorem grow_ok {C : Ctx} {b : Nat} {n : Int} {h : AH} {g : AV → AH → Bool} (hk : growK b n h g = true) : ∃ v h', g v h' = true ∧ CallOk Tryz.prog C 189 [.ptr b 0, .int .i64 n] h v h' := by
  have hent : ∀ w xs, (callFunc 189 xs).run Tryz.prog w = .ok (.enter 189 xs) w := fun w xs => enters_of Tryz.func189 (by kernel_rfl) rfl _ _
  unfold growK at hk
  split at hk
  · rename_i e z hm
    obtain ⟨hB, hk1⟩ := cond_f hk
    obtain ⟨hz, hk2⟩ := cond_f hk1
    clear hk hk1
    have hz := beq_eq hz
    subst hz
    have hlies := isB_lies hB
    split at hk2
    · rename_i kk
      obtain ⟨h1, hk3⟩ := cond_f hk2
      obtain ⟨h2, hk4⟩ := cond_f hk3
      have h1 := ble_eq h1; have h2 := ble_eq h2
      obtain ⟨m1, hk5, hp1⟩ := newK_spec hk4
      obtain ⟨m, hg, hput⟩ := Tr.set_spec _ _ _ _ hk5
      refine ⟨_, _, hg, hent, fun σ w vals k ha => ?_⟩
      obtain ⟨x, x2, rfl, hx, hx2⟩ := ha.two
      obtain ⟨y, hy, rfl⟩ := hx.ptr_at
      have := hx2.int
      subst this
      obtain ⟨arr, fz, a1, a2, a3, a4, a5⟩ := k.obj b _ y hm hy
      obtain ⟨hsh, hsz⟩ := a5 rfl
      have hsz : arr.size = 2 := hsz
      rw [hsh] at a3
      rw [hsh]
      have c0 : arr[0]? = some (.pointer none) := by
        rcases a3 0 _ rfl with hb | ⟨z, h1, h2⟩
        · cases hb
        · simp only [conc] at h2; cases h2; simpa using h1
      have c1 : arr[1]? = some (.slice none 0 0) := by
        rcases a3 1 _ rfl with hb | ⟨z, h1, h2⟩
        · cases hb
        · simp only [conc] at h2; cases h2; simpa using h1
      have harr := two_cells hsz c0 c1
      have hlt : y.blk < w.heap.size := (Array.getElem?_eq_some_iff.1 a1).1
      have hf := a4 rfl
      rw [hsz] at hf
      rw [harr] at a1
      have hcall := T.Grow_fresh y.blk kk fz e w hlies a1 hf h2 h1
      refine callsIn_wide.2 (hcall.mono ?_)
      rintro e' w' ⟨rfl, cs, hcs, hw'⟩
      have hne : b ≠ h.nx := fun e => by rw [e, k.fresh _ (Nat.le_refl _)] at hy; cases hy
      have k1 := k.new hp1 0 (cs.size - kk) (.cells cs 5) fun σ' _ => by
        refine ⟨cs, (0, 0), alloc_get _ _, by simp only [badL_length]; omega, fun i v hv => .inl (badL_get _ _ _ hv), fun _ => .inl rfl, fun e => by cases e⟩
      have hle := k.lp ⟨w.heap.size, 0, cs.size - kk⟩
      have hy' := hle.get _ _ hy
      have hm1 : m1.get b = some (.cells (.pnil :: .snil :: []) e 0 false) := by rw [hp1 b, if_neg hne]; exact hm
      have hheap : w'.heap = (((w.setCell ⟨y.blk, 0, none⟩ (.pointer (some ⟨y.blk, 0, none⟩))).setCell ⟨y.blk, 1, none⟩ (.slice (some ⟨w.heap.size, 0, none⟩) 0 cs.size)).heap.push (.cells cs 5)) := by rw [hw']; rfl
      have hs1 : ((w.setCell ⟨y.blk, 0, none⟩ (.pointer (some ⟨y.blk, 0, none⟩))).setCell ⟨y.blk, 1, none⟩ (.slice (some ⟨w.heap.size, 0, none⟩) 0 cs.size)).heap.size = w.heap.size := by rw [setCell_size, setCell_size]
      have q1 : (w.setCell ⟨y.blk, 0, none⟩ (.pointer (some ⟨y.blk, 0, none⟩))).heap[y.blk]? = some (.cells #[.pointer (some ⟨y.blk, 0, none⟩), .slice none 0 0] e fz) := by rw [setCell_at a1, if_pos rfl]; rfl
      have hat : w'.heap[y.blk]? = some (.cells #[.pointer (some ⟨y.blk, 0, none⟩), .slice (some ⟨w.heap.size, 0, none⟩) 0 cs.size] e fz) := by
        rw [hheap, Array.getElem?_push, hs1, if_neg (by omega), setCell_at q1, if_pos rfl]; rfl
      have hoth : ∀ j, j ≠ y.blk → w'.heap[j]? = (w.alloc (.cells cs 5)).heap[j]? := fun j hj => by
        show _ = (w.heap.push (.cells cs 5))[j]?
        rw [hheap, Array.getElem?_push, Array.getElem?_push, hs1]
        split
        · rfl
        · rw [setCell_at q1, if_neg hj, setCell_at a1, if_neg hj]
      have hsize : w'.heap.size = (w.alloc (.cells cs 5)).heap.size := by
        show _ = (w.heap.push (.cells cs 5)).size
        rw [hheap, Array.size_push, Array.size_push, hs1]
      refine ⟨_, _, rfl, hle, k1.turn_any (b := b) (x := y) hm1 hy' rfl rfl hput (fun hB => ⟨by rw [hw']; rfl, by rw [hw']; rfl, by rw [hw']; rfl, by rw [hsize]; exact Nat.le_refl _, fun j hj => hoth j (by omega)⟩) hsize hoth ?_, .inr rfl⟩
      refine ⟨#[.pointer (some ⟨y.blk, 0, none⟩), .slice (some ⟨w.heap.size, 0, none⟩) 0 cs.size], fz, hat, by rw [hsh]; simp, fun i v hv => ?_, fun _ => hf, fun _ => ⟨hsh, rfl⟩⟩
      rw [hsh]
      match i, hv with
      | 0, hv =>
        cases hv
        exact .inr ⟨.pointer (some ⟨y.blk, 0, none⟩), rfl, by simp [conc, hy', hsh]⟩
      | 1, hv =>
        cases hv
        refine .inr ⟨.slice (some ⟨w.heap.size, 0, none⟩) 0 cs.size, rfl, ?_⟩
        have : kk + (cs.size - kk) = cs.size := by omega
        simp [conc, Sig.put_same, this]
    · cases hk2
  · cases hk
end Go.Refl
end
