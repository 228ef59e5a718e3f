/-
  A part of the proof of TopCrashRecovery: the run of awake: tables, contracts, joining.
-/
import Derived.Test.YtpncejdamjbnlaaGreatDoorTb
import Derived.Test.YtpncejdamjbnlaaGreatDoorRk
import Derived.Test.YtpncejdamjbnlaaGreatDoorTh
import Derived.Shelf.Vars
import Derived.Test.YtpncejdamjbnlaaGreatDoorRows
set_option linter.all false
section
namespace Go.Refl
open Go.Proofs Go.RowKit Go.Proofs.YtpncejdamjbnlaaGreatDoor
noncomputable def begW : World := (begin Tryz.prog (fun _ _ => 0) default).world
theorem gsize : Tryz.prog.globals.size = 19 := by kernel_rfl
theorem rows_all : ((List.range 19).all fun g => ((begW.heap[g]?).bind Obj.row?).isSome) = true := by kernel_rfl
theorem row_t {W : World} (hs : W.ShapedOpen Tryz.prog) {g : Nat} (hg : g < 19) {t : TypeId} (h : ((begW.heap[g]?).bind Obj.row?).map (·.2) = some t) : ∃ cs, W.heap[g]? = some (.cells cs t) := by
  obtain ⟨⟨zero, t'⟩, h1, h2⟩ := Option.map_eq_some_iff.1 h
  cases h2
  obtain ⟨cs, h3, _⟩ := hs.1 g zero t' (by rw [gsize]; exact hg) h1
  exact ⟨cs, h3⟩
theorem rows_at {W : World} (hs : W.ShapedOpen Tryz.prog) : ∀ n, n < 19 → ∃ arr e fz, W.heap[n]? = some (.cells arr e fz) := fun n hn => by
  have := List.all_eq_true.1 rows_all n (List.mem_range.2 hn)
  obtain ⟨z, hz⟩ := Option.isSome_iff_exists.1 this
  obtain ⟨cs, h⟩ := row_t hs hn (t := z.2) (by rw [hz]; rfl)
  exact ⟨cs, z.2, (0, 0), h⟩
theorem good0 {W : World} (hs : W.ShapedOpen Tryz.prog) : Good ⟨19, W.heap.size, W⟩ := by
  obtain ⟨arr, e, fz, h⟩ := rows_at hs 11 (by decide)
  refine ⟨rfl, (Array.getElem?_eq_some_iff.1 h).1, ?_⟩
  obtain ⟨⟨zero, t⟩, h1, h2⟩ := Option.map_eq_some_iff.1 (show ((begW.heap[11]?).bind Obj.row?).map (fun z => (z.1.size, z.2)) = some (1, 3) by kernel_rfl)
  simp only [Prod.mk.injEq] at h2
  obtain ⟨h2, rfl⟩ := h2
  exact cell_of_shapedOpen_int hs (by rw [gsize]; decide) h1 h2 (by kernel_rfl) (by kernel_rfl) Tryz.underlying3
theorem laidVars_mem {P : Program} {w : World} : ∀ {l : List (String × DataW Unit)} {ps : List MemPlace}, DataW.LaidVars P w l ps → ∀ {n : String} {d : DataW Unit}, (n, d) ∈ l →
    ∃ g t cs fuel p, P.globalNamed n = some g ∧ (P.globals[g]?).map (·.type) = some t ∧ w.var? P n = some cs ∧ DataW.trod (fun _ => ()) P w 0 (fun _ => true) false fuel t cs.toList = some (d, p)
  | [], _, _, _, _, hx => by cases hx
  | (n', d') :: r, ps, h, n, d, hx => by
    obtain ⟨g, t, cs, fuel, p, q, h1, h2, h3, h4, h5, _⟩ := h
    rcases List.mem_cons.1 hx with e | hx
    · cases e; exact ⟨g, t, cs, fuel, p, h1, h2, h3, h4⟩
    · exact laidVars_mem h5 hx
theorem laid_at {P : Program} {l : List (String × DataW Unit)} {W : World} (h : laidMetH P l W) {n : String} {d : DataW Unit} (hx : (n, d) ∈ l) (hno : d.handleName?.isNone = true) :
    ∃ g t cs fuel p, P.globalNamed n = some g ∧ (P.globals[g]?).map (·.type) = some t ∧ W.var? P n = some cs ∧ DataW.trod (fun _ => ()) P W 0 (fun _ => true) false fuel t cs.toList = some (d, p) := by
  unfold laidMetH at h
  split at h
  · obtain ⟨ps, h1, _⟩ := h; exact laidVars_mem h1 hx
  · obtain ⟨⟨ps, h1, _⟩, _⟩ := h
    exact laidVars_mem h1 (List.mem_filter.2 ⟨hx, hno⟩)
theorem var_heap {P : Program} {W : World} {n : String} {g : Nat} {cs : Array Value} (hg : P.globalNamed n = some g) (h : W.var? P n = some cs) {arr : Array Value} {t : TypeId} {fz : Nat × Nat} (hh : W.heap[g]? = some (.cells arr t fz)) : arr = cs := by
  simp only [World.var?, hg, Option.bind_some, hh, Option.some.injEq] at h
  exact h
def val1 : AV → Option Value
  | .int k n => some (.int k n)
  | .bool b => some (.bool b)
  | _ => none
def valsL : List AV → Option (List Value)
  | [] => some []
  | v :: r => (val1 v).bind fun x => (valsL r).map fun l => x :: l
theorem valsL_conc {σ : Sig} : ∀ {cs : List AV} {l : List Value}, valsL cs = some l → concL σ cs = some l
  | [], l, h => h
  | v :: r, l, h => by
    simp only [valsL, Option.bind_eq_some_iff, Option.map_eq_some_iff] at h
    obtain ⟨x, h1, l', h2, rfl⟩ := h
    have : conc σ v = some x := by
      cases v <;> simp [val1] at h1 <;> subst h1 <;> rfl
    simp [concL, this, valsL_conc h2]
theorem plain_or {W : World} (hs : W.ShapedOpen Tryz.prog) {l : List (String × DataW Unit)} (hL : laidMetH Tryz.prog l W) {n : String} {d : DataW Unit} (hx : (n, d) ∈ l) (hno : d.handleName?.isNone = true) {g : Nat} {t : TypeId}
    (hg : Tryz.prog.globalNamed n = some g) (hlt : g < 19) (hgt : (Tryz.prog.globals[g]?).map (·.type) = some t) (hrow : ((begW.heap[g]?).bind Obj.row?).map (·.2) = some t) (hsol : solid Tryz.prog 6 t = true)
    {cs : List AV} (hcs : valsL cs = some (flatD d)) {σ : Sig} : OR σ ⟨g, 0, 0⟩ W (.cells cs t 1 true) := by
  obtain ⟨g', t', arr, fuel, p, h1, h2, h3, h4⟩ := laid_at hL hx hno
  rw [hg] at h1; cases h1
  rw [hgt] at h2; cases h2
  obtain ⟨cs', hh⟩ := row_t hs hlt hrow
  have := var_heap hg h3 hh
  subst this
  exact row_or hh (trod_flat 6 fuel t _ _ hsol h4) (valsL_conc hcs)
theorem or4 {W : World} (hs : W.ShapedOpen Tryz.prog) (hL : laidMetH Tryz.prog Rows.topCrashRecoveryRow.laid W) {σ : Sig} : OR σ ⟨4, 0, 0⟩ W gb4 :=
  plain_or hs hL (n := "strings.asciiSpace") (d := Rows.laid_strings_asciiSpace) (by simp [Rows.topCrashRecoveryRow]) (by kernel_rfl) (by kernel_rfl) (by decide) (by kernel_rfl) (by kernel_rfl) (by kernel_rfl) (by kernel_rfl)
end Go.Refl
end
section
namespace Go.Refl
open Go.Proofs Go.RowKit Go.Proofs.YtpncejdamjbnlaaGreatDoor
def rowN (k : Nat) : String := ((Rows.topCrashRecoveryRow.laid[k]?).map (·.1)).getD ""
theorem or6 {W : World} (hs : W.ShapedOpen Tryz.prog) (hL : laidMetH Tryz.prog Rows.topCrashRecoveryRow.laid W) {σ : Sig} : OR σ ⟨6, 0, 0⟩ W gb6 :=
  plain_or hs hL (n := rowN 12) (d := Rows.laid_chalkline_types_asks) (by simp [rowN, Rows.topCrashRecoveryRow]) (by kernel_rfl) (by kernel_rfl) (by decide) (by kernel_rfl) (by kernel_rfl) (by kernel_rfl) (by kernel_rfl)
theorem or7 {W : World} (hs : W.ShapedOpen Tryz.prog) (hL : laidMetH Tryz.prog Rows.topCrashRecoveryRow.laid W) {σ : Sig} : OR σ ⟨7, 0, 0⟩ W gb7 :=
  plain_or hs hL (n := rowN 4) (d := Rows.laid_chalkline_flat_idle) (by simp [rowN, Rows.topCrashRecoveryRow]) (by kernel_rfl) (by kernel_rfl) (by decide) (by kernel_rfl) (by kernel_rfl) (by kernel_rfl) (by kernel_rfl)
theorem or12 {W : World} (hs : W.ShapedOpen Tryz.prog) (hL : laidMetH Tryz.prog Rows.topCrashRecoveryRow.laid W) {σ : Sig} : OR σ ⟨12, 0, 0⟩ W gb12 :=
  plain_or hs hL (n := rowN 13) (d := Rows.laid_chalkline_types_takes) (by simp [rowN, Rows.topCrashRecoveryRow]) (by kernel_rfl) (by kernel_rfl) (by decide) (by kernel_rfl) (by kernel_rfl) (by kernel_rfl) (by kernel_rfl)
theorem or16 {W : World} (hs : W.ShapedOpen Tryz.prog) (hL : laidMetH Tryz.prog Rows.topCrashRecoveryRow.laid W) {σ : Sig} : OR σ ⟨16, 0, 0⟩ W gb16 :=
  plain_or hs hL (n := rowN 0) (d := Rows.laid_math_bits_deBruijn32tab) (by simp [rowN, Rows.topCrashRecoveryRow]) (by kernel_rfl) (by kernel_rfl) (by decide) (by kernel_rfl) (by kernel_rfl) (by kernel_rfl) (by kernel_rfl)
theorem or17 {W : World} (hs : W.ShapedOpen Tryz.prog) (hL : laidMetH Tryz.prog Rows.topCrashRecoveryRow.laid W) {σ : Sig} : OR σ ⟨17, 0, 0⟩ W gb17 :=
  plain_or hs hL (n := rowN 1) (d := Rows.laid_math_bits_deBruijn64tab) (by simp [rowN, Rows.topCrashRecoveryRow]) (by kernel_rfl) (by kernel_rfl) (by decide) (by kernel_rfl) (by kernel_rfl) (by kernel_rfl) (by kernel_rfl)
def entries {H : Type} : DataW H → List (Lit × DataW H)
  | .map es => es
  | _ => []
theorem kind_str {es : List (AV × AV)} (h : es.all (fun z => match z.1 with | .str _ => true | _ => false) = true) : ∀ z ∈ es, ∃ s, z.1 = .str s := fun z hz => by
  have := List.all_eq_true.1 h z hz
  split at this
  · exact ⟨_, by assumption⟩
  · cases this
theorem kind_int {es : List (AV × AV)} (h : es.all (fun z => match z.1 with | .int .i64 _ => true | _ => false) = true) : ∀ z ∈ es, ∃ n, z.1 = .int .i64 n := fun z hz => by
  have := List.all_eq_true.1 h z hz
  split at this
  · exact ⟨_, by assumption⟩
  · cases this
theorem all_fn {es : List (AV × AV)} (h : es.all (fun z => match z.2 with | .bad => false | _ => true) = true) {a : AV} (ha : a ∈ es.map (·.2)) : a ≠ .bad := by
  obtain ⟨z, hz, rfl⟩ := List.mem_map.1 ha
  have := List.all_eq_true.1 h z hz
  intro e
  rw [e] at this
  cases this
theorem pmap_or {W : World} (hs : W.ShapedOpen Tryz.prog) {l : List (String × DataW Unit)} (hL : laidMetH Tryz.prog l W) {n : String} {D : List (Lit × DataW Unit)} (hx : (n, .map D) ∈ l) {g : Nat} {t k e : TypeId} {d : TypeDesc}
    (hg : Tryz.prog.globalNamed n = some g) (hlt : g < 19) (hgt : (Tryz.prog.globals[g]?).map (·.type) = some t) (hrow : ((begW.heap[g]?).bind Obj.row?).map (·.2) = some t)
    (ht : Tryz.prog.underlying t = some (.map k e)) (he : Tryz.prog.underlying e = some d) (hd : isScalT d = true) {es : List (AV × AV)} (hes : D.map (convE datL) = es)
    (hkey : (Tryz.prog.underlying k = some .string ∧ es.all (fun z => match z.1 with | .str _ => true | _ => false) = true) ∨ (Tryz.prog.underlying k = some (.int .i64) ∧ es.all (fun z => match z.1 with | .int .i64 _ => true | _ => false) = true)) :
    ∃ b, W.heap[g]? = some (.cells #[.map (some b)] t) ∧ ∀ σ, OR σ ⟨b, 0, 0⟩ W (.lmap es) := by
  obtain ⟨g', t', arr, fuel, p, h1, h2, h3, h4⟩ := laid_at hL hx rfl
  rw [hg] at h1; cases h1
  rw [hgt] at h2; cases h2
  obtain ⟨cs', hh⟩ := row_t hs hlt hrow
  have := var_heap hg h3 hh
  subst this
  have key : ∀ σ, ∃ b, cs'.toList = [.map (some b)] ∧ OR σ ⟨b, 0, 0⟩ W (.lmap es) := fun σ => by
    refine map_or (datA := datL) ht h4 ?_ (fun fuel v y hf hy _ => val_lit he hd fuel v y hf hy) hes ?_
    · rcases hkey with ⟨h, _⟩ | ⟨h, _⟩
      · exact key_str h
      · exact key_int h
    · rcases hkey with ⟨_, h⟩ | ⟨_, h⟩
      · exact .inl (kind_str h)
      · exact .inr ⟨_, kind_int h⟩
  obtain ⟨b, hb, _⟩ := key ⟨fun _ => none, 0⟩
  have hcs : cs' = #[.map (some b)] := by apply Array.toList_inj.1; simpa using hb
  subst hcs
  refine ⟨b, hh, fun σ => ?_⟩
  obtain ⟨b', hb', ho⟩ := key σ
  simp only [List.cons.injEq, Value.map.injEq, Option.some.injEq, and_true] at hb'
  rw [hb']; exact ho
theorem fmap_or {W : World} (hs : W.ShapedOpen Tryz.prog) {l : List (String × DataW Unit)} (hL : laidMetH Tryz.prog l W) {n : String} {d0 : DataW Unit} {D : List (Lit × DataW (List UInt8))} (hx : (n, .iface "func table" d0) ∈ l) (hD : d0.funcsOut = .map D) {g : Nat} {t k e : TypeId} {ps rs : Array TypeId} {va : Bool}
    (hg : Tryz.prog.globalNamed n = some g) (hlt : g < 19) (hgt : (Tryz.prog.globals[g]?).map (·.type) = some t) (hrow : ((begW.heap[g]?).bind Obj.row?).map (·.2) = some t)
    (ht : Tryz.prog.underlying t = some (.map k e)) (he : Tryz.prog.underlying e = some (.func ps rs va)) {tab : List (List UInt8 × Nat)}
    (hone : ∀ z ∈ tab, z.1 ≠ [] ∧ ((List.range Tryz.prog.funcs.size).filter fun f => (Tryz.prog.funcs[f]?).any (·.name.toUTF8.data.toList == z.1)) = [z.2]) {es : List (AV × AV)} (hes : D.map (convE (datF tab)) = es)
    (hfn : es.all (fun z => match z.2 with | .bad => false | _ => true) = true)
    (hkey : (Tryz.prog.underlying k = some .string ∧ es.all (fun z => match z.1 with | .str _ => true | _ => false) = true) ∨ (Tryz.prog.underlying k = some (.int .i64) ∧ es.all (fun z => match z.1 with | .int .i64 _ => true | _ => false) = true)) :
    ∃ b, W.heap[g]? = some (.cells #[.map (some b)] t) ∧ ∀ σ, OR σ ⟨b, 0, 0⟩ W (.lmap es) := by
  obtain ⟨g', t', arr, fuel, p, h1, h2, h3, h4⟩ := hL.funcs hx
  rw [hg] at h1; cases h1
  rw [hgt] at h2; cases h2
  rw [hD] at h4
  obtain ⟨cs', hh⟩ := row_t hs hlt hrow
  have := var_heap hg h3 hh
  subst this
  have key : ∀ σ, ∃ b, cs'.toList = [.map (some b)] ∧ OR σ ⟨b, 0, 0⟩ W (.lmap es) := fun σ => by
    refine map_or (datA := datF tab) ht h4 ?_ (fun fuel v y hf hy hm => val_func he hone fuel v y hf hy ?_) hes ?_
    · rcases hkey with ⟨h, _⟩ | ⟨h, _⟩
      · exact key_str h
      · exact key_int h
    · refine all_fn hfn ?_
      rw [← hes, List.map_map]
      obtain ⟨z, hz, hzz⟩ := List.mem_map.1 hm
      exact List.mem_map.2 ⟨z, hz, by simp [convE, hzz]⟩
    · rcases hkey with ⟨_, h⟩ | ⟨_, h⟩
      · exact .inl (kind_str h)
      · exact .inr ⟨_, kind_int h⟩
  obtain ⟨b, hb, _⟩ := key ⟨fun _ => none, 0⟩
  have hcs : cs' = #[.map (some b)] := by apply Array.toList_inj.1; simpa using hb
  subst hcs
  refine ⟨b, hh, fun σ => ?_⟩
  obtain ⟨b', hb', ho⟩ := key σ
  simp only [List.cons.injEq, Value.map.injEq, Option.some.injEq, and_true] at hb'
  rw [hb']; exact ho
noncomputable def lm : AO → List (AV × AV)
  | .lmap es => es
  | _ => []
theorem or2 {W : World} (hs : W.ShapedOpen Tryz.prog) (hL : laidMetH Tryz.prog Rows.topCrashRecoveryRow.laid W) : ∃ b, W.heap[2]? = some (.cells #[.map (some b)] 352) ∧ ∀ σ, OR σ ⟨b, 0, 0⟩ W gb21 :=
  pmap_or hs hL (n := rowN 11) (D := entries Rows.laid_chalkline_formula_arity) (by simp [rowN, Rows.topCrashRecoveryRow, entries, Rows.laid_chalkline_formula_arity]) (by kernel_rfl) (by decide) (by kernel_rfl) (by kernel_rfl) Tryz.underlying352 Tryz.underlying3 (d := (.int .i64)) rfl (es := lm gb21) (by kernel_rfl) (.inr ⟨Tryz.underlying3, by kernel_rfl⟩)
theorem or3 {W : World} (hs : W.ShapedOpen Tryz.prog) (hL : laidMetH Tryz.prog Rows.topCrashRecoveryRow.laid W) : ∃ b, W.heap[3]? = some (.cells #[.map (some b)] 226) ∧ ∀ σ, OR σ ⟨b, 0, 0⟩ W gb22 :=
  pmap_or hs hL (n := rowN 10) (D := entries Rows.laid_chalkline_formula_signs) (by simp [rowN, Rows.topCrashRecoveryRow, entries, Rows.laid_chalkline_formula_signs]) (by kernel_rfl) (by decide) (by kernel_rfl) (by kernel_rfl) Tryz.underlying226 Tryz.underlying9 (d := .string) rfl (es := lm gb22) (by kernel_rfl) (.inl ⟨Tryz.underlying9, by kernel_rfl⟩)
theorem or5 {W : World} (hs : W.ShapedOpen Tryz.prog) (hL : laidMetH Tryz.prog Rows.topCrashRecoveryRow.laid W) : ∃ b, W.heap[5]? = some (.cells #[.map (some b)] 172) ∧ ∀ σ, OR σ ⟨b, 0, 0⟩ W gb23 :=
  pmap_or hs hL (n := rowN 9) (D := entries Rows.laid_chalkline_formula_reserved) (by simp [rowN, Rows.topCrashRecoveryRow, entries, Rows.laid_chalkline_formula_reserved]) (by kernel_rfl) (by decide) (by kernel_rfl) (by kernel_rfl) Tryz.underlying172 Tryz.underlying4 (d := .bool) rfl (es := lm gb23) (by kernel_rfl) (.inl ⟨Tryz.underlying9, by kernel_rfl⟩)
def tab0 : List (List UInt8 × Nat) := [([99, 104, 97, 108, 107, 108, 105, 110, 101, 47, 101, 118, 97, 108, 46, 115, 105, 103, 110, 115, 36, 50], 452), ([99, 104, 97, 108, 107, 108, 105, 110, 101, 47, 101, 118, 97, 108, 46, 115, 105, 103, 110, 115, 36, 51], 453), ([99, 104, 97, 108, 107, 108, 105, 110, 101, 47, 101, 118, 97, 108, 46, 115, 105, 103, 110, 115, 36, 52], 454), ([99, 104, 97, 108, 107, 108, 105, 110, 101, 47, 101, 118, 97, 108, 46, 115, 105, 103, 110, 115, 36, 49], 451), ([99, 104, 97, 108, 107, 108, 105, 110, 101, 47, 101, 118, 97, 108, 46, 115, 105, 103, 110, 115, 36, 53], 455), ([99, 104, 97, 108, 107, 108, 105, 110, 101, 47, 101, 118, 97, 108, 46, 115, 105, 103, 110, 115, 36, 54], 456)]
theorem tab0_ok : ∀ z ∈ tab0, z.1 ≠ [] ∧ ((List.range Tryz.prog.funcs.size).filter fun f => (Tryz.prog.funcs[f]?).any (·.name.toUTF8.data.toList == z.1)) = [z.2] := by
  intro z hz
  simp only [tab0, List.mem_cons, List.not_mem_nil, or_false] at hz
  rcases hz with rfl | rfl | rfl | rfl | rfl | rfl
  · exact ⟨by simp, by kernel_rfl⟩
  · exact ⟨by simp, by kernel_rfl⟩
  · exact ⟨by simp, by kernel_rfl⟩
  · exact ⟨by simp, by kernel_rfl⟩
  · exact ⟨by simp, by kernel_rfl⟩
  · exact ⟨by simp, by kernel_rfl⟩
theorem or0 {W : World} (hs : W.ShapedOpen Tryz.prog) (hL : laidMetH Tryz.prog Rows.topCrashRecoveryRow.laid W) : ∃ b, W.heap[0]? = some (.cells #[.map (some b)] 305) ∧ ∀ σ, OR σ ⟨b, 0, 0⟩ W gb19 :=
  fmap_or hs hL (n := rowN 14) (d0 := (Rows.laid_chalkline_eval_signs : DataW Unit).funcsIn?.getD .nil) (D := entries ((Rows.laid_chalkline_eval_signs : DataW Unit).funcsIn?.getD .nil).funcsOut) (by simp [rowN, Rows.topCrashRecoveryRow, DataW.funcsIn?, Rows.laid_chalkline_eval_signs]) (by kernel_rfl) (by kernel_rfl) (by decide) (by kernel_rfl) (by kernel_rfl) Tryz.underlying305 Tryz.underlying304 tab0_ok (es := lm gb19) (by kernel_rfl) (by kernel_rfl) (.inl ⟨Tryz.underlying9, by kernel_rfl⟩)
def tab1 : List (List UInt8 × Nat) := [([99, 104, 97, 108, 107, 108, 105, 110, 101, 47, 101, 118, 97, 108, 46, 97, 116, 111, 109, 115, 36, 49], 457), ([99, 104, 97, 108, 107, 108, 105, 110, 101, 47, 101, 118, 97, 108, 46, 97, 116, 111, 109, 115, 36, 50], 458), ([99, 104, 97, 108, 107, 108, 105, 110, 101, 47, 101, 118, 97, 108, 46, 97, 116, 111, 109, 115, 36, 51], 459), ([99, 104, 97, 108, 107, 108, 105, 110, 101, 47, 101, 118, 97, 108, 46, 97, 116, 111, 109, 115, 36, 52], 461), ([99, 104, 97, 108, 107, 108, 105, 110, 101, 47, 101, 118, 97, 108, 46, 97, 116, 111, 109, 115, 36, 53], 463), ([99, 104, 97, 108, 107, 108, 105, 110, 101, 47, 101, 118, 97, 108, 46, 97, 116, 111, 109, 115, 36, 54], 465)]
theorem tab1_ok : ∀ z ∈ tab1, z.1 ≠ [] ∧ ((List.range Tryz.prog.funcs.size).filter fun f => (Tryz.prog.funcs[f]?).any (·.name.toUTF8.data.toList == z.1)) = [z.2] := by
  intro z hz
  simp only [tab1, List.mem_cons, List.not_mem_nil, or_false] at hz
  rcases hz with rfl | rfl | rfl | rfl | rfl | rfl
  · exact ⟨by simp, by kernel_rfl⟩
  · exact ⟨by simp, by kernel_rfl⟩
  · exact ⟨by simp, by kernel_rfl⟩
  · exact ⟨by simp, by kernel_rfl⟩
  · exact ⟨by simp, by kernel_rfl⟩
  · exact ⟨by simp, by kernel_rfl⟩
theorem or1 {W : World} (hs : W.ShapedOpen Tryz.prog) (hL : laidMetH Tryz.prog Rows.topCrashRecoveryRow.laid W) : ∃ b, W.heap[1]? = some (.cells #[.map (some b)] 309) ∧ ∀ σ, OR σ ⟨b, 0, 0⟩ W gb20 :=
  fmap_or hs hL (n := rowN 15) (d0 := (Rows.laid_chalkline_eval_atoms : DataW Unit).funcsIn?.getD .nil) (D := entries ((Rows.laid_chalkline_eval_atoms : DataW Unit).funcsIn?.getD .nil).funcsOut) (by simp [rowN, Rows.topCrashRecoveryRow, DataW.funcsIn?, Rows.laid_chalkline_eval_atoms]) (by kernel_rfl) (by kernel_rfl) (by decide) (by kernel_rfl) (by kernel_rfl) Tryz.underlying309 Tryz.underlying307 tab1_ok (es := lm gb20) (by kernel_rfl) (by kernel_rfl) (.inr ⟨Tryz.underlying3, by kernel_rfl⟩)
theorem OR.ne_map {σ : Sig} {W : World} {a b : Nat} {es fs : List (AV × AV)} (h1 : OR σ ⟨a, 0, 0⟩ W (.lmap es)) (h2 : OR σ ⟨b, 0, 0⟩ W (.lmap fs)) {f : Value → Value → Bool}
    (hne : es ≠ []) (he : ∀ e ∈ es, ∀ k v, conc σ e.1 = some k → conc σ e.2 = some v → f k v = true) (hf : ∀ e ∈ fs, ∀ k v, conc σ e.1 = some k → conc σ e.2 = some v → f k v = false) : a ≠ b := by
  intro hab
  subst hab
  obtain ⟨l1, c1, e1, a1, a2, _, _, a3⟩ := h1
  obtain ⟨l2, c2, e2, b1, b2, _, _, b3⟩ := h2
  rw [a1] at b1
  cases b1
  have read : ∀ (e2 : List (AV × AV × Nat)) (l : List MapEntry), concE σ e2 = some l → ∀ x ∈ l, ∃ z ∈ e2, conc σ z.1 = some x.key ∧ conc σ z.2.1 = some x.val := by
    intro e2
    induction e2 with
    | nil => intro l h x hx; simp [concE] at h; subst h; cases hx
    | cons z e2 ih =>
      intro l h x hx
      obtain ⟨k, v, l', q1, q2, q3, rfl⟩ := concE_cons' h
      rcases List.mem_cons.1 hx with rfl | hx
      · exact ⟨z, by simp, q1, q2⟩
      · obtain ⟨z', hz, r⟩ := ih l' q3 x hx
        exact ⟨z', by simp [hz], r⟩
  have hlen : l1.toList ≠ [] := by
    intro h0
    have := concE_length a3
    rw [h0] at this
    have h3 := a2.length_eq
    simp at this h3
    rw [← this] at h3
    exact hne (List.eq_nil_of_length_eq_zero (by simpa using h3.symm))
  obtain ⟨x, hx⟩ := List.exists_mem_of_ne_nil _ hlen
  obtain ⟨z1, hz1, p1, p2⟩ := read _ _ a3 x hx
  obtain ⟨z2, hz2, r1, r2⟩ := read _ _ b3 x hx
  have m1 := he _ (a2.mem_iff.1 (List.mem_map.2 ⟨z1, hz1, rfl⟩)) x.key x.val p1 p2
  have m2 := hf _ (b2.mem_iff.1 (List.mem_map.2 ⟨z2, hz2, rfl⟩)) x.key x.val r1 r2
  rw [m1] at m2; cases m2
end Go.Refl
end
