/-
  A part of the proof of TopCrashRecovery: an abstract machine that the kernel runs, and its soundness.
-/
import Derived.Test.YtpncejdamjbnlaaGreatDoorRe
import Derived.Laws.BytesString
import Derived.Laws.IdiomStrings
import Derived.Laws.RangeString
set_option linter.all false
section
namespace Go.Refl
open Go.RowKit
def OpS (P : Program) (C : Ctx) (op : Op) (tm : Tr AV) (h : AH) (v : AV) (h' : AH) : Prop :=
  ∀ (σ : Sig) (w : World) (ρ : Operand → Value) (o : Oper), o.op = op → HRel C σ h w → OpR σ tm ρ →
    ∃ σ' n z w', σ.le σ' ∧ (execOp ρ o).run P w = .ok n w' ∧ HRel C σ' h' w' ∧ (n = .value z ∨ n = .skip ∧ z = undef) ∧ VR σ' v z
theorem OpS.value {P : Program} {C : Ctx} {op : Op} {tm : Tr AV} {h : AH} {v : AV} {h' : AH} (hh : ∀ (σ : Sig) (w : World) (ρ : Operand → Value) (o : Oper), o.op = op → HRel C σ h w → OpR σ tm ρ →
    ∃ σ' z w', σ.le σ' ∧ (execOp ρ o).run P w = .ok (.value z) w' ∧ HRel C σ' h' w' ∧ VR σ' v z) : OpS P C op tm h v h' := fun σ w ρ o ho k hr => by
  obtain ⟨σ', z, w', a, b, c, d⟩ := hh σ w ρ o ho k hr
  exact ⟨σ', _, z, w', a, b, c, .inl rfl, d⟩
theorem OpS.pure {P : Program} {C : Ctx} {op : Op} {tm : Tr AV} {h : AH} {v : AV} (hh : ∀ (σ : Sig) (w : World) (ρ : Operand → Value) (o : Oper), o.op = op → HRel C σ h w → OpR σ tm ρ →
    ∃ z, (execOp ρ o).run P w = .ok (.value z) w ∧ VR σ v z) : OpS P C op tm h v h := OpS.value fun σ w ρ o ho k hr => by
  obtain ⟨z, a, b⟩ := hh σ w ρ o ho k hr
  exact ⟨σ, z, w, Sig.le.refl σ, a, k, b⟩
theorem OpS.skip {P : Program} {C : Ctx} {op : Op} {tm : Tr AV} {h h' : AH} (hh : ∀ (σ : Sig) (w : World) (ρ : Operand → Value) (o : Oper), o.op = op → HRel C σ h w → OpR σ tm ρ →
    ∃ w', (execOp ρ o).run P w = .ok .skip w' ∧ HRel C σ h' w') : OpS P C op tm h (.tup []) h' := fun σ w ρ o ho k hr => by
  obtain ⟨w', a, b⟩ := hh σ w ρ o ho k hr
  exact ⟨σ, _, undef, w', Sig.le.refl σ, a, b, .inr ⟨rfl, rfl⟩, .inr (by simp [conc, concL, undef])⟩
theorem range_rep (z : Array Value) : ∀ c : Nat, (List.range (c * z.size)).map (fun i => z[i % z.size]!) = (List.replicate c z.toList).flatten
  | 0 => by simp
  | c + 1 => by
    have e : (c + 1) * z.size = z.size + c * z.size := by rw [Nat.add_mul]; omega
    rw [e, List.range_add, List.map_append, List.replicate_succ, List.flatten_cons, ← range_rep z c]
    congr 1
    · apply List.ext_getElem?
      intro i
      by_cases hi : i < z.size
      · simp [List.getElem?_range hi, Nat.mod_eq_of_lt hi, hi]
      · rw [List.getElem?_eq_none (by simp; omega), List.getElem?_eq_none (by simp; omega)]
    · simp [List.map_map, Function.comp_def]
theorem range_rep' (z : Array Value) (c : Nat) : ((Array.range (c * z.size)).map (fun i => z[i % z.size]!)).toList = (List.replicate c z.toList).flatten := by
  rw [← range_rep]; simp
theorem concL_rep {σ : Sig} {z : List AV} {l : List Value} (h : concL σ z = some l) : ∀ c : Nat, concL σ (List.replicate c z).flatten = some (List.replicate c l).flatten
  | 0 => rfl
  | c + 1 => by
    rw [List.replicate_succ, List.replicate_succ, List.flatten_cons, List.flatten_cons]
    exact concL_append h (concL_rep h c)
section
variable {P : Program} {E : Env} {C : Ctx} (hE : EnvOk P E C)
include hE
theorem repK_spec : ∀ (n : Nat) (z : List AV) (g : List AV → Bool), repK z n g = true → g (List.replicate n z).flatten = true
  | 0, z, g, h => h
  | n + 1, z, g, h => by
    have := repK_spec n z _ (show repK z n (fun l => g (z ++ l)) = true from h)
    simpa [List.replicate_succ] using this
theorem zero_cells {t : TypeId} {a : ATy} (ht : E.ty.get t = some a) (hz : isBad a.zero = false) (hl : (cellsOf a.zero).length = a.size) :
    ∃ zv : Value, (∀ w, (zeroValue t).run P w = .ok zv w) ∧ zv.cells.size = a.size ∧ ∀ σ, concL σ (cellsOf a.zero) = some zv.cells.toList := by
  obtain ⟨i, q1, q2, q3, q4, q5⟩ := hE.ty t _ ht
  obtain ⟨zv, q6, q7⟩ := q5 hz
  refine ⟨zv, fun w => by simp [zeroValue, typeInfo, q1, q6], ?_, fun σ => cells_conc (q7 σ)⟩
  have := concL_length (cells_conc (q7 ⟨fun _ => none, 0⟩))
  rw [hl] at this; simpa using this
theorem opK_makeSlice {t : TypeId} {l c : Operand} {tm : Tr AV} {h : AH} {g : AV → AH → Bool} (hk : opK E (.makeSlice t l c) tm h g = true) : ∃ v h', g v h' = true ∧ OpS P C (.makeSlice t l c) tm h v h' := by
  simp only [opK] at hk
  obtain ⟨lv, h1, hl⟩ := ev_spec hE hk
  obtain ⟨cv, h2, hc⟩ := ev_spec hE h1
  obtain ⟨kl, ln, rfl, h3⟩ := intN_spec h2
  obtain ⟨kc, cn, rfl, h4⟩ := intN_spec h3
  split at h4
  · rename_i e _ _ _ ht
    split at h4
    · rename_i ea he
      obtain ⟨h5, h6⟩ := cond_f h4
      simp only [both_eq, Bool.not_eq_true'] at h5
      obtain ⟨⟨a1, a2⟩, a3, a4, a5⟩ := h5
      have a1 := ble_eq a1
      have a2 := ble_eq a2
      have a3 := ble_eq a3
      have a5 := beq_eq a5
      obtain ⟨m, hg, hp⟩ := newK_spec (repK_spec hE _ _ _ h6)
      refine ⟨_, _, hg, OpS.value fun σ w ρ o ho k hr => ?_⟩
      have e1 := (hl σ h w ρ k hr).conc (by simp)
      have e2 := (hc σ h w ρ k hr).conc (by simp)
      simp only [conc, Option.some.injEq] at e1 e2
      obtain ⟨zv, z1, z2, z3⟩ := zero_cells hE he a4 a5
      obtain ⟨i, i1, i2⟩ := run_bytes hE he w
      have w1 : IntKind.i64.wrap (ln : Int) = ln := wrap_in .i64 _ (Nat.ble_eq_true_of_le (by omega : _ ≤ 0x8000000000000000))
      have w2 : IntKind.i64.wrap (cn : Int) = cn := wrap_in .i64 _ (Nat.ble_eq_true_of_le (by omega : _ ≤ 0x8000000000000000))
      have hb : ea.bytes * cn ≤ 4294967296 := Nat.le_trans (Nat.mul_le_mul a3 a2) (by decide)
      obtain ⟨q1, q2⟩ := new_cells k hp (concL_rep (z3 σ) cn) [] 0 (by simp) ((Array.range (cn * ea.size)).map (fun i => zv.cells[i % zv.cells.size]!)) (by rw [← z2, range_rep']; simp) (fun _ => rfl)
      refine ⟨_, .slice (some ⟨w.heap.size, 0, none⟩) ln cn, _, q2, ?_, q1, .inr (by simp [conc, Sig.put_same])⟩
      have hneg : ¬ ((cn : Int) < 0) := by omega
      have hbig : ¬ (281474976710656 < (ea.bytes : Int) * cn) := by
        have : ((ea.bytes * cn : Nat) : Int) ≤ 4294967296 := Int.ofNat_le.2 hb
        rw [Int.natCast_mul] at this; omega
      have hlc : ¬ ((cn : Int) < ln) := by omega
      have hl0 : ¬ ((ln : Int) < 0) := by omega
      by_cases h0 : cn * ea.size = 0
      · simp [execOp, ho, Instr.makeSlice, ← e1, ← e2, run_und hE ht, asInt, asIntOf, i1, i2, w1, w2, hneg, hbig, hlc, hl0, run_size hE he, h0, show Array.range 0 = #[] from by simp, newRow]
      · simp [execOp, ho, Instr.makeSlice, ← e1, ← e2, run_und hE ht, asInt, asIntOf, i1, i2, w1, w2, hneg, hbig, hlc, hl0, run_size hE he, h0, z1, newRow]
    · cases h4
  · cases h4
theorem opK_buildSlice {t : TypeId} {n : Nat} {ps : Array (Nat × Operand)} {tm : Tr AV} {h : AH} {g : AV → AH → Bool} (hk : opK E (.buildSlice t n ps) tm h g = true) : ∃ v h', g v h' = true ∧ OpS P C (.buildSlice t n ps) tm h v h' := by
  simp only [opK] at hk
  split at hk
  · rename_i e _ _ _ ht
    split at hk
    · rename_i ea he
      obtain ⟨h5, h6⟩ := cond_f hk
      simp only [both_eq, Bool.not_eq_true'] at h5
      obtain ⟨a1, a4, a5⟩ := h5
      have a1 := ble_eq a1
      have a5 := beq_eq a5
      obtain ⟨zv, z1, z2, z3⟩ := zero_cells hE he a4 a5
      have h7 := repK_spec hE _ _ _ h6
      obtain ⟨cs', h8, hs⟩ := fillK_spec (P := P) (C := C) (pc := fun i => some (i * ea.size, ea.size)) hE (fun i f hf => ⟨_, _, by rw [fn_eq] at hf; exact hf, rfl⟩) h7
      obtain ⟨m, hg, hp⟩ := newK_spec h8
      refine ⟨_, _, hg, OpS.value fun σ w ρ o ho k hr => ?_⟩
      obtain ⟨l', r1, r2⟩ := hs σ h w ρ _ k hr (concL_rep (z3 σ) n)
      obtain ⟨q1, q2⟩ := new_cells k hp r2 [] 0 (by simp) l'.toArray (by simp) (fun _ => rfl)
      refine ⟨_, .slice (some ⟨w.heap.size, 0, none⟩) n n, _, q2, ?_, q1, .inr (by simp [conc, Sig.put_same])⟩
      have a1' : ¬ (2 ^ 24 < n * ea.size) := by have : n * ea.size ≤ 65536 := a1; omega
      have r0 : (Array.range (n * ea.size)).map (fun i => zv.cells[i % zv.cells.size]!) = (List.replicate n zv.cells.toList).flatten.toArray := by
        apply Array.ext'; rw [← z2, range_rep']
      have r1' : Instr.fill (fun i => some (i * ea.size, ea.size)) (List.replicate n zv.cells.toList).flatten.toArray (ps.toList.map fun (i, x) => (i, ρ x)) = some l'.toArray := r1
      by_cases h0 : n * ea.size = 0
      · have r3 : (List.replicate n zv.cells.toList).flatten.toArray = #[] := by rw [← r0, h0]; simp
        rw [r3] at r1'
        simp [execOp, ho, Instr.buildSlice, run_und hE ht, run_size hE he, a1', h0, show Array.range 0 = #[] from by simp, r1', newRow]
      · simp [execOp, ho, Instr.buildSlice, run_und hE ht, run_size hE he, a1', h0, z1, r0, r1', newRow]
    · cases hk
  · cases hk
theorem opK_next {x : Operand} {b : Bool} {tm : Tr AV} {h : AH} {g : AV → AH → Bool} (hk : opK E (.next x b) tm h g = true) : ∃ v h', g v h' = true ∧ OpS P C (.next x b) tm h v h' := by
  cases b with
  | false => exact absurd (show false = true from hk) (by decide)
  | true =>
  simp only [opK] at hk
  obtain ⟨xv, h1, hx⟩ := ev_spec hE hk
  split at h1
  · rename_i b
    split at h1
    · rename_i s pos hb
      rw [nth_eq] at h1
      split at h1
      · rename_i c hc
        obtain ⟨h2, h3⟩ := cond_f h1
        have h2 := ble_eq h2
        obtain ⟨m, h4, hp⟩ := Tr.set_spec _ _ _ _ h3
        rw [fn_eq] at h4
        refine ⟨_, _, h4, OpS.value fun σ w ρ o ho k hr => ?_⟩
        have := (hx σ h w ρ k hr).conc (by simp)
        simp only [conc, Option.map_eq_some_iff] at this
        obtain ⟨y, hy, he⟩ := this
        obtain ⟨o0, o1, o2⟩ := k.obj b _ y hb hy
        have hlt : pos < s.length := (List.getElem?_eq_some_iff.1 hc).1
        have hsc : s[pos] = c := by rw [List.getElem?_eq_getElem hlt] at hc; simpa using hc
        have hlt' : pos < (bytesOf s).size := by rw [bytesOf_size]; exact hlt
        have hcn : ((bytesOf s)[pos]'hlt').toNat = c := by
          have : ((bytesOf s)[pos]'hlt') = UInt8.ofNat c := by simp [bytesOf, ByteArray.getElem_eq_getElem_data, hsc]
          rw [this]; simp [UInt8.toNat_ofNat']; omega
        have hdec := decode_ascii (bytesOf s) pos hlt' (by omega)
        have hlt2 := (Array.getElem?_eq_some_iff.1 o2).1
        refine ⟨σ, .tuple #[.bool true, .int .i64 pos, .int .i32 c], { w with heap := w.heap.setIfInBounds y.blk (.stringIter (bytesOf s) (pos + 1)) }, Sig.le.refl σ, ?_,
          turn_obj k hb hy rfl rfl hp _ hlt2 rfl ⟨o0, o1, by simp [hlt2]⟩, .inr (by simp [conc, concL])⟩
        simp [execOp, ho, Instr.next, ← he, o0, getObj, setObj, Sem.run, o2, hlt', hdec, hcn, goInt]
      · rename_i hc
        refine ⟨_, _, h1, OpS.pure fun σ w ρ o ho k hr => ?_⟩
        have := (hx σ h w ρ k hr).conc (by simp)
        simp only [conc, Option.map_eq_some_iff] at this
        obtain ⟨y, hy, he⟩ := this
        obtain ⟨o0, o1, o2⟩ := k.obj b _ y hb hy
        have hlt' : ¬ pos < (bytesOf s).size := by
          rw [bytesOf_size]; simp at hc; omega
        exact ⟨.tuple #[.bool false], by simp [execOp, ho, Instr.next, ← he, o0, getObj, Sem.run, o2, hlt'], .inr (by simp [conc, concL])⟩
    · cases h1
  · cases h1
omit hE in
theorem concL_ints {σ : Sig} : ∀ s : List Nat, concL σ (s.map fun n => AV.int .u8 (.ofNat n)) = some ((s.map Int.ofNat).map (Value.int .u8))
  | [] => rfl
  | n :: s => by
    have := concL_ints (σ := σ) s
    simp only [List.map_cons, concL, conc, this]; rfl
omit hE in
theorem bytes_ints (s : List Nat) (h : byteOk s = true) : ((bytesOf s).data.toList.map fun b => (b.toNat : Int)) = s.map Int.ofNat := by
  have := (byteOk_iff s).1 h
  simp [bytesOf]
  intro n hn
  have := this n hn
  omega
theorem ofU8s_spec : ∀ (l : List AV) (g : List Nat → Bool), ofU8s l g = true → ∃ s, g s = true ∧ l = s.map (fun n => AV.int .u8 (.ofNat n)) ∧ byteOk s = true := by
  intro l
  induction l with
  | nil => exact fun g h => ⟨[], h, rfl, rfl⟩
  | cons v l ih =>
    intro g
    have key : ofU8s (v :: l) g = (match v with | .int .u8 (.ofNat n) => cond (Nat.ble n 255) (ofU8s l fun s => g (n :: s)) false | _ => false) := rfl
    rw [key]
    intro h'
    split at h'
    · rename_i n
      obtain ⟨h1, h2⟩ := cond_f h'
      obtain ⟨s, h3, h4, h5⟩ := ih _ h2
      have h1 := ble_eq h1
      exact ⟨n :: s, h3, by simp [h4], by simp [byteOk, h5, h1]⟩
    · cases h'
theorem und_of {t : TypeId} {a : ATy} {d : TypeDesc} (ht : E.ty.get t = some a) (hd : a.d = d) : P.underlying t = some d := by
  obtain ⟨i, h1, h2, h3, h4, h5⟩ := hE.ty t a ht
  rw [h2, hd]
theorem opK_convert {s d : TypeId} {x : Operand} {tm : Tr AV} {h : AH} {g : AV → AH → Bool} (hk : opK E (.convert s d x) tm h g = true) : ∃ v h', g v h' = true ∧ OpS P C (.convert s d x) tm h v h' := by
  simp only [opK] at hk
  obtain ⟨xv, h1, hx⟩ := ev_spec hE hk
  split at h1
  · rename_i sa da hs hd
    have us := fun w => run_und (P := P) (C := C) hE hs (w := w)
    have ud := fun w => run_und (P := P) (C := C) hE hd (w := w)
    split at h1
    ·
      rename_i ks kd kx n e1 e2
      rw [e1] at us; rw [e2] at ud
      refine ⟨_, h, wr_spec h1, OpS.pure fun σ w ρ o ho k hr => ?_⟩
      have := (hx σ h w ρ k hr).conc (by simp)
      simp only [conc, Option.some.injEq] at this
      refine ⟨.int kd (kd.wrap n), ?_, .inr rfl⟩
      simp only [execOp, ho, ← this, convert, Sem.run_bind, us, ud, Result.andThen_ok]
      simp [Conv.intToInt]
    ·
      rename_i e s e1 e2
      rw [e1] at us; rw [e2] at ud
      split at h1
      · rename_i _ _ he
        have ue := fun w => run_und (P := P) (C := C) hE he (w := w)
        have h2 := u8s_spec _ _ h1
        rw [fn_eq] at h2
        obtain ⟨m, hg, hp⟩ := newK_spec h2
        refine ⟨_, _, hg, OpS.value fun σ w ρ o ho k hr => ?_⟩
        have := (hx σ h w ρ k hr).conc (by simp)
        simp only [conc] at this
        split at this <;> simp at this
        rename_i hby
        have hr' := run_bytes_of_string (P := P) w _ _ e (bytesOf s) (und_of hE hs e1) (und_of hE hd e2) (und_of hE he rfl)
        generalize hcap : grownCap w (bytesOf s).size 0 e = cap at hr'
        have hcap' : (bytesOf s).size ≤ cap := by rw [← hcap]; unfold grownCap; exact Nat.le_add_right _ _
        refine ⟨_, _, _, k.lp ⟨w.heap.size, 0, cap - s.length⟩, by simp only [execOp, ho, ← this, Sem.run_bind, hr', Result.andThen_ok, Sem.run_pure]; rfl, k.drew.new hp 0 (cap - s.length) _ fun σ' _ => ?_, .inr ?_⟩
        · refine ⟨_, _, alloc_get _ _, ?_, fun i v hi => ?_, fun _ => .inr (Nat.le_refl _), fun e => absurd e (by decide)⟩
          · have : (bytesOf s).data.size = s.length := bytesOf_size s
            rw [bytesOf_size] at hcap'
            simp [bytesRow, bytesOf_size] <;> omega
          · have hc := u8s_conc (σ := σ') s hby
            obtain ⟨z, hz, hzc⟩ := concL_get hc i v hi
            refine .inr ⟨z, ?_, hzc⟩
            have hlt : i < (bytesOf s).data.size := by
              have := (List.getElem?_eq_some_iff.1 hz).1; simpa using this
            rw [Nat.zero_add, bytesRow_at _ _ _ hlt]
            have hz' : ((bytesOf s).data.toList.map fun b => Value.int .u8 b.toNat)[i]? = some z := hz
            rw [List.getElem?_map, Array.getElem?_toList, Array.getElem?_eq_getElem hlt] at hz'
            exact hz'
        · rw [bytesOf_size] at hcap'
          simp only [conc, Sig.put_same, Option.map_some, if_true, bytesOf_size]
          have : s.length + (cap - s.length) = cap := by omega
          rw [this]
      · cases h1
    ·
      rename_i e e1 e2
      rw [e1] at us; rw [e2] at ud
      split at h1
      · rename_i _ _ _ he
        refine ⟨_, h, h1, OpS.pure fun σ w ρ o ho k hr => ?_⟩
        have := (hx σ h w ρ k hr).conc (by simp)
        simp only [conc, Option.some.injEq] at this
        refine ⟨.string (bytesOf []), ?_, .inr (by simp [conc, byteOk])⟩
        simp only [execOp, ho, ← this, Sem.run_bind, run_convert_bytes_string w _ _ e _ _ _ (und_of hE hs e1) (und_of hE he rfl) (und_of hE hd e2)]
        rfl
      · cases h1
    ·
      rename_i e b o' len cap op e1 e2
      rw [e1] at us; rw [e2] at ud
      split at h1
      · rename_i _ _ _ he
        obtain ⟨cs, all, e', z, ro, hg, hm, hcs, hl, _, hb⟩ := rdK_spec h1
        obtain ⟨s, hg2, hs2, hby⟩ := ofU8s_spec hE _ _ hg
        refine ⟨_, h, hg2, OpS.pure fun σ w ρ o ho k hr => ?_⟩
        have := (hx σ h w ρ k hr).conc (by simp)
        simp only [conc, Option.map_eq_some_iff] at this
        obtain ⟨y, hy, hex⟩ := this
        subst hcs
        obtain ⟨vals, hv, hvl, hrd⟩ := rd_conc k hm hy hl hb
        refine ⟨.string (bytesOf s), ?_, .inr (by simp [conc, hby])⟩
        have hload := run_load_n (P := P) hvl hrd
        have hvals : vals = ((s.map Int.ofNat).map (Value.int .u8)) := by
          rw [hs2] at hv
          have := (concL_ints (σ := σ) s).symm.trans hv
          simpa using this.symm
        rw [hvals] at hload
        simp only [execOp, ho, ← hex, Sem.run_bind, run_convert_bytes_string w _ _ e _ _ _ (und_of hE hs e1) (und_of hE he rfl) (und_of hE hd e2), run_bytesToString w _ _ _ _ hload]
        simp only [Result.andThen_ok, Sem.run_pure]
        rw [show s.map Int.ofNat = ((bytesOf s).data.toList.map fun b => (b.toNat : Int)) from (bytes_ints s hby).symm, foldl_push_byteCells]
        have : (⟨ByteArray.empty.data ++ (bytesOf s).data.toList.toArray⟩ : ByteArray) = bytesOf s := by
          have he0 : ByteArray.empty.data = #[] := rfl
          rw [he0]; simp
        rw [this]
      · cases h1
    ·
      rename_i e b o' len cap op e1 e2
      rw [e1] at us; rw [e2] at ud
      split at h1
      · rename_i _ _ _ he
        obtain ⟨h2, h3⟩ := cond_f h1
        have h2 := beq_eq h2
        split at h3
        · rename_i cs et z hm
          refine ⟨_, h, h3, OpS.value fun σ w ρ o ho k hr => ?_⟩
          have := (hx σ h w ρ k hr).conc (by simp)
          have hz := this
          simp only [conc, Option.map_eq_some_iff] at this
          obtain ⟨y, hy, hex⟩ := this
          obtain ⟨arr, fz, a1, a2, a3, a4⟩ := k.obj b _ y hm hy
          have hlt : y.blk < w.heap.size := (Array.getElem?_eq_some_iff.1 a1).1
          have hsh : w.shape? y.blk = some (et, arr.size) := by simp [World.shape?, a1]
          obtain ⟨fz', b1, b2⟩ : ∃ fz' : Nat × Nat, (∀ j, (w.freeze ⟨y.blk, arr.size, none⟩ 1).heap[j]? = if j = y.blk then some (.cells arr et fz') else w.heap[j]?) ∧ (fz'.1 = fz'.2 ∨ arr.size ≤ fz'.1) := by
            refine ⟨if fz.1 == fz.2 then (arr.size, arr.size + 1) else (min fz.1 arr.size, max fz.2 (arr.size + 1)), fun j => ?_, ?_⟩
            · unfold World.freeze
              rw [if_neg (by decide)]
              show (w.heap.modify y.blk _)[j]? = _
              rw [Array.getElem?_modify]
              by_cases e : j = y.blk
              · subst e; simp [a1]
              · rw [if_neg (Ne.symm e), if_neg e]
            · rcases a4.1 rfl with a4 | a4
              · simp [a4]
              · split
                · simp
                · right; simp; omega
          have hB := k.own b _ y hm hy rfl rfl
          have hs2 : (w.freeze ⟨y.blk, arr.size, none⟩ 1).heap.size = w.heap.size := by unfold World.freeze; rw [if_neg (by decide)]; simp
          refine ⟨σ, _, w.freeze ⟨y.blk, arr.size, none⟩ 1, Sig.le.refl σ, ?_, ?_, .inr hz⟩
          · have hsd : (s == d) = true := by simpa using h2
            have hfr : (freeze { block := y.blk, off := arr.size } 1).run P w = .ok () (w.freeze ⟨y.blk, arr.size, none⟩ 1) := rfl
            have hsp : (shape y.blk).run P w = .ok (some (et, arr.size)) w := by show Result.ok (w.shape? y.blk) w = _; rw [hsh]
            have ue := fun w => run_und (P := P) (C := C) hE he (w := w)
            simp only [execOp, ho, ← hex, Sem.run_bind, convert, us, ud, Result.andThen_ok, hsd, ue, markStringish, hsp, hfr, Sem.run_pure]
          · have hm' : h.m.Put b (.cells cs et z false) h.m := fun c => by
              by_cases e : c = b
              · subst e; rw [if_pos rfl, hm]
              · rw [if_neg e]
            refine k.turn hm hy rfl rfl hm' (fun hB' => ⟨rfl, rfl, rfl, by rw [hs2]; exact Nat.le_refl _, fun j hj => by rw [b1, if_neg (by omega)]⟩) hs2 (fun j hj => by rw [b1, if_neg hj]) rfl ⟨arr, fz', by rw [b1, if_pos rfl], a2, a3, fun _ => b2, a4.2⟩
        · cases h3
      · cases h1
    · cases h1
  · cases h1
end
end Go.Refl
end
section
namespace Go.Refl
open Go.RowKit
theorem concE_length {σ : Sig} : ∀ {es : List (AV × AV × Nat)} {l : List MapEntry}, concE σ es = some l → l.length = es.length
  | [], l, h => by simp [concE] at h; subst h; rfl
  | (k, v, n) :: es, l, h => by
    simp only [concE] at h
    cases hk : conc σ k with
    | none => rw [hk] at h; cases h
    | some y =>
      cases hv : conc σ v with
      | none => rw [hk, hv] at h; cases h
      | some z =>
        cases he : concE σ es with
        | none => rw [hk, hv, he] at h; cases h
        | some l' => rw [hk, hv, he] at h; cases h; simp [concE_length he]
section
variable {P : Program} {E : Env} {C : Ctx} (hE : EnvOk P E C)
include hE
theorem arr1 {α : Type} {a : Array α} {x : α} (h : a.toList = [x]) : a = #[x] := by apply Array.ext'; simpa using h
theorem arr2 {α : Type} {a : Array α} {x y : α} (h : a.toList = [x, y]) : a = #[x, y] := by apply Array.ext'; simpa using h
theorem opK_call {c : Call} {tm : Tr AV} {h : AH} {g : AV → AH → Bool} (hk : opK E (.call c) tm h g = true) : ∃ v h', g v h' = true ∧ OpS P C (.call c) tm h v h' := by
  obtain ⟨callee, args, tys⟩ := c
  cases callee with
  | value f => exact absurd (show false = true from hk) (by decide)
  | invoke r n => exact absurd (show false = true from hk) (by decide)
  | builtin b =>
  simp only [opK] at hk
  split at hk
  ·
    rename_i x t ha htt
    cases arr1 hE ha; cases arr1 hE htt
    obtain ⟨xv, h1, hx⟩ := ev_spec hE hk
    have run : ∀ (σ : Sig) (w : World) (ρ : Operand → Value) (o : Oper), o.op = .call ⟨.builtin .len, #[x], #[t]⟩ → ∀ z w', (Builtin.len_ #[t] o.type #[ρ x]).run P w = .ok z w' → (execOp ρ o).run P w = .ok (.value z) w' := fun σ w ρ o ho z w' hr => by
      simp [execOp, ho, resolve, invoke, builtin, hr]
    split at h1
    · rename_i a ht
      have ut := fun w => run_und (P := P) (C := C) hE ht (w := w)
      split at h1
      · rename_i s e1
        rw [e1] at ut
        rw [fn_eq] at h1
        refine ⟨_, h, h1, OpS.pure fun σ w ρ o ho k hr => ?_⟩
        have := (hx σ h w ρ k hr).conc (by simp)
        simp only [conc] at this
        split at this <;> simp at this
        exact ⟨.int .i64 s.length, run σ w ρ o ho _ _ (by simp [Builtin.len_, ut, ← this, goInt, bytesOf_size]), .inr rfl⟩
      · rename_i n e e1
        rw [e1] at ut
        refine ⟨_, h, h1, OpS.pure fun σ w ρ o ho k hr => ?_⟩
        exact ⟨.int .i64 n, run σ w ρ o ho _ _ (by simp [Builtin.len_, ut, goInt]), .inr rfl⟩
      · rename_i e e1
        rw [e1] at ut
        refine ⟨_, h, h1, OpS.pure fun σ w ρ o ho k hr => ?_⟩
        have := (hx σ h w ρ k hr).conc (by simp)
        simp only [conc, Option.some.injEq] at this
        exact ⟨.int .i64 0, run σ w ρ o ho _ _ (by simp [Builtin.len_, ut, ← this, goInt]), .inr rfl⟩
      · rename_i e b o' n c op e1
        rw [e1] at ut
        refine ⟨_, h, h1, OpS.pure fun σ w ρ o ho k hr => ?_⟩
        have := (hx σ h w ρ k hr).conc (by simp)
        simp only [conc, Option.map_eq_some_iff] at this
        obtain ⟨y, hy, hex⟩ := this
        exact ⟨.int .i64 n, run σ w ρ o ho _ _ (by simp [Builtin.len_, ut, ← hex, goInt]), .inr rfl⟩
      · rename_i kt et e1
        rw [e1] at ut
        refine ⟨_, h, h1, OpS.pure fun σ w ρ o ho k hr => ?_⟩
        have := (hx σ h w ρ k hr).conc (by simp)
        simp only [conc, Option.some.injEq] at this
        exact ⟨.int .i64 0, run σ w ρ o ho _ _ (by simp [Builtin.len_, ut, ← this, goInt]), .inr rfl⟩
      · rename_i kt et b e1
        rw [e1] at ut
        split at h1
        · rename_i es clock ro hm
          rw [fn_eq] at h1
          refine ⟨_, h, h1, OpS.pure fun σ w ρ o ho k hr => ?_⟩
          have := (hx σ h w ρ k hr).conc (by simp)
          simp only [conc, Option.map_eq_some_iff] at this
          obtain ⟨y, hy, hex⟩ := this
          obtain ⟨es', q1, q2⟩ := k.obj b _ y hm hy
          have hl := concE_length q2
          have hget : (getObj y.blk).run P w = .ok (.map es' clock) w := by simp [getObj, Sem.run, q1]
          refine ⟨.int .i64 es.length, run σ w ρ o ho _ _ ?_, .inr rfl⟩
          have hl' : es'.size = es.length := by simpa using hl
          simp [Builtin.len_, ut, ← hex, hget, goInt, hl']
        · cases h1
      · cases h1
    · cases h1
  ·
    rename_i x t ha htt
    cases arr1 hE ha; cases arr1 hE htt
    obtain ⟨xv, h1, hx⟩ := ev_spec hE hk
    have run : ∀ (σ : Sig) (w : World) (ρ : Operand → Value) (o : Oper), o.op = .call ⟨.builtin .cap, #[x], #[t]⟩ → ∀ z w', (Builtin.cap_ #[t] o.type #[ρ x]).run P w = .ok z w' → (execOp ρ o).run P w = .ok (.value z) w' := fun σ w ρ o ho z w' hr => by
      simp [execOp, ho, resolve, invoke, builtin, hr]
    split at h1
    · rename_i a ht
      have ut := fun w => run_und (P := P) (C := C) hE ht (w := w)
      split at h1
      · rename_i e e1
        rw [e1] at ut
        refine ⟨_, h, h1, OpS.pure fun σ w ρ o ho k hr => ?_⟩
        have := (hx σ h w ρ k hr).conc (by simp)
        simp only [conc, Option.some.injEq] at this
        exact ⟨.int .i64 0, run σ w ρ o ho _ _ (by simp [Builtin.cap_, ut, ← this, goInt]), .inr rfl⟩
      · rename_i e b o' n c e1
        rw [e1] at ut
        refine ⟨_, h, h1, OpS.pure fun σ w ρ o ho k hr => ?_⟩
        have := (hx σ h w ρ k hr).conc (by simp)
        simp only [conc, Option.map_eq_some_iff] at this
        obtain ⟨y, hy, hex⟩ := this
        exact ⟨.int .i64 c, run σ w ρ o ho _ _ (by simp [Builtin.cap_, ut, ← hex, goInt]), .inr rfl⟩
      · cases h1
    · cases h1
  ·
    rename_i x y ha
    cases arr2 hE ha
    obtain ⟨xv, h1, hx⟩ := ev_spec hE hk
    obtain ⟨yv, h2, hy⟩ := ev_spec hE h1
    split at h2
    · rename_i k' a k2 b
      refine ⟨_, h, h2, OpS.pure fun σ w ρ o ho k hr => ?_⟩
      have e1 := (hx σ h w ρ k hr).conc (by simp)
      have e2 := (hy σ h w ρ k hr).conc (by simp)
      simp only [conc, Option.some.injEq] at e1 e2
      refine ⟨.int k' (if b > a then b else a), ?_, .inr ?_⟩
      · simp [execOp, ho, resolve, invoke, builtin, Builtin.max_, Builtin.max2, ← e1, ← e2]
      · simp only [conc, ltI_eq, Bool.cond_decide]
    · cases h2
  ·
    rename_i x y ha
    cases arr2 hE ha
    obtain ⟨xv, h1, hx⟩ := ev_spec hE hk
    obtain ⟨yv, h2, hy⟩ := ev_spec hE h1
    split at h2
    · rename_i k' a k2 b
      refine ⟨_, h, h2, OpS.pure fun σ w ρ o ho k hr => ?_⟩
      have e1 := (hx σ h w ρ k hr).conc (by simp)
      have e2 := (hy σ h w ρ k hr).conc (by simp)
      simp only [conc, Option.some.injEq] at e1 e2
      refine ⟨.int k' (if b < a then b else a), ?_, .inr ?_⟩
      · simp [execOp, ho, resolve, invoke, builtin, Builtin.min_, Builtin.min2, ← e1, ← e2]
      · simp only [conc, ltI_eq, Bool.cond_decide]
    · cases h2
  ·
    rename_i s x st xt ha htt
    cases arr2 hE ha; cases arr2 hE htt
    obtain ⟨sv, h1, hs⟩ := ev_spec hE hk
    obtain ⟨xv, h2, hx⟩ := ev_spec hE h1
    obtain ⟨v, h', hg, happ⟩ := appendK_spec (P := P) (C := C) hE h2
    refine ⟨v, h', hg, OpS.value fun σ w ρ o ho k hr => ?_⟩
    obtain ⟨σ', z, w', r1, r2, r3, r4⟩ := happ o.type σ w _ _ k (hs σ h w ρ k hr) (hx σ h w ρ k hr)
    refine ⟨σ', z, w', r1, ?_, r4, .inr r3⟩
    simp [execOp, ho, resolve, invoke, builtin, r2]
  ·
    rename_i d s dt _ ha htt
    cases arr2 hE ha; cases arr2 hE htt
    obtain ⟨dv, h1, hd⟩ := ev_spec hE hk
    obtain ⟨sv, h2, hs⟩ := ev_spec hE h1
    split at h2
    · rename_i e _ _ _ ht
      have ut := fun w => run_und (P := P) (C := C) hE ht (w := w)
      split at h2
      · rename_i ea he
        have us := fun w => run_size (P := P) (C := C) hE he (w := w)
        split at h2
        · rename_i b o' len cap op
          obtain ⟨xs, n, h3, hl, hsrc⟩ := srcK_spec (P := P) (C := C) h2
          obtain ⟨h4, h5⟩ := cond_f h3
          have h4 := ble_eq h4
          cases n with
          | zero =>
            refine ⟨_, h, h5, OpS.pure fun σ w ρ o ho k hr => ?_⟩
            have := (hd σ h w ρ k hr).conc (by simp)
            simp only [conc, Option.map_eq_some_iff] at this
            obtain ⟨y, hy, hex⟩ := this
            obtain ⟨vals, v1, v2, v3⟩ := hsrc σ w _ k (hs σ h w ρ k hr)
            have hvl := concL_length v1
            have hv0 : vals = [] := List.eq_nil_of_length_eq_zero (by rw [hvl, hl]; simp)
            subst hv0
            refine ⟨.int .i64 0, ?_, .inr rfl⟩
            simp [execOp, ho, resolve, invoke, builtin, Builtin.copy_, ut, us, ← hex, v2, v3, storeCells, goInt, Nat.min_def]
          | succ n =>
            obtain ⟨cs, e', z, m, hg, hm, hle, hsc, hp⟩ := wrK_spec h5
            refine ⟨_, _, hg, OpS.value fun σ w ρ o ho k hr => ?_⟩
            have := (hd σ h w ρ k hr).conc (by simp)
            simp only [conc, Option.map_eq_some_iff] at this
            obtain ⟨y, hy, hex⟩ := this
            obtain ⟨vals, v1, v2, v3⟩ := hsrc σ w _ k (hs σ h w ρ k hr)
            obtain ⟨w', r1, r2⟩ := wr_sound (P := P) k hm hle hsc hp hy v1
            refine ⟨σ, .int .i64 (n + 1 : Nat), w', Sig.le.refl σ, ?_, r2, .inr rfl⟩
            have hmin : Nat.min (n + 1) len = n + 1 := Nat.min_eq_left h4
            simp only [execOp, ho, resolve, invoke, builtin, List.map_toArray, List.map_cons, List.map_nil, Sem.run_bind, Sem.run_pure, Result.andThen_ok, ← hex]
            simp [Builtin.copy_, ut, us, v2, hmin, v3, r1, goInt]
        · cases h2
      · cases h2
    · cases h2
  · cases hk
end
end Go.Refl
end
section
namespace Go.Refl
open Go.RowKit
section
variable {P : Program} {E : Env} {C : Ctx} (hE : EnvOk P E C)
include hE
omit hE in
theorem okL_conc {σ : Sig} {ρ : Operand → Value} : ∀ {vs : List AV} {l : List Operand}, okL vs = true → vs.length = l.length → (∀ (i : Nat) v o, vs[i]? = some v → l[i]? = some o → VR σ v (ρ o)) → concL σ vs = some (l.map ρ)
  | [], [], _, _, _ => rfl
  | [], _ :: _, _, h, _ => by simp at h
  | _ :: _, [], _, h, _ => by simp at h
  | v :: vs, o :: l, hk, hl, hh => by
    obtain ⟨h1, h2⟩ := cond_t (show cond (isBad v) false (okL vs) = true from hk)
    have e1 := (hh 0 v o (by simp) (by simp)).conc' h1
    have e2 := okL_conc h2 (by simpa using hl) (fun i u p a b => hh (i + 1) u p (by simpa using a) (by simpa using b))
    simp [concL, e1, e2]
theorem run_places (fs : Array Field) (h : allTy E fs.toList = true) : ∃ pl : Array (Nat × Nat), (∀ w, (fs.mapM fun f => do pure (f.offset, ← sizeOf f.type) : Sem (Array (Nat × Nat))).run P w = .ok pl w) ∧
    ∀ (i : Nat) fd fa, fs[i]? = some fd → E.ty.get fd.type = some fa → pl[i]? = some (fd.offset, fa.size) := by
  have key : ∀ l : List Field, allTy E l = true → ∃ pl : List (Nat × Nat), (∀ w, (l.mapM fun f => do pure (f.offset, ← sizeOf f.type) : Sem (List (Nat × Nat))).run P w = .ok pl w) ∧
      ∀ (i : Nat) fd fa, l[i]? = some fd → E.ty.get fd.type = some fa → pl[i]? = some (fd.offset, fa.size) := fun l => by
    induction l with
    | nil => exact fun _ => ⟨[], fun w => by simp, fun i fd fa e => by simp at e⟩
    | cons f l ih =>
      intro hl
      have hl' : (match E.ty.get f.type with | some _ => allTy E l | none => false) = true := hl
      split at hl'
      · rename_i a ha
        obtain ⟨pl, h1, h2⟩ := ih hl'
        refine ⟨(f.offset, a.size) :: pl, fun w => ?_, fun i fd fa e1 e2 => ?_⟩
        · simp only [List.mapM_cons, Sem.run_bind, run_size hE ha, Result.andThen_ok, Sem.run_pure, h1]
        · cases i with
          | zero => simp at e1; subst e1; rw [ha] at e2; cases e2; simp
          | succ i => simp at e1; simpa using h2 i fd fa e1 e2
      · cases hl'
  obtain ⟨pl, h1, h2⟩ := key fs.toList h
  refine ⟨pl.toArray, fun w => ?_, fun i fd fa e1 e2 => by simpa using h2 i fd fa (by simpa using e1) e2⟩
  rw [Array.mapM_eq_mapM_toList, Sem.run_map, h1]; rfl
theorem opK_spec {op : Op} {tm : Tr AV} {h : AH} {g : AV → AH → Bool} (hk : opK E op tm h g = true) : ∃ v h', g v h' = true ∧ OpS P C op tm h v h' := by
  cases op with
  | move x =>
    simp only [opK] at hk
    obtain ⟨v, hv, hs⟩ := ev_spec hE hk
    exact ⟨v, h, hv, OpS.pure fun σ w ρ o ho k hr => ⟨ρ x, by simp [execOp, ho], hs σ h w ρ k hr⟩⟩
  | assign x =>
    simp only [opK] at hk
    obtain ⟨v, hv, hs⟩ := ev_spec hE hk
    exact ⟨v, h, hv, OpS.pure fun σ w ρ o ho k hr => ⟨ρ x, by simp [execOp, ho], hs σ h w ρ k hr⟩⟩
  | pick c x y =>
    simp only [opK] at hk
    obtain ⟨cv, hc, hcs⟩ := ev_spec hE hk
    split at hc
    · rename_i b
      have hcb : ∀ σ w ρ, HRel C σ h w → OpR σ tm ρ → ρ c = .bool b := fun σ w ρ k hr => by
        have := (hcs σ h w ρ k hr).conc (by simp); simp only [conc, Option.some.injEq] at this; exact this.symm
      cases b with
      | true =>
        obtain ⟨v, hv, hs⟩ := ev_spec hE (show ev E x tm (fun v => g v h) = true from hc)
        exact ⟨v, h, hv, OpS.pure fun σ w ρ o ho k hr => ⟨ρ x, by simp [execOp, ho, hcb σ w ρ k hr, asBool], hs σ h w ρ k hr⟩⟩
      | false =>
        obtain ⟨v, hv, hs⟩ := ev_spec hE (show ev E y tm (fun v => g v h) = true from hc)
        exact ⟨v, h, hv, OpS.pure fun σ w ρ o ho k hr => ⟨ρ y, by simp [execOp, ho, hcb σ w ρ k hr, asBool], hs σ h w ρ k hr⟩⟩
    · cases hc
  | alloc t =>
    simp only [opK] at hk
    split at hk
    · rename_i a ht
      obtain ⟨hz, hk⟩ := cond_t hk
      obtain ⟨b, h', hg, hb, hs⟩ := varK_spec (P := P) (C := C) hE hk
      refine ⟨b, h', hg, OpS.value fun σ w ρ o ho k hr => ?_⟩
      obtain ⟨z, hzr, hzc⟩ := run_zero hE ht w hz
      obtain ⟨σ', w', ad, r1, r2, r3, r4⟩ := hs σ w z k (hzc σ)
      exact ⟨σ', _, w', r1, by simp [execOp, ho, Instr.alloc, hzr, r2], r3, .inr r4⟩
    · cases hk
  | box t x =>
    simp only [opK] at hk
    obtain ⟨v, hv, hvs⟩ := ev_spec hE hk
    obtain ⟨hz, hk⟩ := cond_t hv
    obtain ⟨b, h', hg, hb, hs⟩ := varK_spec (P := P) (C := C) hE hk
    refine ⟨b, h', hg, OpS.value fun σ w ρ o ho k hr => ?_⟩
    obtain ⟨σ', w', ad, r1, r2, r3, r4⟩ := hs σ w _ k ((hvs σ h w ρ k hr).conc' hz)
    exact ⟨σ', _, w', r1, by simp [execOp, ho, Instr.box, r2], r3, .inr r4⟩
  | insert t m k x =>
    simp only [opK] at hk
    obtain ⟨mv, h1, hm⟩ := ev_spec hE hk
    obtain ⟨kv, h2, hkk⟩ := ev_spec hE h1
    obtain ⟨xv, h3, hx⟩ := ev_spec hE h2
    obtain ⟨h', hg, hs⟩ := mapPutK_spec (P := P) (C := C) hE h3
    refine ⟨_, h', hg, OpS.skip fun σ w ρ o ho kk hr => ?_⟩
    obtain ⟨w', r1, r2⟩ := hs σ w _ _ _ kk (hm σ h w ρ kk hr) (hkk σ h w ρ kk hr) (hx σ h w ρ kk hr)
    exact ⟨w', by simp [execOp, ho, r1], r2⟩
  | mapUpdate t m k x =>
    simp only [opK] at hk
    obtain ⟨mv, h1, hm⟩ := ev_spec hE hk
    obtain ⟨kv, h2, hkk⟩ := ev_spec hE h1
    obtain ⟨xv, h3, hx⟩ := ev_spec hE h2
    obtain ⟨h', hg, hs⟩ := mapPutK_spec (P := P) (C := C) hE h3
    refine ⟨_, h', hg, OpS.skip fun σ w ρ o ho kk hr => ?_⟩
    obtain ⟨w', r1, r2⟩ := hs σ w _ _ _ kk (hm σ h w ρ kk hr) (hkk σ h w ρ kk hr) (hx σ h w ρ kk hr)
    exact ⟨w', by simp [execOp, ho, r1], r2⟩
  | load t x =>
    simp only [opK] at hk
    obtain ⟨v, hv, hvs⟩ := ev_spec hE hk
    split at hv
    · rename_i b o'
      obtain ⟨v, hg, hb, hs⟩ := loadK_spec (P := P) (C := C) hE hv
      refine ⟨v, h, hg, OpS.pure fun σ w ρ o ho k hr => ?_⟩
      have := (hvs σ h w ρ k hr).conc (by simp)
      simp only [conc, Option.map_eq_some_iff] at this
      obtain ⟨y, hy, he⟩ := this
      obtain ⟨z, r1, r2⟩ := hs σ w y k hy
      exact ⟨z, by simp [execOp, ho, Instr.loadAt, ← he, Instr.sureAddr, r1], .inr r2⟩
    · cases hv
  | store t x v =>
    simp only [opK] at hk
    obtain ⟨xv, h1, hx⟩ := ev_spec hE hk
    obtain ⟨vv, h2, hv⟩ := ev_spec hE h1
    split at h2
    · rename_i b o'
      obtain ⟨h', hg, hs⟩ := storeK_spec (P := P) (C := C) hE h2
      have hvb : vv ≠ .bad := fun e => by
        subst e
        unfold storeK at h2
        split at h2
        · cases h2
        · obtain ⟨_, h3⟩ := cond_f h2
          obtain ⟨_, _, _, _, _, _, _, hsc, _⟩ := wrK_spec h3
          have := hsc .bad (by simp [cellsOf]); simp [scal] at this
      refine ⟨_, h', hg, OpS.skip fun σ w ρ o ho k hr => ?_⟩
      have := (hx σ h w ρ k hr).conc (by simp)
      simp only [conc, Option.map_eq_some_iff] at this
      obtain ⟨y, hy, he⟩ := this
      obtain ⟨w', r1, r2⟩ := hs σ w y _ k hy ((hv σ h w ρ k hr).conc hvb)
      exact ⟨w', by simp [execOp, ho, Instr.storeAt, ← he, Instr.sureAddr, r1], r2⟩
    · cases h2
  | nilCheck x =>
    simp only [opK] at hk
    obtain ⟨xv, h1, hx⟩ := ev_spec hE hk
    split at h1
    · rename_i b o'
      refine ⟨_, h, h1, OpS.pure fun σ w ρ o ho k hr => ?_⟩
      have := (hx σ h w ρ k hr).conc (by simp)
      have hc := this
      simp only [conc, Option.map_eq_some_iff] at this
      obtain ⟨y, hy, he⟩ := this
      exact ⟨ρ x, by simp [execOp, ho, ← he], .inr hc⟩
    · cases h1
  | binOp op t x y yt =>
    simp only [opK] at hk
    obtain ⟨xv, h1, hx⟩ := ev_spec hE hk
    obtain ⟨yv, h2, hy⟩ := ev_spec hE h1
    obtain ⟨v, hg, hs⟩ := binV_spec hE h2
    refine ⟨v, h, hg, OpS.pure fun σ w ρ o ho k hr => ?_⟩
    obtain ⟨z, r1, r2⟩ := hs σ w _ _ (hx σ h w ρ k hr) (hy σ h w ρ k hr)
    refine ⟨z, ?_, .inr r2⟩
    simp only [execOp, ho]
    rw [Sem.run_bind, r1]; rfl
  | unOp op t x =>
    simp only [opK] at hk
    obtain ⟨xv, h1, hx⟩ := ev_spec hE hk
    obtain ⟨v, hg, hs⟩ := unV_spec (P := P) h1
    refine ⟨v, h, hg, OpS.pure fun σ w ρ o ho k hr => ?_⟩
    obtain ⟨z, r1, r2⟩ := hs σ w _ (hx σ h w ρ k hr)
    exact ⟨z, by simp [execOp, ho, r1], .inr r2⟩
  | lookup t x i ok =>
    simp only [opK] at hk
    obtain ⟨xv, h1, hx⟩ := ev_spec hE hk
    obtain ⟨iv, h2, hi⟩ := ev_spec hE h1
    obtain ⟨v, hg, hb, hs⟩ := lookupK_spec (P := P) (C := C) hE h2
    refine ⟨v, h, hg, OpS.pure fun σ w ρ o ho k hr => ?_⟩
    obtain ⟨z, r1, r2⟩ := hs σ w _ _ k (hx σ h w ρ k hr) (hi σ h w ρ k hr)
    exact ⟨z, by simp [execOp, ho, r1], .inr r2⟩
  | slice t x lo hi mx =>
    simp only [opK] at hk
    obtain ⟨xv, h1, hx⟩ := ev_spec hE hk
    obtain ⟨lv, h2, hl, hls⟩ := optK_spec hE h1
    obtain ⟨hv, h3, hh, hhs⟩ := optK_spec hE h2
    obtain ⟨mv, h4, hm, hms⟩ := optK_spec hE h3
    obtain ⟨v, h', hg, hs⟩ := sliceK_spec (P := P) (C := C) hE h4
    refine ⟨v, h', hg, OpS.value fun σ w ρ o ho k hr => ?_⟩
    have ov : ∀ {r : Option AV} {o : Option Operand}, (r = none ↔ o = none) → (∀ v x, r = some v → o = some x → VR σ v (ρ x)) → OV σ r (o.map ρ) := fun {r o} e f => by
      refine ⟨by rw [e]; simp, fun v x e1 e2 => ?_⟩
      obtain ⟨y, hy, rfl⟩ := Option.map_eq_some_iff.1 e2
      exact f v y e1 hy
    obtain ⟨σ', z, r1, r2, r3, r4⟩ := hs σ w _ _ _ _ k (hx σ h w ρ k hr) (ov hl (hls σ h w ρ k hr)) (ov hh (hhs σ h w ρ k hr)) (ov hm (hms σ h w ρ k hr))
    exact ⟨σ', z, w, r1, by simp [execOp, ho, r2], r4, .inr r3⟩
  | makeFunc fn first captured =>
    cases fn with
    | func f =>
      simp only [opK] at hk
      obtain ⟨a, h1, hl1, ha⟩ := evL_spec hE hk
      obtain ⟨c, h2, hl2, hc⟩ := evL_spec hE h1
      obtain ⟨h3, h4⟩ := cond_f h2
      obtain ⟨h5, h6⟩ := (both_eq _ _).1 h3
      refine ⟨_, h, h4, OpS.pure fun σ w ρ o ho k hr => ⟨.func (.func f) (first.map ρ) (captured.map ρ), by simp [execOp, ho, Instr.makeFunc], .inr ?_⟩⟩
      have e1 := okL_conc h5 hl1 (ha σ h w ρ k hr)
      have e2 := okL_conc h6 hl2 (hc σ h w ρ k hr)
      simp only [conc, e1, e2, Option.bind_some, Option.map_some]
      congr 2 <;> (apply Array.ext'; simp)
    | _ => exact absurd (show false = true from hk) (by decide)
  | makeMap t r =>
    cases r with
    | none =>
      simp only [opK] at hk
      obtain ⟨m, hg, hp⟩ := newK_spec hk
      refine ⟨_, _, hg, OpS.value fun σ w ρ o ho k hr => ?_⟩
      have hn := k.fresh _ (Nat.le_refl _)
      refine ⟨_, .map (some w.heap.size), w.alloc (.map #[] 0), k.lp _, ?_, k.new hp 0 0 _ fun σ' _ => ⟨#[], alloc_get _ _, rfl⟩, .inr (by simp [conc, Sig.put_same])⟩
      simp [execOp, ho, Instr.makeMap]
    | some r => exact absurd (show false = true from hk) (by decide)
  | makeSlice t l c => exact opK_makeSlice hE hk
  | build t ps =>
    simp only [opK] at hk
    split at hk
    · rename_i fs size bytes z ht
      obtain ⟨hall, hk⟩ := cond_f hk
      obtain ⟨zv, hzv, hzc⟩ : ∃ zv : Value, (∀ w, (zeroValue t).run P w = .ok zv w) ∧ ∀ σ, conc σ (.agg z) = some zv := by
        obtain ⟨i, q1, q2, q3, q4, q5⟩ := hE.ty t _ ht
        obtain ⟨zv, q6, q7⟩ := q5 rfl
        exact ⟨zv, fun w => by simp [zeroValue, typeInfo, q1, q6], q7⟩
      obtain ⟨pl, hpl1, hpl2⟩ := run_places (P := P) hE fs hall
      have hpl : ∀ (i : Nat) (f : Nat → Nat → Bool), (match nth fs.toList i with | some fd => (match E.ty.get fd.type with | some fa => f fd.offset fa.size | none => false) | none => false) = true →
          ∃ off size, f off size = true ∧ (pl[·]? : Nat → Option (Nat × Nat)) i = some (off, size) := fun i f hf => by
        rw [nth_eq, Array.getElem?_toList] at hf
        split at hf
        · rename_i fd hfd
          split at hf
          · rename_i fa hfa
            exact ⟨_, _, hf, hpl2 i fd fa hfd hfa⟩
          · cases hf
        · cases hf
      obtain ⟨cs', hg, hs⟩ := fillK_spec (P := P) (C := C) hE hpl hk
      refine ⟨_, h, hg, OpS.pure fun σ w ρ o ho k hr => ?_⟩
      have := hzc σ
      simp only [conc, Option.map_eq_some_iff] at this
      obtain ⟨zl, hzl, rfl⟩ := this
      obtain ⟨l', r1, r2⟩ := hs σ h w ρ zl k hr hzl
      refine ⟨.agg l'.toArray, ?_, .inr (by simp [conc, r2])⟩
      have r1' : Instr.fill (pl[·]?) zl.toArray (ps.toList.map fun (i, x) => (i, ρ x)) = some l'.toArray := r1
      simp only [execOp, ho, Instr.build, Sem.run_bind, hzv, run_und hE ht, Result.andThen_ok, hpl1, Value.cells]
      have hm : (Array.map (fun x : Nat × Operand => (x.fst, ρ x.snd)) ps).toList = ps.toList.map fun (i, x) => (i, ρ x) := by simp
      rw [hm, r1']
      simp
    · rename_i n e size bytes z ht
      split at hk
      · rename_i ea he
        obtain ⟨zv, hzv, hzc⟩ : ∃ zv : Value, (∀ w, (zeroValue t).run P w = .ok zv w) ∧ ∀ σ, conc σ (.agg z) = some zv := by
          obtain ⟨i, q1, q2, q3, q4, q5⟩ := hE.ty t _ ht
          obtain ⟨zv, q6, q7⟩ := q5 rfl
          exact ⟨zv, fun w => by simp [zeroValue, typeInfo, q1, q6], q7⟩
        obtain ⟨cs', hg, hs⟩ := fillK_spec (P := P) (C := C) (pc := fun i => some (i * ea.size, ea.size)) hE (fun i f hf => ⟨_, _, by rw [fn_eq] at hf; exact hf, rfl⟩) hk
        refine ⟨_, h, hg, OpS.pure fun σ w ρ o ho k hr => ?_⟩
        have := hzc σ
        simp only [conc, Option.map_eq_some_iff] at this
        obtain ⟨zl, hzl, rfl⟩ := this
        obtain ⟨l', r1, r2⟩ := hs σ h w ρ zl k hr hzl
        refine ⟨.agg l'.toArray, ?_, .inr (by simp [conc, r2])⟩
        have r1' : Instr.fill (fun i => some (i * ea.size, ea.size)) zl.toArray (ps.toList.map fun (i, x) => (i, ρ x)) = some l'.toArray := r1
        simp [execOp, ho, Instr.build, hzv, run_und hE ht, run_size hE he, Value.cells, r1']
      · cases hk
    · cases hk
  | buildSlice t n ps => exact opK_buildSlice hE hk
  | fieldAddr t x f =>
    simp only [opK] at hk
    obtain ⟨xv, h1, hx⟩ := ev_spec hE hk
    split at h1
    · rename_i fs _ _ _ b o' ht
      split at h1
      · rename_i fd hfd
        rw [nth_eq, Array.getElem?_toList] at hfd
        split at h1
        · rename_i fa hfa
          obtain ⟨h2, h3⟩ := cond_f h1
          have h2 := ble_eq h2
          rw [fn_eq] at h3
          refine ⟨_, h, h3, OpS.pure fun σ w ρ o ho k hr => ?_⟩
          have := (hx σ h w ρ k hr).conc (by simp)
          simp only [conc, Option.map_eq_some_iff] at this
          obtain ⟨y, hy, he⟩ := this
          refine ⟨.pointer (some ⟨y.blk, y.shift + (o' + fd.offset), none⟩), ?_, .inr (by simp [conc, hy])⟩
          have hsz : ¬ fa.size = 0 := by omega
          simp [execOp, ho, Instr.fieldAt, run_und hE ht, hfd, ← he, Instr.sureAddr, fieldPlace, run_size hE hfa, hsz, add_eq, Nat.add_assoc]
        · cases h1
      · cases h1
    · cases h1
  | field t x f =>
    simp only [opK] at hk
    obtain ⟨xv, h1, hx⟩ := ev_spec hE hk
    split at h1
    · rename_i fs _ _ _ cs ht
      split at h1
      · rename_i fd hfd
        rw [nth_eq, Array.getElem?_toList] at hfd
        obtain ⟨v, hg, hs⟩ := partK_spec (P := P) hE h1
        refine ⟨_, h, hg, OpS.pure fun σ w ρ o ho k hr => ?_⟩
        have := (hx σ h w ρ k hr).conc (by simp)
        simp only [conc, Option.map_eq_some_iff] at this
        obtain ⟨l, hl, he⟩ := this
        obtain ⟨z, r1, r2⟩ := hs σ w l hl
        exact ⟨z, by simp [execOp, ho, Instr.field, run_und hE ht, hfd, ← he, asAgg, r1], .inr r2⟩
      · cases h1
    · cases h1
  | indexAddr t x i =>
    simp only [opK] at hk
    obtain ⟨xv, h1, hx⟩ := ev_spec hE hk
    obtain ⟨iv, h2, hi⟩ := ev_spec hE h1
    obtain ⟨kk, n, rfl, h3⟩ := intN_spec h2
    have hiv : ∀ σ w ρ, HRel C σ h w → OpR σ tm ρ → ρ i = .int kk (.ofNat n) := fun σ w ρ k hr => by
      have := (hi σ h w ρ k hr).conc (by simp); simp only [conc, Option.some.injEq] at this; exact this.symm
    split at h3
    · rename_i len e _ _ _ ht
      split at h3
      · rename_i b o' ea he
        obtain ⟨h4, h5⟩ := cond_f h3
        have h4 := bles_eq h4
        rw [fn_eq] at h5
        refine ⟨_, h, h5, OpS.pure fun σ w ρ o ho k hr => ?_⟩
        have := (hx σ h w ρ k hr).conc (by simp)
        simp only [conc, Option.map_eq_some_iff] at this
        obtain ⟨y, hy, hex⟩ := this
        refine ⟨.pointer (some ⟨y.blk, y.shift + (o' + n * ea.size), none⟩), ?_, .inr (by simp [conc, hy])⟩
        have h4' : (n : Int) < len := by omega
        simp [execOp, ho, Instr.indexAt, hiv σ w ρ k hr, asIntOf, run_und hE ht, ← hex, Instr.sureAddr, h4, run_size hE he, add_eq, Nat.add_assoc]
      · cases h3
    · rename_i e _ _ _ ht
      split at h3
      · rename_i b o' len cap op ea he
        obtain ⟨h4, h5⟩ := cond_f h3
        have h4 := bles_eq h4
        rw [fn_eq] at h5
        refine ⟨_, h, h5, OpS.pure fun σ w ρ o ho k hr => ?_⟩
        have := (hx σ h w ρ k hr).conc (by simp)
        simp only [conc, Option.map_eq_some_iff] at this
        obtain ⟨y, hy, hex⟩ := this
        refine ⟨.pointer (some ⟨y.blk, y.shift + (o' + n * ea.size), none⟩), ?_, .inr (by simp [conc, hy])⟩
        simp [execOp, ho, Instr.indexAt, hiv σ w ρ k hr, asIntOf, run_und hE ht, ← hex, h4, run_size hE he, add_eq, Nat.add_assoc]
      · cases h3
    · cases h3
  | index t x i =>
    simp only [opK] at hk
    obtain ⟨xv, h1, hx⟩ := ev_spec hE hk
    obtain ⟨iv, h2, hi⟩ := ev_spec hE h1
    obtain ⟨kk, n, rfl, h3⟩ := intN_spec h2
    have hiv : ∀ σ w ρ, HRel C σ h w → OpR σ tm ρ → ρ i = .int kk (.ofNat n) := fun σ w ρ k hr => by
      have := (hi σ h w ρ k hr).conc (by simp); simp only [conc, Option.some.injEq] at this; exact this.symm
    split at h3
    · rename_i len e _ _ _ ht
      split at h3
      · rename_i cs ea he
        obtain ⟨h4, h5⟩ := cond_f h3
        have h4 := bles_eq h4
        rw [fn_eq] at h5
        obtain ⟨v, hg, hs⟩ := partK_spec (P := P) hE h5
        refine ⟨_, h, hg, OpS.pure fun σ w ρ o ho k hr => ?_⟩
        have := (hx σ h w ρ k hr).conc (by simp)
        simp only [conc, Option.map_eq_some_iff] at this
        obtain ⟨l, hl, hex⟩ := this
        obtain ⟨z, r1, r2⟩ := hs σ w l hl
        have r1 : (part e l.toArray (n * ea.size)).run P w = .ok z w := r1
        exact ⟨z, by simp [execOp, ho, Instr.index, hiv σ w ρ k hr, asIntOf, run_und hE ht, ← hex, h4, run_size hE he, r1], .inr r2⟩
      · cases h3
    · rename_i _ _ _ ht
      split at h3
      · rename_i s
        rw [nth_eq] at h3
        split at h3
        · rename_i c hc
          refine ⟨_, h, h3, OpS.pure fun σ w ρ o ho k hr => ?_⟩
          have := (hx σ h w ρ k hr).conc (by simp)
          simp only [conc] at this
          split at this <;> simp at this
          rename_i hby
          have hlt : n < s.length := (List.getElem?_eq_some_iff.1 hc).1
          have hsc : s[n] = c := by rw [List.getElem?_eq_getElem hlt] at hc; simpa using hc
          have hc255 : c ≤ 255 := (byteOk_iff s).1 hby c (List.mem_of_getElem? hc)
          refine ⟨.int .u8 (.ofNat c), ?_, .inr rfl⟩
          have hb : (bytesOf s)[n]? = some (UInt8.ofNat c) := by
            rw [getElem?_pos (bytesOf s) n (by rw [bytesOf_size]; exact hlt)]
            simp [bytesOf, ByteArray.getElem_eq_getElem_data, hsc]
          have hcn : (UInt8.ofNat c).toNat = c := by simp [UInt8.toNat_ofNat']; omega
          simp [execOp, ho, Instr.index, hiv σ w ρ k hr, asIntOf, run_und hE ht, ← this, hb, hcn]
        · cases h3
      · cases h3
    · cases h3
  | convert s d x => exact opK_convert hE hk
  | range t x =>
    simp only [opK] at hk
    obtain ⟨xv, h1, hx⟩ := ev_spec hE hk
    split at h1
    · rename_i _ _ _ s ht
      obtain ⟨m, hg, hp⟩ := newK_spec h1
      refine ⟨_, _, hg, OpS.value fun σ w ρ o ho k hr => ?_⟩
      have := (hx σ h w ρ k hr).conc (by simp)
      simp only [conc] at this
      split at this <;> simp at this
      rename_i hby
      have hn := k.fresh _ (Nat.le_refl _)
      refine ⟨_, .pointer (some ⟨w.heap.size, 0, none⟩), w.alloc (.stringIter (bytesOf s) 0), k.lp _, ?_, k.new hp 0 0 _ fun σ' _ => ⟨rfl, hby, alloc_get _ _⟩, .inr (by simp [conc, Sig.put_same])⟩
      simp [execOp, ho, Instr.range, run_und hE ht, ← this]
    · cases h1
  | next x b => exact opK_next hE hk
  | extract x i =>
    simp only [opK] at hk
    obtain ⟨xv, h1, hx⟩ := ev_spec hE hk
    split at h1
    · rename_i vs
      rw [nth_eq] at h1
      split at h1
      · rename_i v hv
        obtain ⟨hb, h2⟩ := cond_t h1
        refine ⟨v, h, h2, OpS.pure fun σ w ρ o ho k hr => ?_⟩
        have := (hx σ h w ρ k hr).conc (by simp)
        simp only [conc, Option.map_eq_some_iff] at this
        obtain ⟨l, hl, he⟩ := this
        obtain ⟨z, hz, hc⟩ := concL_get hl i v hv
        exact ⟨z, by simp [execOp, ho, Instr.extract, ← he, hz], .inr hc⟩
      · cases h1
    · cases h1
  | call c => exact opK_call hE hk
  | _ => exact absurd (show false = true from hk) (by decide)
end
end Go.Refl
end
