/-
  Steps appended; prop.Back; slices.Clone of steps.
-/
import Derived.Test.YtelgabamdhaplaaSteps
import Derived.Lib.SliceRun
namespace Go.Proofs.Ytelgabamdhaplaa
open Go.RowKit

theorem step_info : (Try.prog.info? 39).map (fun i => (i.zero, i.size, i.bytes)) = some (some (.agg #[.int .i64 0, .int .i64 0]), 2, 16) := by kernel_rfl
theorem info_parts' {P : Program} {t : TypeId} {z : Value} {s b : Nat} (h : (P.info? t).map (fun i => (i.zero, i.size, i.bytes)) = some (some z, s, b)) : ∃ i, P.info? t = some i ∧ i.zero = some z ∧ i.size = s ∧ i.bytes = b := by
  cases hi : P.info? t with
  | none => rw [hi] at h; cases h
  | some i =>
    rw [hi] at h
    simp at h
    exact ⟨i, rfl, h.1, h.2.1, h.2.2⟩
theorem two_reads (w : World) (e' : TypeId) (u v : Value) : Reads (w.alloc (.cells #[u, v] e')) (fun k => k < w.heap.size + 1) 2 (some ⟨w.heap.size, 0, none⟩) 1 [u, v] :=
  ⟨by simp, fun _ => ⟨_, rfl, by simp, fun j x hx => by
    match j, hx with
    | 0, hx => simp at hx; subst hx; simp [Addr.add]
    | 1, hx => simp at hx; subst hx; simp [Addr.add]⟩⟩
/-- append of one step: the source is a literal of one (a new block). -/
theorem wpList_append_step {P : Program} (w : World) {ops : Array Oper} {rest : List Oper} {o : Oper} {a : Act} {Q : Exit → Act → World → Prop} (hgd : o.guard = none) (s x : Operand) (t : TypeId)
    (ho : o.op = .call { callee := .builtin .append, args := #[s, x], argTypes := #[t, t] })
    (base : Nat) (e : TypeId) (i : TypeInfo) (z : Value) (bytes : Nat) (ht : P.underlying t = some (.slice e)) (hi : P.info? e = some i) (hz : i.zero = some z)
    (hsize : i.size = 2) (hby : i.bytes = bytes) (hzs : z.cells.size = 2)
    (v : Value) (n : Nat) (ts : List TStep) (hs : a.eval s = v) (hown : w.ownsRow base e 2 v n (flat ts)) (e' : TypeId) (li wy : Int) (c : Nat)
    (hx : a.eval x = .slice (some ⟨w.heap.size, 0, none⟩) 1 c)
    (h63 : n + 1 ≤ maxLen) (hbytes : (n + 1) * bytes ≤ 140737488355328) (hbase : base ≤ w.heap.size)
    (h : ∀ A' c' w', w'.ownsRow base e 2 (.slice A' (n + 1) c') (n + 1) (flat (ts ++ [(li, wy)])) → w.grownBy w' v.ownBlock → (∀ g, (Value.slice A' (n + 1) c').ownBlock = some g → v.ownBlock = some g ∨ w.heap.size ≤ g) → wpList P ops Q rest (a.put o.dst (.slice A' (n + 1) c')) w') :
    wpList P ops Q (o :: rest) a (w.alloc (.cells #[.int .i64 li, .int .i64 wy] e')) := by
  refine wpList_append_any _ hgd s x t ho base e i z 2 bytes ht hi hz hsize hby hzs (by omega) v n (flat ts) hs (hown.alloc _) _ _ 1 c [.int .i64 li, .int .i64 wy] hx (two_reads w e' _ _) (fun y hy => by simp at hy; rcases hy with rfl | rfl <;> rfl) h63 hbytes (by simp; omega) ?_
  intro v' w' ho' hg hb
  obtain ⟨A', c', rfl⟩ := own_form ho'
  refine h A' c' w' (by rw [flat_append]; exact ho') (grown_alloc_then hg) fun g hgb => ?_
  rcases hb with hb | hb
  · exact .inl (hb ▸ hgb)
  · rw [hb] at hgb
    injection hgb with hgb
    simp at hgb
    exact .inr (by omega)
theorem Steps.of_own {w : World} {base : Nat} {e : TypeId} {A : Option Addr} {n c : Nat} {ts : List TStep} (h : w.ownsRow base e 2 (.slice A n c) n (flat ts)) : Steps w A n c ts := by
  have hx : n ≤ c ∧ c ≤ maxLen := by
    rcases h.2 with ⟨hv, hn⟩ | ⟨g, cap, cur, hv, _, _, hc, hm, _⟩
    · injection hv with _ _ hcap; subst hn hcap; simp [maxLen]
    · injection hv with _ _ hcap; subst hcap; exact ⟨hc, hm⟩
  exact ⟨by have := h.1; rw [flat_len] at this; omega, hx.1, hx.2, (Reads.of_own h).more fun _ h => h.2⟩
/-- The ending of a call that hands back steps in new memory. -/
def RetSteps (w : World) (ts : List TStep) (e : Ending) (w' : World) : Prop := ∃ A n c, e = .returned (.slice A n c) ∧ w'.ownsRow w.heap.size 39 2 (.slice A n c) n (flat ts) ∧ Below w.heap.size w w'

/-- The steps up to a level. -/
def backG (level : Int) : List TStep → List Int → List TStep
  | t :: ts, n :: ns => if n ≤ level then t :: backG level ts ns else backG level ts ns
  | _, _ => []
def backR (ts : List TStep) (level : Int) : List TStep := backG level ts (levR ts)
theorem backG_snoc {level : Int} : ∀ {ts : List TStep} {ns : List Int} {k : Nat}, ts.length = ns.length → k < ts.length →
    backG level (ts.take (k + 1)) (ns.take (k + 1)) = backG level (ts.take k) (ns.take k) ++ (if ns.getD k 0 ≤ level then [ts.getD k (0, 0)] else [])
  | t :: ts, n :: ns, 0, _, _ => by simp [backG]
  | t :: ts, n :: ns, k + 1, h, hk => by
    simp only [List.take_succ_cons, backG, List.getD_cons_succ]
    have ih := backG_snoc (level := level) (ts := ts) (ns := ns) (k := k) (by simpa using h) (by simpa using hk)
    split
    · rw [ih]; rfl
    · rw [ih]
theorem backG_len {level : Int} : ∀ (ts : List TStep) (ns : List Int), (backG level ts ns).length ≤ ts.length
  | [], ns => by cases ns <;> simp [backG]
  | t :: ts, [] => by simp [backG]
  | t :: ts, n :: ns => by
    have := backG_len (level := level) ts ns
    simp only [backG]
    split
    · simp; omega
    · simp; omega

set_option maxHeartbeats 2000000 in
set_option maxRecDepth 100000 in
theorem back_any (w : World) (A : Option Addr) (n c : Nat) (ts : List TStep) (level : Int) (h : Steps w A n c ts) (hn : n ≤ 100000) : Calls Try.prog 17 #[.slice A n c, .int .i64 level] w (RetSteps w (backR ts level)) := by
  have hcap := h.cap
  have hmax := h.max
  unfold maxLen at hmax
  have HS := Lib.hid h
  have HL := Lib.hid h.len
  have CALL := Lib.hid (levels_any w A n c ts h hn)
  obtain ⟨i0, hi0, hz0, hz1, hz2⟩ := info_parts' step_info
  clear h
  go_enter Try.func17, Try.ntmps17
  go_wp2_with (fail)
  (with_reducible refine CALL.out.mono ?_)
  rintro e w1 ⟨A1, n1, c1, rfl, ho1, hb1⟩
  have hl1 : n1 = n := by have := ho1.1; unfold levR at this; simp [levG_len] at this; have := HL.out; omega
  subst hl1
  have HI1 := Lib.hid (Ints.of_ownLt ho1)
  have HB1 := Lib.hid hb1
  have hcap1 := (Ints.of_ownLt ho1).cap
  have hmax1 := (Ints.of_ownLt ho1).max
  unfold maxLen at hmax1
  clear ho1 hb1 CALL
  go_wp2
  go_loopw [5, 11] (fun v5 v11 wr => ∃ (k m : Nat) (A2 : Option Addr) (c2 : Nat), k ≤ n1 ∧ v11 = .int .i64 k ∧ v5 = .slice A2 m c2 ∧ wr.ownsRow w1.heap.size 39 2 (.slice A2 m c2) m (flat (backG level (ts.take k) ((levR ts).take k))) ∧ Below w1.heap.size w1 wr) (fun _ v11 _ => n1 - (intOf v11).toNat)
  case atStart => exact ⟨0, 0, none, 0, Nat.zero_le _, rfl, rfl, World.ownsRow_nil _ _ _ _, Below.refl _ _⟩
  case round =>
    obtain ⟨k, m, A2, c2, hk, rfl, rfl, hown, hb⟩ := hrel
    have hlm : m ≤ k := by
      have h1 := hown.1
      rw [flat_len] at h1
      have h2 := backG_len (level := level) (ts.take k) ((levR ts).take k)
      rw [List.length_take] at h2
      omega
    by_cases hlt : k < n1
    · obtain ⟨ad, rfl, hadS, hc1, hc2⟩ := HS.out.at_ hlt
      have hB := below_then HB1.out hb
      have e1 := (hB.cell (p := ad.add (k * 2)) (by rw [block_of_add]; exact hadS)).trans hc1
      have e2 := (hB.cell (p := ⟨(ad.add (k * 2)).block, (ad.add (k * 2)).off + 1, none⟩) (by show (ad.add (k * 2)).block < _; rw [block_of_add]; exact hadS)).trans hc2
      obtain ⟨ad1, rfl, hadS1, hc3⟩ := HI1.out.at_ hlt
      have e3 := (hb.cell (p := ad1.add k) (by rw [block_of_add]; exact hadS1)).trans hc3
      have hsn := backG_snoc (level := level) (ts := ts) (ns := levR ts) (k := k) (by unfold levR; rw [levG_len]) (by have := HL.out; omega)
      have HSN := Lib.hid hsn
      have hbw := hb.size
      clear hadS hc1 hc2 hadS1 hc3 hsn hB
      generalize ts.getD k (0, 0) = p at *
      obtain ⟨li, wy⟩ := p
      generalize (levR ts).getD k 0 = lv at *
      generalize backG level (ts.take k) ((levR ts).take k) = cur at *
      by_cases hlv : lv ≤ level
      · have hs2 := HSN.out
        rw [if_pos hlv] at hs2
        have HS2 := Lib.hid hs2
        clear hs2
        go_wp2_with (first
          | (at_builtin
             go_must (refine wpList_append_step _ rfl (.tmp 19) (.tmp 24) _ rfl w1.heap.size 39 i0 _ 16 Try.underlying25 hi0 hz0 hz1 hz2 rfl (.slice A2 m c2) m cur (by rfl) hown 39 li wy 1 (by rfl) (by simp only [maxLen]; omega) (by omega) hbw ?_)
             intro A9 c9 w9 ho9 hg9 hb9))
        have HB9 := Lib.hid (hb.grown hg9 hbw (fun g hg => (hown.lt g hg).1))
        have HO9 := Lib.hid ho9
        clear ho9 hg9 hb9 hown hb
        go_roundw
        case rel => exact ⟨k + 1, m + 1, A9, c9, by omega, by go_num, rfl, by rw [HS2.out]; exact HO9.out, HB9.out⟩
        case measure => simp [intOf]; omega
      · have hs2 := HSN.out
        rw [if_neg hlv, List.append_nil] at hs2
        have HS2 := Lib.hid hs2
        have HO := Lib.hid hown
        have HB := Lib.hid hb
        clear hs2 hown hb
        go_wp2
        go_roundw
        case rel => exact ⟨k + 1, m, A2, c2, by omega, by go_num, rfl, by rw [HS2.out]; exact HO.out, HB.out⟩
        case measure => simp [intOf]; omega
    · obtain rfl : n1 = k := by omega
      have h1 : ts.take n1 = ts := List.take_of_length_le (by have := HL.out; omega)
      have h2 : (levR ts).take n1 = levR ts := List.take_of_length_le (by unfold levR; rw [levG_len]; have := HL.out; omega)
      rw [h1, h2] at hown
      have HO := Lib.hid (own_base hown HB1.out.size)
      have HB := Lib.hid (below_then HB1.out hb)
      clear hown hb h1 h2
      go_wp2
      go_ret
      exact ⟨A2, m, c2, rfl, HO.out, HB.out⟩

set_option maxHeartbeats 1000000 in
theorem cloneS_nil (w : World) (c : Nat) : Calls Try.prog 41 #[.slice none 0 c] w (RetSteps w []) := by
  have hq := Lib.run_eql_slice_nil (P := Try.prog) w 25 39 none 0 c 0 0 Try.underlying25
  go_enter Try.func41, Try.ntmps41
  go_wp2
  go_ret
  exact ⟨none, 0, 0, rfl, World.ownsRow_nil _ _ _ _, Below.refl _ _⟩

set_option maxHeartbeats 1000000 in
theorem cloneS_any (w : World) (n c : Nat) (A : Option Addr) (ts : List TStep) (hI : Steps w A n c ts) (hn : n ≤ 1048576) :
    Calls Try.prog 41 #[.slice A n c] w (RetSteps w ts) := by
  obtain ⟨i0, hi0, hz0, hz1, hz2⟩ := info_parts' step_info
  cases A with
  | none =>
    have h0 : n = 0 := by
      rcases Nat.eq_zero_or_pos n with h | h
      · exact h
      · obtain ⟨ad, e, _⟩ := hI.at_ h; cases e
    subst h0
    have hx : ts = [] := List.eq_nil_of_length_eq_zero hI.len.symm
    subst hx
    exact cloneS_nil w c
  | some ad =>
    have hq := Lib.run_eql_slice_nil (P := Try.prog) w 25 39 (some ad) n c 0 0 Try.underlying25
    have hal := alloc_lt (w := w) (.cells #[] 39)
    have hrd := (hI.belowLt hal).reads
    have hown0 : (w.alloc (.cells #[] 39)).ownsRow w.heap.size 39 2 (.slice (some ⟨w.heap.size, 0, none⟩) 0 0) 0 [] := World.ownsRow_lit w #[] 0 (Nat.le_refl _) (by simp [maxLen]) rfl
    have HAL := Lib.hid hal
    clear hI hal
    go_enter Try.func41, Try.ntmps41
    go_wp2_with (first
      | (at_builtin
         go_must (refine wpList_append_any _ rfl (.tmp 5) (.tmp 6) _ rfl w.heap.size 39 i0 _ 2 16 Try.underlying25 hi0 hz0 hz1 hz2 rfl (by omega) (.slice (some ⟨w.heap.size, 0, none⟩) 0 0) 0 [] (by rfl) hown0 _ (some ad) n c _ (by rfl) hrd (flat_oneCell _) (by simp only [maxLen]; omega) (by omega) (by simp) ?_)
         intro v1 w1 hown1 hg1 hat1
         obtain ⟨A1, c1, rfl⟩ := own_form hown1))
    go_ret
    have hb : Below w.heap.size w w1 := HAL.out.grown hg1 (by simp) (by simp [Value.ownBlock])
    rw [Nat.zero_add, List.nil_append] at hown1
    exact ⟨A1, n, c1, rfl, hown1, hb⟩
end Go.Proofs.Ytelgabamdhaplaa
