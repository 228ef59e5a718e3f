/-
  chalklineref16.Least: it hands back what count.Least does.
-/
import Derived.Test.YtanbkdfffojpnaaRefLits16
import Derived.Test.YtanbkdfffojpnaaLive16
import Derived.Deep.DeepMust
import Derived.Deep.CutRange
import Derived.Deep.DeepCutAuto
namespace Go.Proofs.Ytanbkdfffojpnaa
open Go.RowKit

/-! The plain law: the clauses of a register, without zeros. -/
def preC (b pb : Int) (pm j : Nat) : List Int := [-(b + j)] ++ (if j + 1 ≤ pm then [pb + j] else [])
theorem preC_len (b pb : Int) (pm j : Nat) : (preC b pb pm j).length ≤ 2 := by unfold preC; split <;> simp
theorem nz_three {a m c : Int} (ha : a ≠ 0) (hc : c ≠ 0) : nz [a, m, c] = [a] ++ (if m = 0 then [] else [m]) ++ [c] := by
  by_cases h : m = 0
  · subst h; simp [nz, ha, hc]
  · simp [nz, ha, hc, h]
theorem clJ_pre {b pb x : Int} {pm j : Nat} (hb : 1 ≤ b) (hx : x ≠ 0) (hp : pm = 0 ∨ 1 ≤ pb) (hj : j ≤ pm) :
    clJ b pb pm x (j + 1) = [preC b pb pm j ++ [x]] ++ (if 1 ≤ j then [preC b pb pm j ++ [pb + j - 1]] else []) := by
  have e1 : -(b + ((j + 1 : Nat) : Int) - 1) = -(b + j) := by omega
  have e2 : regR pb pm ((j + 1 : Nat) : Int) = if j + 1 ≤ pm then pb + j else 0 := by
    unfold regR
    by_cases h : j + 1 ≤ pm
    · rw [if_neg (by omega), if_pos h]; omega
    · rw [if_pos (by omega), if_neg h]
  have e3 : (if (if j + 1 ≤ pm then pb + (j : Int) else 0) = 0 then [] else [if j + 1 ≤ pm then pb + (j : Int) else 0]) = if j + 1 ≤ pm then [pb + (j : Int)] else [] := by
    by_cases h : j + 1 ≤ pm
    · simp only [if_pos h]; rw [if_neg (by omega)]
    · simp only [if_neg h]; rw [if_pos trivial]
  unfold clJ
  rw [e1, e2, nz_three (by omega) hx, e3]
  by_cases h1 : 1 ≤ j
  · have e4 : regR pb pm (((j + 1 : Nat) : Int) - 1) = pb + j - 1 := by
      unfold regR
      rw [if_neg (by omega)]; omega
    rw [if_pos (show 1 < j + 1 by omega), if_pos h1, e4, nz_three (by omega) (by omega), e3]
    rfl
  · rw [if_neg (show ¬ 1 < j + 1 by omega), if_neg h1]; rfl

theorem own_lower' {w : World} {base size n : Nat} {e : TypeId} {v : Value} {xs : List Value} (h : w.ownsRow base e size v n xs) : ∀ g, v.ownBlock = some g → base ≤ g := fun g hg => (h.lt g hg).1

/-! Two rows of ints apart. -/
def Two (base : Nat) (w : World) (va vb : Value) (a b : List Int) : Prop :=
  w.ownsRow base 3 1 va a.length (a.map (Value.int .i64)) ∧ w.ownsRow base 3 1 vb b.length (b.map (Value.int .i64)) ∧ (∀ g, va.ownBlock = some g → vb.ownBlock ≠ some g)
theorem kept_of_apart {w w' : World} {base size n : Nat} {e : TypeId} {v v' : Value} {xs : List Value} (h : w.ownsRow base e size v n xs) (hg : w.grownBy w' v'.ownBlock) (hap : ∀ g, v'.ownBlock = some g → v.ownBlock ≠ some g) : w'.ownsRow base e size v n xs := by
  refine h.kept hg ?_
  cases hv : v.ownBlock with
  | none => exact .inl rfl
  | some g =>
    refine .inr fun e => ?_
    exact hap g e.symm hv
theorem Two.left {base n : Nat} {w w' : World} {va vb va' : Value} {a b : List Int} {x : Int} (h : Two base w va vb a b) (ho : w'.ownsRow base 3 1 va' n (a.map (Value.int .i64) ++ [.int .i64 x])) (hn : n = a.length + 1) (hg : w.grownBy w' va.ownBlock)
    (hb : ∀ g, va'.ownBlock = some g → va.ownBlock = some g ∨ w.heap.size ≤ g) : Two base w' va' vb (a ++ [x]) b := by
  subst hn
  refine ⟨by simpa using ho, kept_of_apart h.2.1 hg h.2.2, fun g e e' => ?_⟩
  rcases hb g e with q | q
  · exact h.2.2 g q e'
  · have := (h.2.1.lt g e').2; omega
theorem Two.swap {base : Nat} {w : World} {va vb : Value} {a b : List Int} (h : Two base w va vb a b) : Two base w vb va b a := ⟨h.2.1, h.1, fun g e e' => h.2.2 g e' e⟩

/-- Clauses, and one more row of the call's own that is none of theirs. -/
def RowsBut (w : World) (base : Nat) (v : Value) (css : List (List Int)) (vb : Value) (b : List Int) : Prop :=
  ∃ rows : List Value, w.ownsRow base 22 1 v css.length rows ∧
    (∀ (i : Nat) (r : Value), rows[i]? = some r → ∃ cs, css[i]? = some cs ∧ w.ownsRow base 3 1 r cs.length (cs.map (Value.int .i64))) ∧
    w.ownsRow base 3 1 vb b.length (b.map (Value.int .i64)) ∧ ∀ (i : Nat) (r : Value), rows[i]? = some r → ∀ g, vb.ownBlock = some g → r.ownBlock ≠ some g
theorem RowsBut.rows {w : World} {base : Nat} {v vb : Value} {css : List (List Int)} {b : List Int} (h : RowsBut w base v css vb b) : OwnRows w base v css := by
  obtain ⟨rows, h1, h2, _⟩ := h
  exact ⟨rows, h1, h2⟩
/-- The first clause is put. -/
theorem push_but {wr wx w' : World} {base n : Nat} {v v' va vb : Value} {css : List (List Int)} {a b : List Int} {rows : List Value}
    (h1 : wr.ownsRow base 22 1 v css.length rows) (h2 : ∀ (i : Nat) (r : Value), rows[i]? = some r → ∃ cs, css[i]? = some cs ∧ wr.ownsRow base 3 1 r cs.length (cs.map (Value.int .i64)))
    (hb : Below wr.heap.size wr wx) (hw : base ≤ wr.heap.size) (ht : Two wr.heap.size wx va vb a b)
    (hown : w'.ownsRow base 22 1 v' n (rows ++ [va])) (hn : n = css.length + 1) (hg : wx.grownBy w' v.ownBlock) : RowsBut w' base v' (css ++ [a]) vb b := by
  have k1 := own_below h1 hb (Nat.le_refl _)
  have k2 : ∀ (i : Nat) (r : Value), rows[i]? = some r → ∃ cs, css[i]? = some cs ∧ wx.ownsRow base 3 1 r cs.length (cs.map (Value.int .i64)) := fun i r hr => by
    obtain ⟨cs, e, ho⟩ := h2 i r hr
    exact ⟨cs, e, own_below ho hb (Nat.le_refl _)⟩
  obtain ⟨rows', q1, q2⟩ := OwnRows.snoc k1 k2 (own_base ht.1 hw) hown hn hg
  have hvb := own_base ht.2.1 hw
  have hl : rows.length = css.length := by have := h1.1; omega
  refine ⟨rows ++ [va], by simpa [hn] using hown, ?_, hvb.kept hg (own_ne hvb k1 (by decide)), ?_⟩
  · intro i r hr
    by_cases hi : i < rows.length
    · rw [List.getElem?_append_left hi] at hr
      obtain ⟨cs', e, ho⟩ := k2 i r hr
      exact ⟨cs', by rw [List.getElem?_append_left (by omega)]; exact e, ho.kept hg (own_ne ho k1 (by decide))⟩
    · rw [List.getElem?_append_right (by omega)] at hr
      have h0 : i - rows.length = 0 := by
        rcases Nat.eq_zero_or_pos (i - rows.length) with h | h
        · exact h
        · rw [List.getElem?_eq_none (by simp; omega)] at hr; cases hr
      rw [h0] at hr
      simp at hr
      subst hr
      have ha := own_base ht.1 hw
      exact ⟨a, by rw [List.getElem?_append_right (by omega), show i - css.length = 0 by omega]; rfl, ha.kept hg (own_ne ha k1 (by decide))⟩
  · intro i r hr g hgb e
    by_cases hi : i < rows.length
    · rw [List.getElem?_append_left hi] at hr
      obtain ⟨cs', _, ho⟩ := h2 i r hr
      have := (ho.lt g e).2
      have := (ht.2.1.lt g hgb).1
      omega
    · rw [List.getElem?_append_right (by omega)] at hr
      have h0 : i - rows.length = 0 := by
        rcases Nat.eq_zero_or_pos (i - rows.length) with h | h
        · exact h
        · rw [List.getElem?_eq_none (by simp; omega)] at hr; cases hr
      rw [h0] at hr
      simp at hr
      subst hr
      exact ht.2.2 g e hgb
/-- The other row is appended to. -/
theorem RowsBut.more {w w' : World} {base n : Nat} {v vb vb' : Value} {css : List (List Int)} {b : List Int} {x : Int} (h : RowsBut w base v css vb b)
    (ho : w'.ownsRow base 3 1 vb' n (b.map (Value.int .i64) ++ [.int .i64 x])) (hn : n = b.length + 1) (hg : w.grownBy w' vb.ownBlock) :
    OwnRows w' base v css ∧ w'.ownsRow base 3 1 vb' (b ++ [x]).length ((b ++ [x]).map (Value.int .i64)) := by
  subst hn
  obtain ⟨rows, h1, h2, h3, h4⟩ := h
  refine ⟨⟨rows, h1.kept hg (own_ne h1 h3 (by decide)), fun i r hr => ?_⟩, by simpa using ho⟩
  obtain ⟨cs, e, ho'⟩ := h2 i r hr
  exact ⟨cs, e, kept_of_apart ho' hg (h4 i r hr)⟩

theorem wpList_append_oneB {P : Program} (w : World) {ops : Array Oper} {rest : List Oper} {o : Oper} {a : Act} {Q : Exit → Act → World → Prop} (hgd : o.guard = none) (s x : Operand) (t : TypeId)
    (ho : o.op = .call { callee := .builtin .append, args := #[s, x], argTypes := #[t, t] })
    (base : Nat) (e : TypeId) (i : TypeInfo) (z : Value) (bytes : Nat) (ht : P.underlying t = some (.slice e)) (hi : P.info? e = some i) (hz : i.zero = some z)
    (hsize : i.size = 1) (hby : i.bytes = bytes) (hzs : z.cells.size = 1)
    (v : Value) (n : Nat) (xs : List Value) (hs : a.eval s = v) (hown : w.ownsRow base e 1 v n xs) (e' : TypeId) (u : Value) (c : Nat) (h1 : u.oneCell' = true)
    (b : Nat) (hb : w.heap.size = b) (hx : a.eval x = .slice (some ⟨b, 0, none⟩) 1 c)
    (h63 : n + 1 ≤ maxLen) (hbytes : (n + 1) * bytes ≤ 140737488355328) (hbase : base ≤ w.heap.size)
    (h : ∀ A' c' w', w'.ownsRow base e 1 (.slice A' (n + 1) c') (n + 1) (xs ++ [u]) → w.grownBy w' v.ownBlock → (∀ g, (Value.slice A' (n + 1) c').ownBlock = some g → v.ownBlock = some g ∨ w.heap.size ≤ g) → wpList P ops Q rest (a.put o.dst (.slice A' (n + 1) c')) w') :
    wpList P ops Q (o :: rest) a (w.alloc (.cells #[u] e')) := by
  subst hb
  exact wpList_append_one w hgd s x t ho base e i z bytes ht hi hz hsize hby hzs v n xs hs hown e' u c h1 hx h63 hbytes hbase h

theorem two_new (w : World) (u : Int) : Two w.heap.size ((w.alloc (.cells #[.int .i64 u] 3)).alloc (.cells #[.int .i64 u] 3)) (.slice (some ⟨w.heap.size, 0, none⟩) 1 1) (.slice (some ⟨w.heap.size + 1, 0, none⟩) 1 1) [u] [u] := by
  refine ⟨(lit_own w [u] (by simp [maxLen])).alloc _, ?_, fun g e e' => ?_⟩
  · have h := lit_own (w.alloc (.cells #[.int .i64 u] 3)) [u] (by simp [maxLen])
    rw [show (w.alloc (.cells #[.int .i64 u] 3)).heap.size = w.heap.size + 1 by simp] at h
    exact own_base h (by omega)
  · simp [Value.ownBlock] at e e'
    omega

theorem sumM_le {k i n : Nat} (h : i ≤ n) : sumM k i ≤ sumM k n := by
  have := beginAt_mono 0 k h
  rw [beginAt_sum, beginAt_sum] at this
  omega

theorem prevM_min (k i : Nat) : prevM k i = min i k := by
  cases i with
  | zero => show 0 = _; omega
  | succ i => show manyAt k i = _; rfl

set_option maxHeartbeats 4000000 in
set_option maxRecDepth 100000 in
theorem refLeast_main (w : World) (n c : Nat) (A : Option Addr) (xs : List Int) (k : Nat) (next : Int) (r : LeastOut) (hI : Ints w (Lt w) A n c xs) (hf : Fits xs) (hr : rightR xs next = 0) (hk1 : 1 ≤ k) (hk2 : k ≤ n) (hn : n ≤ 4096) (hx : ∀ x ∈ xs, x ≠ 0 ∧ -70000 ≤ x ∧ x ≤ 70000)
    (hn1 : 1 ≤ next) (hn2 : next ≤ 65537)
    (hR1 : 65536 < next + regs n k - 1 ∨ 65536 < 2 * (regs n k : Int) - n + 1 → r = ⟨[], 0, 2⟩)
    (hR2 : ¬ (65536 < next + regs n k - 1 ∨ 65536 < 2 * (regs n k : Int) - n + 1) → r = ⟨leastC xs next k, beginAt next k n, 0⟩) :
    Calls Try.prog 14 #[.slice A n c, .int .i64 k, .int .i64 next] w (RetLeast w r) := by
  have hlen := hI.len
  have hcap := hI.cap
  have hmax := hI.max
  unfold maxLen at hmax
  have call := lits16_any w n c A xs next hI hf
  rw [hr] at call
  have CALL := Lib.hid call
  have HI := Lib.hid hI
  have hb1 := (regs_le hk1 hk2 hn).1
  have hsum : sumM k n = regs n k := sumM_regs hk1 hk2
  obtain ⟨R, hR⟩ : ∃ R, R = regs n k := ⟨_, rfl⟩
  rw [← hR] at hR1 hR2 hsum hb1
  have HR := Lib.hid hR
  have HSUM := Lib.hid hsum
  have HR1 := Lib.hid hR1
  have HR2 := Lib.hid hR2
  have d1 : decide (k = 0) = false := by simp; omega
  have d2 : decide (n < k) = false := by simp; omega
  have HX := Lib.hid hx
  have HL := Lib.hid hlen
  obtain ⟨i0, hi0, hz0, hz1, hz2⟩ := info_parts int_info
  obtain ⟨i1, hi1, hy0, hy1, hy2⟩ := info_parts ints_info
  clear hI call hr hf hR hx hlen hR1 hR2 hsum
  go_enter Try.func14, Try.ntmps14
  go_wp2_with (fail)
  (with_reducible refine CALL.out.mono ?_)
  rintro e w1 ⟨rfl, hb1'⟩
  have HB1 := Lib.hid hb1'
  clear hb1' CALL
  go_wp2_with (fail)
  go_loopw [11, 12] (fun v11 v12 wr => ∃ i : Nat, i ≤ n ∧ v12 = .int .i64 ((i : Int) + 1) ∧ v11 = .int .i64 (next - 1 + (sumM k i : Int)) ∧ w1 = wr) (fun _ v12 _ => n + 1 - (intOf v12).toNat)
  case atStart => exact ⟨0, Nat.zero_le _, rfl, by simp [sumM], rfl⟩
  case round =>
    obtain ⟨i, hi, rfl, rfl, rfl⟩ := hrel
    have hsi : sumM k i ≤ R := by rw [← HSUM.out]; exact sumM_le hi
    by_cases hilt : i < n
    case pos =>
      have HS : Hid (sumM k (i + 1) = sumM k i + manyAt k i) := rfl
      have hmk : manyAt k i = i + 1 ∧ i + 1 ≤ k ∨ manyAt k i = k ∧ k ≤ i + 1 := by unfold manyAt; omega
      generalize sumM k i = s at *
      generalize manyAt k i = many at *
      have dl : decide (((i : Int) + 1) ≤ (n : Int)) = true := by simp; omega
      by_cases hmm : i + 1 ≤ k
      · obtain rfl : many = i + 1 := by omega
        go_wp2
        go_roundw
        case rel => exact ⟨i + 1, by omega, by go_num, by rw [HS.out]; go_num, trivial⟩
        case measure => simp [intOf]; omega
      · obtain rfl : many = k := by omega
        go_wp2
        go_roundw
        case rel => exact ⟨i + 1, by omega, by go_num, by rw [HS.out]; go_num, trivial⟩
        case measure => simp [intOf]; omega
    obtain rfl : n = i := by omega
    rw [HSUM.out]
    have dl : decide (((n : Int) + 1) ≤ (n : Int)) = false := by simp; omega
    by_cases hbd : 65536 < next - 1 + (R : Int)
    · have HF := Lib.hid (HR1.out (.inl (by omega)))
      go_wp2
      rw [HF.out]
      exact bodyPost_ret (v := .tuple #[.slice none 0 0, .int .i64 0, .int .i64 2]) (by simp [results, Try.results14, go_sem]) rfl (retLeast_nil HB1.out)
    have dbd : decide (65536 < next - 1 + (R : Int)) = false := by simpa using hbd
    have hbd' : next + (R : Int) ≤ 65537 := by omega
    clear hbd HSUM
    go_wp2_with (fail)
    clear dl dbd
    go_loopw [13, 14, 15, 16] (fun v13 v14 v15 v16 wr => ∃ (i : Nat) (Ac : Option Addr) (cc : Nat), i ≤ n ∧ v16 = .int .i64 ((i : Int) + 1) ∧ v15 = .int .i64 (prevB next k i) ∧ v14 = .int .i64 (beginAt next k i) ∧ v13 = .slice Ac (allL xs next k i).length cc ∧ OwnRows wr w.heap.size (.slice Ac (allL xs next k i).length cc) (allL xs next k i) ∧ Below w.heap.size w wr) (fun _ _ _ v16 _ => n + 1 - (intOf v16).toNat)
    case atStart => exact ⟨0, none, 0, Nat.zero_le _, rfl, rfl, rfl, rfl, OwnRows.nil_ _ _, HB1.out⟩
    case round =>
      clear HB1
      obtain ⟨i, Ac, cc, hi, rfl, rfl, rfl, rfl, hO, hb⟩ := hrel
      have hbn : beginAt next k n = next + R := by rw [beginAt_sum, sumM_regs hk1 hk2, HR.out]
      have hb0 : 1 ≤ beginAt next k i := by have := beginAt_mono next k (Nat.zero_le i); have e : beginAt next k 0 = next := rfl; omega
      have hpb : 0 ≤ prevB next k i ∧ prevB next k i ≤ 65537 ∧ (prevM k i : Int) ≤ k ∧ (0 < i → 1 ≤ prevB next k i ∧ prevB next k i + prevM k i ≤ 65537) := by
        cases i with
        | zero => exact ⟨Int.le_refl _, by show (0 : Int) ≤ 65537; omega, by show ((0 : Nat) : Int) ≤ k; omega, fun h => absurd h (by omega)⟩
        | succ i =>
          have q1 := beginAt_mono next k (show i + 1 ≤ n by omega)
          have q2 := beginAt_mono next k (Nat.zero_le i)
          have e : beginAt next k 0 = next := rfl
          have e2 : beginAt next k (i + 1) = beginAt next k i + manyAt k i := rfl
          have e3 : prevB next k (i + 1) = beginAt next k i := rfl
          have e4 : prevM k (i + 1) = manyAt k i := rfl
          have e5 : manyAt k i ≤ k := by unfold manyAt; omega
          rw [e3, e4]
          refine ⟨by omega, by omega, by omega, fun _ => ⟨by omega, by omega⟩⟩
      have hpm := prevM_min k i
      have HO := Lib.hid hO
      have HB := Lib.hid hb
      clear hO hb
      by_cases hilt : i < n
      case neg =>
        obtain rfl : n = i := by omega
        obtain ⟨q0, q1⟩ := hpb.2.2.2 (by omega)
        have hmk : prevM k n = k := by omega
        have hlc : leastC xs next k = allL xs next k n ++ [[prevB next k n + k - 1]] := by
          unfold leastC lastC
          rw [← HL.out, hmk]
          have e : regR (prevB next k n) (k : Int) (k : Int) = prevB next k n + k - 1 := by unfold regR; rw [if_neg (by omega)]
          rw [e]
          have e2 : prevB next k n + k - 1 ≠ 0 := by omega
          simp [nz, e2]
        have hcl9 : (allL xs next k n).length + n = 2 * R := by
          have q := allL_len xs next k hk1 n
          rw [sumM_regs hk1 hk2, ← HR.out] at q
          exact q
        have hcl : (allL xs next k n).length ≤ 16777216 := by omega
        have HLC := Lib.hid hlc
        have HCL := Lib.hid hcl9
        clear hlc hcl9 hpm hmk hbn
        have dl : decide (((n : Int) + 1) ≤ (n : Int)) = false := by simp; omega
        obtain ⟨L, hL⟩ : ∃ x, x = (allL xs next k n).length := ⟨_, rfl⟩
        rw [← hL] at HO HCL hcl ⊢
        have HLL := Lib.hid hL
        clear hL
        obtain ⟨rows, r1, r2⟩ := HO.out
        rw [← HLL.out] at r1
        have R1 := Lib.hid r1
        clear r1 hpb
        generalize beginAt next k n = bn at *
        generalize prevB next k n = pb at *
        have hsz := HB.out.size
        by_cases hbig : 65536 < L + 1
        all_goals
          have db : decide (65536 < (L : Int) + 1) = decide (65536 < L + 1) := decide_eq_decide.2 (by omega)
          simp only [hbig, decide_true, decide_false] at db
          clear hilt hi
          go_wp2_with (first
            | (at_builtin
               go_must (refine wpList_append_oneB _ rfl (.tmp 126) (.tmp 132) _ rfl w.heap.size 22 i1 _ 24 Try.underlying24 hi1 hy0 hy1 hy2 rfl (.slice Ac L cc) L rows (by rfl) (R1.out.alloc _) 22 _ 1 rfl (wr.heap.size + 1) (by simp) (by rfl) (by simp only [maxLen]; omega) (by omega) (by simp; omega) ?_)
               intro A9 c9 w9 ho9 hg9 hb9))
          have hB9 : Below w.heap.size w w9 := (below_then HB.out (alloc_lt _)).grown hg9 (by simp; omega) (fun g hg => own_lower' R1.out g hg)
        · have HF := Lib.hid (HR1.out (.inr (by have := HCL.out; omega)))
          rw [HF.out]
          exact bodyPost_ret (v := .tuple #[.slice none 0 0, .int .i64 0, .int .i64 2]) (by simp [results, Try.results14, go_sem]) rfl (retLeast_nil hB9)
        · have HF := Lib.hid (HR2.out (by have := HCL.out; omega))
          rw [HF.out]
          refine bodyPost_ret (v := .tuple #[.slice A9 (L + 1) c9, .int .i64 bn, .int .i64 0]) (by simp [results, Try.results14, go_sem]) rfl ?_
          refine ⟨A9, L + 1, c9, rfl, ?_, hB9⟩
          show OwnRows w9 w.heap.size _ (leastC xs next k)
          rw [HLC.out]
          have hal := alloc_lt (w := wr) (.cells #[.int .i64 (pb + (k : Int) - 1)] 3)
          refine OwnRows.snoc (rows := rows) (v := .slice Ac L cc) (by rw [← HLL.out]; exact own_below R1.out hal (Nat.le_refl _)) (fun i r hr => ?_) (own_base (lit_own wr [pb + (k : Int) - 1] (by simp [maxLen])) hsz) ho9 (by rw [← HLL.out]) hg9
          obtain ⟨cs, e, ho⟩ := r2 i r hr
          exact ⟨cs, e, own_below ho hal (Nat.le_refl _)⟩
      case pos =>
        have hb1 : beginAt next k i + manyAt k i ≤ 65537 := by
          have := beginAt_mono next k (show i + 1 ≤ n by omega)
          have e : beginAt next k (i + 1) = beginAt next k i + manyAt k i := rfl
          omega
        have HALL : Hid (allL xs next k (i + 1) = allL xs next k i ++ rowL (beginAt next k i) (prevB next k i) (prevM k i) (xs.getD i 0) (manyAt k i)) := rfl
        have HBEG : Hid (beginAt next k (i + 1) = beginAt next k i + manyAt k i) := rfl
        have HPB : Hid (prevB next k (i + 1) = beginAt next k i) := rfl
        have hcl9 : (allL xs next k i).length + 2 * manyAt k i ≤ 16000000 := by
          have q := allL_len xs next k hk1 i
          have q2 := beginAt_sum next k i
          have q3 : manyAt k i ≤ k := by unfold manyAt; omega
          omega
        have hmk : manyAt k i = i + 1 ∧ i + 1 ≤ k ∨ manyAt k i = k ∧ k ≤ i + 1 := by unfold manyAt; omega
        have hxi : xs.getD i 0 ≠ 0 ∧ -70000 ≤ xs.getD i 0 ∧ xs.getD i 0 ≤ 70000 := by
          have hj : i < xs.length := by have := HL.out; omega
          rw [List.getD_eq_getElem?_getD, List.getElem?_eq_getElem hj]
          exact HX.out _ (List.getElem_mem hj)
        obtain ⟨ad, rfl, hadb, hcell⟩ := HI.out.at_ hilt
        have hcellr : ∀ wx, Below w.heap.size w wx → wx.cell? (ad.add i) = some (.int .i64 (xs.getD i 0)) := fun wx hb => (hb.cell (p := ad.add i) (by rw [block_of_add]; exact hadb)).trans hcell
        have HCELL := Lib.hid hcellr
        have hpp : prevM k i = 0 ∨ 1 ≤ prevB next k i := by
          cases i with
          | zero => exact .inl rfl
          | succ i => exact .inr (hpb.2.2.2 (by omega)).1
        clear hcell hcellr hadb hbn
        obtain ⟨hpb1, hpb2, hpb3, _⟩ := hpb
        generalize allL xs next k i = cs0 at *
        generalize beginAt next k i = b at *
        generalize prevB next k i = pb at *
        generalize prevM k i = pm at *
        generalize xs.getD i 0 = x at *
        generalize manyAt k i = many at *
        have HMK := Lib.hid hmk
        have hm1 : many ≤ 4096 := by omega
        have HPM := Lib.hid hpm
        have HPP := Lib.hid hpp
        have HXI := Lib.hid hxi.1
        obtain ⟨_, hx1, hx2⟩ := hxi
        clear hmk hpm hpp
        obtain ⟨wo, rfl⟩ : ∃ wo : World, wo = wr := ⟨_, rfl⟩
        have dl : decide (((i : Int) + 1) ≤ (n : Int)) = true := by simp; omega
        go_wp2_with (fail)
        clear dl
        go_loopw [13, 17] (fun v13 v17 wr => ∃ (j : Nat) (Ac : Option Addr) (cc L : Nat), j ≤ many ∧ v17 = .int .i64 ((j : Int) + 1) ∧ v13 = .slice Ac L cc ∧ L = (cs0 ++ rowL b pb pm x j).length ∧ OwnRows wr w.heap.size (.slice Ac L cc) (cs0 ++ rowL b pb pm x j) ∧ Below w.heap.size w wr) (fun _ v17 _ => many + 1 - (intOf v17).toNat)
        case atStart => exact ⟨0, Ac, cc, _, Nat.zero_le _, rfl, rfl, by simp [rowL], by simpa [rowL] using HO.out, HB.out⟩
        case round =>
          clear HO HB
          obtain ⟨j, Ac, cc, L, hj, rfl, rfl, hLL, hO, hb⟩ := hrel
          have HLL := Lib.hid hLL
          have HO := Lib.hid hO
          have HB := Lib.hid hb
          clear hLL hO hb
          obtain ⟨bt, hbt⟩ : ∃ x, x = decide (j < many) := ⟨_, rfl⟩
          obtain ⟨wi, rfl⟩ : ∃ wo : World, wo = wr := ⟨_, rfl⟩
          go_upto_region 22 with (fail)
          go_cut [62] (fun v wx => v = .bool bt ∧ wi = wx)
          case first =>
            have hmk := HMK.out
            by_cases hmm : i + 1 ≤ k
            · obtain rfl : many = i + 1 := by omega
              go_wp2
              all_goals go_meet
              all_goals exact ⟨by rw [hbt]; simp; try omega, rfl⟩
            · obtain rfl : many = k := by omega
              go_wp2
              all_goals go_meet
              all_goals exact ⟨by rw [hbt]; simp; try omega, rfl⟩
          obtain ⟨rfl, rfl⟩ := hcut
          by_cases hjm : j < many
          case neg =>
            obtain rfl : bt = false := by rw [hbt]; simpa using hjm
            obtain rfl : j = many := by omega
            have hmk := HMK.out
            by_cases hmm : i + 1 ≤ k
            · obtain rfl : j = i + 1 := by omega
              go_wp2
              go_roundw
              case rel => exact ⟨i + 1, Ac, cc, by omega, by go_num, by rw [HPB.out], by rw [HBEG.out]; go_num, by rw [HALL.out, ← HLL.out], by rw [HALL.out, ← HLL.out]; exact HO.out, HB.out⟩
              case measure => simp [intOf]; omega
            · obtain rfl : j = k := by omega
              go_wp2
              go_roundw
              case rel => exact ⟨i + 1, Ac, cc, by omega, by go_num, by rw [HPB.out], by rw [HBEG.out], by rw [HALL.out, ← HLL.out], by rw [HALL.out, ← HLL.out]; exact HO.out, HB.out⟩
              case measure => simp [intOf]; omega
          case pos =>
            obtain rfl : bt = true := by rw [hbt]; simpa using hjm
            clear hbt
            have HE : Hid (rowL b pb pm x (j + 1) = rowL b pb pm x j ++ ([preC b pb pm j ++ [x]] ++ (if 1 ≤ j then [preC b pb pm j ++ [pb + j - 1]] else []))) := by
              show rowL b pb pm x (j + 1) = _
              rw [rowL, clJ_pre (by omega) HXI.out HPP.out (by have := HPM.out; have := HMK.out; omega)]
            have hrl := rowL_len b pb pm x j
            obtain ⟨css, hcss⟩ : ∃ y, y = cs0 ++ rowL b pb pm x j := ⟨_, rfl⟩
            rw [← hcss] at HO HLL
            have hll : L ≤ 16000000 := by rw [HLL.out, hcss, List.length_append]; omega
            have HCSS := Lib.hid hcss
            obtain ⟨P, hP⟩ : ∃ y, y = preC b pb pm j := ⟨_, rfl⟩
            rw [← hP] at HE
            have hPl : P.length ≤ 2 := by rw [hP]; exact preC_len _ _ _ _
            obtain ⟨r, hr⟩ : ∃ y, y = b + (j : Int) := ⟨_, rfl⟩
            have HP : Hid (P = [-r] ++ (if j + 1 ≤ pm then [pb + (j : Int)] else [])) := by show P = _; rw [hP, hr]; rfl
            have hr1 : 1 ≤ r ∧ r ≤ 70000 := by omega
            have HRr := Lib.hid hr
            clear hP hr hcss hrl
            go_upto_region 24 with (fail)
            go_cut [18] (fun v wx => v = .int .i64 r ∧ wi = wx)
            case first =>
              go_wp2
              go_meet
              case rel => exact ⟨by rw [HRr.out]; go_num, rfl⟩
            obtain ⟨rfl, rfl⟩ := hcut
            obtain ⟨bt, hbt⟩ : ∃ x, x = decide (j + 1 ≤ pm) := ⟨_, rfl⟩
            have HBT := Lib.hid hbt
            clear hbt
            go_upto_region 27 with (fail)
            have htwo := two_new wi (-r)
            have hbel : Below wi.heap.size wi ((wi.alloc (.cells #[.int .i64 (-r)] 3)).alloc (.cells #[.int .i64 (-r)] 3)) := below_then (alloc_lt _) (alloc_lt _)
            generalize hwx : (wi.alloc (.cells #[.int .i64 (-r)] 3)).alloc (.cells #[.int .i64 (-r)] 3) = wx at *
            clear hwx
            have HTWO := Lib.hid htwo
            have HBEL := Lib.hid hbel
            clear htwo hbel
            go_cut [80] (fun v wy => v = .bool bt ∧ wx = wy)
            case first =>
              have hpm := HPM.out
              by_cases hik : i ≤ k
              · go_wp2
                all_goals go_meet
                all_goals exact ⟨by rw [HBT.out]; simp; try omega, rfl⟩
              · go_wp2
                all_goals go_meet
                all_goals exact ⟨by rw [HBT.out]; simp; try omega, rfl⟩
            obtain ⟨rfl, rfl⟩ := hcut
            go_upto_if 80 with (fail)
            go_cut [19, 20] (fun va vb wy => ∃ Aa ca Ab cb, va = .slice Aa P.length ca ∧ vb = .slice Ab P.length cb ∧ Two wi.heap.size wy va vb P P ∧ Below wi.heap.size wi wy)
            case first =>
              by_cases hjp : j + 1 ≤ pm
              · obtain rfl : bt = true := by rw [HBT.out]; simpa using hjp
                have HP2 : Hid (P = [-r] ++ [pb + ((j : Int) + 1) - 1]) := by show P = _; rw [HP.out, if_pos hjp, show pb + ((j : Int) + 1) - 1 = pb + (j : Int) by omega]
                have hsz := HBEL.out.size
                obtain ⟨ta, tb, tc⟩ := HTWO.out
                have TC := Lib.hid tc
                clear tc
                have tok1 : True := trivial
                go_wp2_with (first
                  | (at_builtin
                     have _t := tok1
                     go_must (refine wpList_append_one _ rfl (.tmp 81) (.tmp 86) _ rfl wi.heap.size 3 i0 _ 8 Try.underlying22 hi0 hz0 hz1 hz2 rfl (.slice (some ⟨wi.heap.size, 0, none⟩) 1 1) 1 ([-r].map (Value.int .i64)) (by rfl) ta 3 (.int .i64 (pb + ((j : Int) + 1) - 1)) 1 rfl (by rfl) (by simp only [maxLen]; omega) (by omega) hsz ?_)
                     intro A9 c9 w9 ho9 hg9 hb9
                     clear tok1
                     have htwo9 := Two.left HTWO.out ho9 rfl hg9 hb9
                     have hsz9 : wi.heap.size ≤ w9.heap.size := Nat.le_trans hsz hg9.size)
                  | (at_builtin
                     go_must (refine wpList_append_one _ rfl (.tmp 88) (.tmp 93) _ rfl wi.heap.size 3 i0 _ 8 Try.underlying22 hi0 hz0 hz1 hz2 rfl (.slice (some ⟨wi.heap.size + 1, 0, none⟩) 1 1) 1 ([-r].map (Value.int .i64)) (by rfl) htwo9.2.1 3 (.int .i64 (pb + ((j : Int) + 1) - 1)) 1 rfl (by rfl) (by simp only [maxLen]; omega) (by omega) hsz9 ?_)
                     intro A10 c10 w10 ho10 hg10 hb10))
                go_meet
                case rel =>
                  have e := HP2.out
                  subst e
                  have h2 := (Two.left htwo9.swap ho10 rfl hg10 hb10).swap
                  have hB9 : Below wi.heap.size wi w9 := HBEL.out.grown hg9 hsz (fun g hg => own_lower' ta g hg)
                  exact ⟨A9, c9, A10, c10, rfl, rfl, h2, hB9.grown hg10 hsz9 (fun g hg => own_lower' tb g hg)⟩
              · obtain rfl : bt = false := by rw [HBT.out]; simpa using hjp
                have HP2 : Hid (P = [-r]) := by show P = _; rw [HP.out, if_neg hjp]; rfl
                go_wp2
                go_meet
                case rel =>
                  have e := HP2.out
                  subst e
                  exact ⟨_, _, _, _, rfl, rfl, HTWO.out, HBEL.out⟩
            obtain ⟨Aa, ca, Ab, cb, rfl, rfl, htwo, hbel⟩ := hcut
            have HTWO := Lib.hid htwo
            have HBEL := Lib.hid hbel
            clear htwo hbel
            obtain ⟨wp, rfl⟩ : ∃ wo : World, wo = wc := ⟨_, rfl⟩
            have hbw : Below w.heap.size w wp := below_then HB.out HBEL.out
            have hcx := HCELL.out wp hbw
            have hsz := HBEL.out.size
            obtain ⟨ta, tb, tc⟩ := HTWO.out
            have TA := Lib.hid ta
            have TB := Lib.hid tb
            clear ta tb tc hbw
            have zi0 : (0 : Int) ≤ (i : Int) := by omega
            have zi1 : (i : Int) < (n : Int) := by omega
            go_upto_region 30 with (fail)
            go_cut [19] (fun va wy => ∃ Aa ca, va = .slice Aa (P.length + 1) ca ∧ Two wi.heap.size wy va (.slice Ab P.length cb) (P ++ [x]) P ∧ Below wi.heap.size wi wy)
            case first =>
              go_wp2_with (first
                | (at_builtin
                   go_must (refine wpList_append_one _ rfl (.tmp 95) (.tmp 101) _ rfl wi.heap.size 3 i0 _ 8 Try.underlying22 hi0 hz0 hz1 hz2 rfl (.slice Aa P.length ca) P.length (P.map (Value.int .i64)) (by rfl) TA.out 3 (.int .i64 x) 1 rfl (by rfl) (by simp only [maxLen]; omega) (by omega) hsz ?_)
                   intro A9 c9 w9 ho9 hg9 hb9))
              go_meet
              case rel =>
                exact ⟨A9, c9, rfl, Two.left HTWO.out ho9 rfl hg9 hb9, HBEL.out.grown hg9 hsz (fun g hg => own_lower' TA.out g hg)⟩
            obtain ⟨Aa', ca', rfl, htwo, hbel⟩ := hcut
            have HTWO2 := Lib.hid htwo
            have HBEL2 := Lib.hid hbel
            have hsz2 := hbel.size
            clear htwo hbel TA TB HTWO HBEL hcx hsz
            obtain ⟨wq, rfl⟩ : ∃ wo : World, wo = wc := ⟨_, rfl⟩
            have hbs := HB.out.size
            obtain ⟨rows, r1, r2⟩ := HO.out
            rw [← HLL.out] at r1
            have R1 := Lib.hid r1
            clear r1
            go_upto_region 31 with (fail)
            go_cut [13] (fun v wy => ∃ Ac cc, v = .slice Ac (L + 1) cc ∧ RowsBut wy w.heap.size (.slice Ac (L + 1) cc) (css ++ [P ++ [x]]) (.slice Ab P.length cb) P ∧ Below w.heap.size w wy)
            case first =>
              go_wp2_with (first
                | (at_builtin
                   go_must (refine wpList_append_one _ rfl (.tmp 103) (.tmp 105) _ rfl w.heap.size 22 i1 _ 24 Try.underlying24 hi1 hy0 hy1 hy2 rfl (.slice Ac L cc) L rows (by rfl) (own_below R1.out HBEL2.out (Nat.le_refl _)) 22 (.slice Aa' (P.length + 1) ca') 1 rfl (by rfl) (by simp only [maxLen]; omega) (by omega) (by omega) ?_)
                   intro A9 c9 w9 ho9 hg9 hb9))
              go_meet
              case rel =>
                have hl := HLL.out
                refine ⟨A9, c9, rfl, ?_, (below_then HB.out HBEL2.out).grown hg9 (by omega) (fun g hg => own_lower' R1.out g hg)⟩
                exact push_but (by rw [← hl]; exact R1.out) r2 HBEL2.out hbs HTWO2.out ho9 (by rw [hl]) hg9
            obtain ⟨Ac', cc', rfl, hrb, hbel⟩ := hcut
            have HRB := Lib.hid hrb
            have HBQ := Lib.hid hbel
            clear hrb hbel R1 r2 HTWO2 HBEL2 hsz2
            obtain ⟨wz, rfl⟩ : ∃ wo : World, wo = wc := ⟨_, rfl⟩
            obtain ⟨Q, hQ⟩ : ∃ y, y = css ++ ([P ++ [x]] ++ (if 1 ≤ j then [P ++ [pb + j - 1]] else [])) := ⟨_, rfl⟩
            have HQ := Lib.hid hQ
            clear hQ
            obtain ⟨L2, hL2⟩ : ∃ y, y = Q.length := ⟨_, rfl⟩
            have HL2 := Lib.hid hL2
            clear hL2
            have hzs := HBQ.out.size
            obtain ⟨bt2, hbt2⟩ : ∃ x, x = decide (1 ≤ j) := ⟨_, rfl⟩
            have HBT2 := Lib.hid hbt2
            clear hbt2
            go_upto_region 32 with (fail)
            go_cut [108] (fun v wy => v = .bool bt2 ∧ wz = wy)
            case first =>
              go_wp2
              all_goals go_meet
              all_goals exact ⟨by rw [HBT2.out]; simp; try omega, rfl⟩
            obtain ⟨rfl, rfl⟩ := hcut
            go_upto_if 108 with (fail)
            have HFIN : Hid (Q = cs0 ++ rowL b pb pm x (j + 1)) := by show Q = _; rw [HQ.out, HE.out, HCSS.out, List.append_assoc]
            by_cases hj1 : 1 ≤ j
            · obtain rfl : bt2 = true := by rw [HBT2.out]; simpa using hj1
              have HQ2 : Hid (Q = css ++ [P ++ [x]] ++ [P ++ [pb + ((j : Int) + 1) - 2]]) := by
                show Q = _
                rw [HQ.out, if_pos hj1, show pb + ((j : Int) + 1) - 2 = pb + (j : Int) - 1 by omega, List.append_assoc]
              have hL2' : L2 = L + 1 + 1 := by rw [HL2.out, HQ2.out, HLL.out]; simp
              obtain ⟨rows2, s1, s2, s3, s4⟩ := HRB.out
              have S3 := Lib.hid s3
              clear s1 s2 s3 s4
              have tok1 : True := trivial
              go_wp2_with (first
                | (at_builtin
                   have _t := tok1
                   go_must (refine wpList_append_one _ rfl (.tmp 109) (.tmp 114) _ rfl w.heap.size 3 i0 _ 8 Try.underlying22 hi0 hz0 hz1 hz2 rfl (.slice Ab P.length cb) P.length (P.map (Value.int .i64)) (by rfl) S3.out 3 (.int .i64 (pb + ((j : Int) + 1) - 2)) 1 rfl (by rfl) (by simp only [maxLen]; omega) (by omega) hzs ?_)
                   intro A9 c9 w9 ho9 hg9 hb9
                   clear tok1
                   obtain ⟨hO9, hP9⟩ := RowsBut.more HRB.out ho9 rfl hg9
                   obtain ⟨rows9, q1, q2⟩ := hO9
                   have hq0 : (css ++ [P ++ [x]]).length = L + 1 := by rw [HLL.out]; simp
                   have q1' := q1
                   rw [hq0] at q1'
                   have hsz9 : w.heap.size ≤ w9.heap.size := Nat.le_trans hzs hg9.size)
                | (at_builtin
                   go_must (refine wpList_append_one _ rfl (.tmp 116) (.tmp 118) _ rfl w.heap.size 22 i1 _ 24 Try.underlying24 hi1 hy0 hy1 hy2 rfl (.slice Ac' (L + 1) cc') (L + 1) rows9 (by rfl) q1' 22 (.slice A9 (P.length + 1) c9) 1 rfl (by rfl) (by simp only [maxLen]; omega) (by omega) hsz9 ?_)
                   intro A10 c10 w10 ho10 hg10 hb10))
              go_roundw
              case measure => simp [intOf]; omega
              case rel =>
                refine ⟨j + 1, A10, c10, L2, by omega, by go_num, by rw [hL2'], by rw [← HFIN.out]; exact HL2.out, ?_, (HBQ.out.grown hg9 hzs (fun g hg => own_lower' S3.out g hg)).grown hg10 hsz9 (fun g hg => own_lower' q1' g hg)⟩
                rw [← HFIN.out, HQ2.out, hL2']
                exact OwnRows.snoc q1 q2 hP9 ho10 (by rw [hq0]) hg10
            · obtain rfl : bt2 = false := by rw [HBT2.out]; simpa using hj1
              have HQ2 : Hid (Q = css ++ [P ++ [x]]) := by
                show Q = _
                rw [HQ.out, if_neg hj1, List.append_nil]
              have hL2' : L2 = L + 1 := by rw [HL2.out, HQ2.out, HLL.out]; simp
              go_wp2
              go_roundw
              case measure => simp [intOf]; omega
              case rel =>
                refine ⟨j + 1, Ac', cc', L2, by omega, by go_num, by rw [hL2'], by rw [← HFIN.out]; exact HL2.out, ?_, HBQ.out⟩
                rw [← HFIN.out, HQ2.out, hL2']
                exact HRB.out.rows
end Go.Proofs.Ytanbkdfffojpnaa
