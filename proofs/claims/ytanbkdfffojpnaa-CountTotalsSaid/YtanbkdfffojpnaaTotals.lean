/-
  chalklinelaw16.CountTotals: the walk.
-/
import Derived.Test.YtanbkdfffojpnaaMeans
import Derived.Test.YtanbkdfffojpnaaRowsApp
import Derived.Test.YtanbkdfffojpnaaTotal
import Derived.Deep.RegionLaw
namespace Go.Proofs.Ytanbkdfffojpnaa
open Go.RowKit

theorem step_append_oneB {P : Program} (w : World) {ops : Array Oper} {o : Oper} {a : Act} {K : Act → World → Prop} {Q : Exit → Act → World → Prop} {E : Prop} (hgd : o.guard = none) (s x : Operand) (t : TypeId)
    (ho : o.op = .call { callee := .builtin .append, args := #[s, x], argTypes := #[t, t] })
    (base : Nat) (e : TypeId) (i : TypeInfo) (z : Value) (bytes : Nat) (ht : P.underlying t = some (.slice e)) (hi : P.info? e = some i) (hz : i.zero = some z)
    (hsize : i.size = 1) (hby : i.bytes = bytes) (hzs : z.cells.size = 1)
    (v : Value) (n : Nat) (xs : List Value) (hs : a.eval s = v) (hown : w.ownsRow base e 1 v n xs) (e' : TypeId) (u : Value) (c : Nat) (h1 : u.oneCell' = true)
    (b : Nat) (hbb : b = w.heap.size) (hx : a.eval x = .slice (some ⟨b, 0, none⟩) 1 c)
    (h63 : n + 1 ≤ maxLen) (hbytes : (n + 1) * bytes ≤ 140737488355328) (hbase : base ≤ w.heap.size)
    (h : ∀ A' c' w', w'.ownsRow base e 1 (.slice A' (n + 1) c') (n + 1) (xs ++ [u]) → w.grownBy w' v.ownBlock → (∀ g, (Value.slice A' (n + 1) c').ownBlock = some g → v.ownBlock = some g ∨ w.heap.size ≤ g) → K (a.put o.dst (.slice A' (n + 1) c')) w') :
    if Region.wanted o (yielded ops a.tmps) = true then Oper.wp P o a (w.alloc (.cells #[u] e')) K Q else E := by
  subst hbb
  refine step_append_any _ hgd s x t ho base e i z 1 bytes ht hi hz hsize hby hzs (by omega) v n xs hs (hown.alloc _) _ _ 1 c [u] hx (one_reads w e' u) (fun y hy => by simp at hy; subst hy; exact h1) h63 hbytes (by simp; omega) ?_
  intro v' w' ho' hg hb
  obtain ⟨A', c', rfl⟩ := own_form ho'
  refine h A' c' w' ho' (grown_alloc_then hg) fun g hgb => ?_
  rcases hb with hb | hb
  · exact .inl (hb ▸ hgb)
  · rw [hb] at hgb
    injection hgb with hgb
    simp at hgb
    exact .inr (by omega)

/-- Total, its results as slices that read. -/
def RetT (w : World) (outs : List Int) (cs : List (List Int)) (after err : Int) (e : Ending) (w' : World) : Prop :=
  ∃ A n c A' n' c', e = .returned (.tuple #[.slice A n c, .slice A' n' c', .int .i64 after, .int .i64 err]) ∧ Ints w' (Lt w') A n c outs ∧ Rows2 w' A' n' c' cs ∧ Below w.heap.size w w'
theorem total_t (w : World) (n c : Nat) (A : Option Addr) (xs : List Int) (most next : Int) (hI : Ints w (Lt w) A n c xs) (hf : Fits xs) (hn6 : n ≤ 64) :
    Calls Try.prog 26 #[.slice A n c, .int .i64 most, .int .i64 next] w (RetT w (totalR xs most next).outs (totalR xs most next).cs (totalR xs most next).after (totalR xs most next).err) :=
  (total_any w n c A xs most next hI hf hn6).mono fun _ _ ⟨A, n, c, A', n', c', he, ho, hr, hb⟩ => ⟨A, n, c, A', n', c', he, Ints.of_ownLt ho, Rows2.of_own hr, hb⟩

/-- THE LAW of the totalizer: its clauses and its k-th output. -/
theorem can_total {l : List Int} {a : List Bool} {k : Nat} (hk1 : 1 ≤ k) (hk2 : k ≤ l.length) (h0 : (totalR l l.length a.length).err = 0) :
    canB ((totalR l l.length a.length).cs ++ [[(totalR l l.length a.length).outs.getD (k - 1) 0]]) a ((totalR l l.length a.length).after - a.length).toNat = decide ((k : Int) ≤ (manyT l a : Int)) := by
  have g := totalR_good h0
  have hlen : (totalR l l.length a.length).outs.length = l.length := by have := g.len; omega
  rw [manyT_count g.lits (Int.le_refl _), Bool.eq_iff_iff, canB_iff]
  simp only [decide_eq_true_eq]
  have hmem : (totalR l l.length a.length).outs.getD (k - 1) 0 ∈ (totalR l l.length a.length).outs := by
    rw [List.getD_eq_getElem?_getD, List.getElem?_eq_getElem (by omega)]; exact List.getElem_mem _
  have hall : ∀ cl ∈ (totalR l l.length a.length).cs ++ [[(totalR l l.length a.length).outs.getD (k - 1) 0]], Among (LitBelow (totalR l l.length a.length).after) cl := fun cl hcl => by
    rcases List.mem_append.1 hcl with h | h
    · exact g.cs cl h
    · rw [List.mem_singleton.1 h]
      exact fun x hx => by rw [List.mem_singleton.1 hx]; exact g.outs _ hmem
  constructor
  · rintro ⟨e, he, ht⟩
    have hv := (allT_iff _ hall g.after.2).1 ht
    have hu := g.unary (varT (a ++ e)) (fun c hc => hv c (List.mem_append_left _ hc)) (k - 1) (by omega)
    have hl := hv [(totalR l l.length a.length).outs.getD (k - 1) 0] (List.mem_append_right _ (by simp))
    have hl' : sval (varT (a ++ e)) ((totalR l l.length a.length).outs.getD (k - 1) 0) = true := by unfold cval at hl; simpa using hl
    rw [hl', count_prefix g.lits] at hu
    have := of_decide_eq_true hu.symm
    omega
  · intro hc
    by_cases gg : (a.length : Int) < 1 ∨ 65537 < (a.length : Int) ∨ (l.length : Int) < 0 ∨ 1099511627776 < (l.length : Int) ∨ 4096 < l.length
    · rw [totalR_arg gg] at h0; cases h0
    cases ha : apartB (a.length : Int) l with
    | false => rw [totalR_lit gg ha] at h0; cases h0
    | true =>
      have hz : ¬ (l.length = 0 ∨ (l.length : Int) = 0) := by omega
      by_cases hb : 65537 < (a.length : Int) + (vars (l.length : Int).toNat l.length : Int)
      · rw [totalR_bound gg ha hz hb] at h0; cases h0
      have e := totalR_ok gg ha hz hb
      rw [Int.toNat_natCast] at e
      have hlit : ∀ x ∈ l, x ≠ 0 ∧ x.natAbs < a.length := fun x hx => ⟨(g.lits x hx).1, by have := (g.lits x hx).2; omega⟩
      obtain ⟨q1, q2⟩ := sol_good (most := l.length) (by omega) l.length l a.length (varT a) (Nat.le_refl _) (by omega) hlit (by omega)
      have hout := fun v hv => sol_out l.length l.length l a.length (varT a) v (Nat.le_refl _) (.inl hv)
      have haf : (totalR l l.length a.length).after = a.length + vars l.length l.length := by rw [e]
      refine ⟨(List.range (vars l.length l.length)).map (fun i => sol l.length l a.length (varT a) (a.length + i)), by rw [haf]; simp; omega, (allT_iff _ hall g.after.2).2 fun c hcm => ?_⟩
      have hagree : ∀ v : Nat, (v : Int) < (totalR l l.length a.length).after → varT (a ++ (List.range (vars l.length l.length)).map (fun i => sol l.length l a.length (varT a) (a.length + i))) v = sol l.length l a.length (varT a) v := fun v hv => by
        rw [haf] at hv
        by_cases hva : v < a.length
        · rw [hout v hva]
          unfold varT
          rw [List.getD_eq_getElem?_getD, List.getElem?_append_left hva, ← List.getD_eq_getElem?_getD]
        · unfold varT
          rw [List.getD_eq_getElem?_getD, List.getElem?_append_right (by omega), List.getElem?_map, List.getElem?_range (by omega)]
          show sol l.length l a.length (fun v => a.getD v false) (a.length + (v - a.length)) = _
          rw [show a.length + (v - a.length) = v by omega]
      have hcc : cval (sol l.length l a.length (varT a)) c = true := by
        rcases List.mem_append.1 hcm with h | h
        · rw [e] at h; exact q1 c h
        · rw [List.mem_singleton.1 h]
          have hu := q2 (k - 1) (by
            have : (cnt l.length l a.length).1.length = (totalR l l.length a.length).outs.length := by rw [e]
            omega)
          have e2 : (totalR l l.length a.length).outs = (cnt l.length l a.length).1 := by rw [e]
          rw [e2]
          unfold cval
          rw [List.any_cons, hu, decide_eq_true (by omega)]
          rfl
      rw [← hcc]
      exact cval_congr fun x hx => hagree _ (by have := (hall c hcm x hx).2; omega)
theorem totalR_room {l : List Int} {next : Int} (hl : l.length ≤ 12) (hn0 : 1 ≤ next) (hn : next ≤ 30000) : (totalR l l.length next).err = rightR l next := by
  have gg : ¬ (next < 1 ∨ 65537 < next ∨ (l.length : Int) < 0 ∨ 1099511627776 < (l.length : Int) ∨ 4096 < l.length) := by omega
  unfold rightR
  rw [if_neg (by omega)]
  cases ha : apartB next l with
  | false => rw [totalR_lit gg ha]; rfl
  | true =>
    rw [if_pos rfl]
    by_cases hz : l.length = 0 ∨ (l.length : Int) = 0
    · rw [totalR_zero gg ha hz]
    · have hv := vars_le (l.length : Int).toNat l.length l.length (Nat.le_refl _)
      have hv2 : l.length * l.length ≤ 12 * 12 := Nat.mul_le_mul hl hl
      rw [totalR_ok gg ha hz (by omega)]

set_option maxHeartbeats 4000000 in
set_option maxRecDepth 100000 in
theorem totals_walk (w : World) (n c : Nat) (A : Option Addr) (xs : List Int) (k : Int) (n' c' : Nat) (A' : Option Addr) (bs : List Bool) (hI : Ints w (Lt w) A n c xs) (hf : Fits xs) (hk : (Lit.int .i64 k).wf = true) (hB : Bools w A' n' c' bs) :
    Calls Try.prog 11 #[.slice A n c, .int .i64 k, .slice A' n' c'] w (RetBoolBelow w true) := by
  have hlen := hI.len
  have hIc := hI.cap
  have hIm := hI.max
  have hlb := hB.len
  have hBc := hB.cap
  have hBm := hB.max
  unfold maxLen at hIm hBm
  have HI := Lib.hid hI
  have HF := Lib.hid hf
  have HK := Lib.hid hk
  have HB := Lib.hid hB
  have HL := Lib.hid hlen
  have HLB := Lib.hid hlb
  have LIVE := Lib.hid (live_any w)
  obtain ⟨i0, hi0, hz0, hz1, hz2⟩ := info_parts bool_info
  clear hI hf hk hB hlen hlb
  by_cases g1 : 5 < n'
  case pos =>
    go_enter Try.func11, Try.ntmps11
    go_wp2_with (fail)
    (with_reducible refine LIVE.out.mono ?_)
    rintro e w1 ⟨rfl, hb1⟩
    go_wp2
    go_ret
    exact ⟨rfl, hb1⟩
  have d1 : decide ((5 : Int) < (n' : Int)) = false := by simp; omega
  by_cases g2 : 5 < n
  case pos =>
    go_enter Try.func11, Try.ntmps11
    go_wp2_with (fail)
    (with_reducible refine LIVE.out.mono ?_)
    rintro e w1 ⟨rfl, hb1⟩
    go_wp2
    go_ret
    exact ⟨rfl, hb1⟩
  have d2 : decide ((5 : Int) < (n : Int)) = false := by simp; omega
  go_enter Try.func11, Try.ntmps11
  go_wp2_with (fail)
  (with_reducible refine LIVE.out.mono ?_)
  rintro e w1 ⟨rfl, hb1⟩
  have hal := alloc_lt (w := w1) (.cells #[.bool false] 4)
  have hrd := ((HB.out.belowLt hb1).belowLt hal).reads
  have HB1 := Lib.hid (below_then hb1 hal)
  have HBW1 := Lib.hid hb1.size
  clear hb1 hal LIVE
  go_wp2_with (first
    | (at_builtin
       refine wpList_append_any _ rfl (.tmp 30) (.tmp 31) _ rfl w1.heap.size 4 i0 _ 1 1 Try.underlying30 hi0 hz0 hz1 hz2 rfl (by omega) (.slice (some ⟨w1.heap.size, 0, none⟩) 1 1) 1 [.bool false] (by rfl) (one_false w1) _ A' n' c' _ (by rfl) hrd (bools_oneCell _) (by simp only [maxLen]; omega) (by omega) (by simp) ?_
       intro v2 w2 hown2 hg2 hat2
       obtain ⟨A2, c2, rfl⟩ := own_form hown2))
  have hB2 : Below w.heap.size w w2 := HB1.out.grown hg2 (by have := HB1.out.size; simpa using this) (fun g hg => by
    have e : g = w1.heap.size := by simpa [Value.ownBlock] using hg.symm
    have := HB1.out.size
    simp at this
    have := HBW1.out
    omega)
  have hBa : Bools w2 A2 (1 + n') c2 (false :: bs) := Bools.of_own (e := 4) (base := w1.heap.size) hown2
  have hal : ((false :: bs).length : Int) = 1 + (n' : Int) := by rw [List.length_cons, ← HLB.out]; omega
  have HAL := Lib.hid hal
  have HBA := Lib.hid hBa
  have HB2 := Lib.hid hB2
  have call1 := least_t w2 n c A xs k (1 + (n' : Int)) (HI.out.belowLt hB2) HF.out HK.out
  have CALL1 := Lib.hid call1
  clear hown2 hg2 hat2 hB2 hBa hal call1 HB HB1 hrd
  (with_reducible refine CALL1.out.mono ?_)
  rintro e w3 ⟨A3, n3, c3, rfl, hr3, hb3⟩
  have HR3 := Lib.hid hr3
  have HBA3 := Lib.hid (HBA.out.belowLt hb3)
  have HB3 := Lib.hid (below_then HB2.out hb3)
  have hx60 : xs.length ≤ 60 := by have := HL.out; omega
  have hx12 : xs.length ≤ 12 := by have := HL.out; omega
  have e1 := leastR_room (k := k) hx60 (show 1 + (n' : Int) ≤ 30000 by omega)
  have e2 := totalR_room (l := xs) (next := 1 + (n' : Int)) hx12 (by omega) (by omega)
  have call2 := total_t w3 n c A xs n (1 + (n' : Int)) (HI.out.belowLt HB3.out) HF.out (by omega)
  rw [← HL.out] at e2
  have CALL2 := Lib.hid call2
  have HE1 := Lib.hid e1
  have HE2 := Lib.hid e2
  clear call2 e1 e2
  go_wp2_with (fail)
  (with_reducible refine CALL2.out.mono ?_)
  rintro e w4 ⟨A4, n4, c4, A5, n5, c5, rfl, ho4, hr4, hb4⟩
  have HO4 := Lib.hid ho4
  have HR4 := Lib.hid hr4
  have HR34 := Lib.hid (HR3.out.belowLt hb4)
  have HBA4 := Lib.hid (HBA3.out.belowLt hb4)
  have HB4 := Lib.hid (below_then HB3.out hb4)
  clear ho4 hr4 hb4 CALL2 HBA3 HB3 HR3
  have e1 := HE1.out
  have e2 := HE2.out
  by_cases hr : rightR xs (1 + (n' : Int)) = 0
  case neg =>
    have q1 := leastR_bad0 (show (leastR xs k (1 + (n' : Int))).err ≠ 0 by rw [e1]; exact hr)
    have q2 := totalR_bad (show (totalR xs n (1 + (n' : Int))).err ≠ 0 by rw [e2]; exact hr)
    have l3 := HR34.out.len
    have l4 := HO4.out.len
    rw [q1.1] at l3
    rw [q2.1] at l4
    obtain rfl : n3 = 0 := l3
    obtain rfl : n4 = 0 := l4
    rw [e1, e2]
    have hne : (rightR xs (1 + (n' : Int)) != 0) = true := by simpa using hr
    clear q1 q2 e1 e2 HR34 HR4 HO4 hr
    generalize rightR xs (1 + (n' : Int)) = er at *
    generalize (leastR xs k (1 + (n' : Int))).after = af1 at *
    generalize (totalR xs n (1 + (n' : Int))).after = af2 at *
    go_wp2_with (fail)
    go_ret
    exact ⟨by simp, HB4.out⟩
  rw [hr] at e1 e2
  have gT := totalR_good e2
  have hol : (totalR xs n (1 + (n' : Int))).outs.length = n := by have := gT.len; have := HL.out; omega
  have ho4l := HO4.out.len
  rw [hol] at ho4l
  have ho4l' := ho4l.symm
  subst ho4l'
  clear ho4l
  rw [e1, e2]
  obtain ⟨-, f1, f2, -⟩ := leastR_after e1
  obtain ⟨f3, f4⟩ := gT.after
  clear hr3 hb3 CALL1 HBA HB2
  by_cases hk1 : k < 1
  case pos =>
    clear e1 e2 hr gT hol
    generalize (leastR xs k (1 + (n' : Int))).after = af1 at *
    generalize (totalR xs n (1 + (n' : Int))).after = af2 at *
    go_wp2
    go_ret
    exact ⟨by simp, HB4.out⟩
  have dk1 : decide (k < 1) = false := by simpa using hk1
  by_cases hk2 : (n : Int) < k
  case pos =>
    clear e1 e2 hr gT hol
    generalize (leastR xs k (1 + (n' : Int))).after = af1 at *
    generalize (totalR xs n (1 + (n' : Int))).after = af2 at *
    go_wp2
    go_ret
    exact ⟨by simp, HB4.out⟩
  have dk2 : decide ((n : Int) < k) = false := by simpa using hk2
  obtain ⟨m, rfl⟩ := Int.eq_ofNat_of_zero_le (show 0 ≤ k by omega)
  have hm1 : 1 ≤ m := by omega
  have hm2 : m ≤ n := by omega
  have k1 : (leastR xs (m : Int) ((false :: bs).length : Int)).err = 0 := by rw [HAL.out]; exact e1
  have k2 : (totalR xs xs.length ((false :: bs).length : Int)).err = 0 := by rw [HAL.out, ← HL.out]; exact e2
  have c1 := can_least k1
  have c2' := can_total hm1 (by have := HL.out; omega) k2
  rw [HAL.out] at c1 c2'
  rw [← HL.out] at c2'
  have HC1 : Hid (canTried (false :: bs) (leastR xs (m : Int) (1 + (n' : Int))).after = true → canIs (leastR xs (m : Int) (1 + (n' : Int))).cs (false :: bs) (leastR xs (m : Int) (1 + (n' : Int))).after = decide ((m : Int) ≤ (manyT xs (false :: bs) : Int))) := fun h => by
    unfold canIs; rw [h, Bool.true_and, HAL.out]; exact c1
  have HC2 : Hid (canTried (false :: bs) (totalR xs n (1 + (n' : Int))).after = true → canIs ((totalR xs n (1 + (n' : Int))).cs ++ [[(totalR xs n (1 + (n' : Int))).outs.getD (m - 1) 0]]) (false :: bs) (totalR xs n (1 + (n' : Int))).after = decide ((m : Int) ≤ (manyT xs (false :: bs) : Int))) := fun h => by
    unfold canIs; rw [h, Bool.true_and, HAL.out]; exact c2'
  have HTR : Hid (∀ af : Int, 1 + (n' : Int) ≤ af → ¬ 9 < af - (1 + (n' : Int)) → canTried (false :: bs) af = true) := fun af h1 h2 => by
    unfold canTried; rw [HAL.out]; simp; omega
  have hcl : (totalR xs n (1 + (n' : Int))).cs.length ≤ 20000 := by
    by_cases gg : (1 + (n' : Int)) < 1 ∨ 65537 < (1 + (n' : Int)) ∨ (n : Int) < 0 ∨ 1099511627776 < (n : Int) ∨ 4096 < xs.length
    · rw [totalR_arg gg] at e2; cases e2
    cases ha : apartB (1 + (n' : Int)) xs with
    | false => rw [totalR_lit gg ha] at e2; cases e2
    | true =>
      by_cases hz : xs.length = 0 ∨ (n : Int) = 0
      · rw [totalR_zero gg ha hz]; simp
      by_cases hb : 65537 < 1 + (n' : Int) + (vars (n : Int).toNat xs.length : Int)
      · rw [totalR_bound gg ha hz hb] at e2; cases e2
      rw [totalR_ok gg ha hz hb]
      have := cnt_many (n : Int).toNat xs.length xs (1 + (n' : Int)) (Nat.le_refl _)
      have h12 : 4 * xs.length * xs.length ≤ 4 * 12 * 12 := Nat.mul_le_mul (Nat.mul_le_mul_left _ hx12) hx12
      show (cnt (n : Int).toNat xs (1 + (n' : Int))).2.length ≤ 20000
      omega
  obtain ⟨mm, rfl⟩ : ∃ mm, m = mm + 1 := ⟨m - 1, by omega⟩
  rw [Nat.add_sub_cancel] at HC2
  clear c1 c2' k1 k2 hr e1 e2 gT HE1 HE2 hol hk1 hk2 dk1 dk2
  have dk1 : decide ((mm : Int) + 1 < 1) = false := by simp; omega
  have dk2 : decide ((n : Int) < (mm : Int) + 1) = false := by simp; omega
  have dk3 : decide (n < mm + 1) = false := by simp; omega
  have hr5l := HR4.out.len
  have HR5L := Lib.hid hr5l
  clear hr5l
  generalize (leastR xs ((mm + 1 : Nat) : Int) (1 + (n' : Int))).after = af1 at *
  generalize (totalR xs n (1 + (n' : Int))).after = af2 at *
  generalize (totalR xs n (1 + (n' : Int))).cs = cs2 at *
  generalize (totalR xs n (1 + (n' : Int))).outs = outs at *
  by_cases h91 : 9 < af1 - (1 + (n' : Int))
  · go_wp2
    go_ret
    exact ⟨by simp, HB4.out⟩
  have d91 : decide (9 < af1 - (1 + (n' : Int))) = false := by simpa using h91
  by_cases h92 : 9 < af2 - (1 + (n' : Int))
  · go_wp2
    go_ret
    exact ⟨by simp, HB4.out⟩
  have d92 : decide (9 < af2 - (1 + (n' : Int))) = false := by simpa using h92
  have ht1 := HTR.out af1 f1 h91
  have ht2 := HTR.out af2 f3 h92
  have hc1 := HC1.out ht1
  have hc2 := HC2.out ht2
  have hE : canIs (leastR xs ((mm + 1 : Nat) : Int) (1 + (n' : Int))).cs (false :: bs) af1 = canIs (cs2 ++ [[outs.getD mm 0]]) (false :: bs) af2 := by rw [hc1, hc2]
  have HE := Lib.hid hE
  clear ht1 ht2 hc1 hc2 hE HC1 HC2 HTR
  obtain ⟨ad4, rfl, hadS, hcell⟩ := HO4.out.at_ (show mm < n by omega)
  obtain ⟨rows2, rd2, rr2⟩ := HR4.out.parts
  have hoc2 := rr2.oneCell
  have RR2 := Lib.hid rr2
  have hn5 : n5 ≤ 20000 := by have := HR5L.out; omega
  obtain ⟨i1, hi1, hy0, hy1, hy2⟩ := info_parts ints_info
  clear rr2 HR4 hcl hi0 hz0 hz1 hz2
  generalize outs.getD mm 0 = o at *
  go_upto_region 14 with (fail)
  have hb0 : Below w4.heap.size w4 w4.drew := (Below.refl _ _).drew
  have hbY1 : Below w4.heap.size w4 (w4.alloc (.cells #[.int .i64 o] 3)).drew := (alloc_lt _).drew
  have hbY2 : Below w4.heap.size w4 ((w4.alloc (.cells #[.int .i64 o] 3)).alloc (.cells #[.slice (some ⟨w4.heap.size, 0, none⟩) 1 1] 22)).drew := (below_then (alloc_lt _) (alloc_lt _)).drew
  have rdA : Reads w4.drew (Lt w4.drew) 1 A5 n5 rows2 := rd2.keep' (fun p hp => hb0.cell hp) (fun _ hk => Nat.lt_of_lt_of_le hk hb0.size)
  have rdB : Reads (w4.alloc (.cells #[.int .i64 o] 3)).drew (Lt (w4.alloc (.cells #[.int .i64 o] 3)).drew) 1 A5 n5 rows2 := rd2.keep' (fun p hp => hbY1.cell hp) (fun _ hk => Nat.lt_of_lt_of_le hk hbY1.size)
  have rdC : Reads ((w4.alloc (.cells #[.int .i64 o] 3)).alloc (.cells #[.slice (some ⟨w4.heap.size, 0, none⟩) 1 1] 22)).drew (Lt ((w4.alloc (.cells #[.int .i64 o] 3)).alloc (.cells #[.slice (some ⟨w4.heap.size, 0, none⟩) 1 1] 22)).drew) 1 A5 n5 rows2 := rd2.keep' (fun p hp => hbY2.cell hp) (fun _ hk => Nat.lt_of_lt_of_le hk hbY2.size)
  have hoI : Ints (w4.alloc (.cells #[.int .i64 o] 3)) (Lt (w4.alloc (.cells #[.int .i64 o] 3))) (some ⟨w4.heap.size, 0, none⟩) 1 1 [o] := lit_ints w4 [o] (by simp [maxLen])
  have hlt4 : (ad4.add mm).block < w4.heap.size := by rw [block_of_add]; exact hadS
  have hmmn : (mm : Int) < (n : Int) := by omega
  have hmm0 : (0 : Int) ≤ (mm : Int) := by omega
  clear d91 d92 dk1 dk2 dk3 d1 d2
  have HOI := Lib.hid hoI
  have HY1 := Lib.hid hbY1
  have HY2 := Lib.hid hbY2
  clear hoI hbY1 hbY2
  have FIN : Hid (∀ (w9 : World) (b : Nat) (A9 : Option Addr) (c9 : Nat), w9.ownsRow w4.heap.size 22 1 (.slice A9 (n5 + 1) c9) (n5 + 1) (rows2 ++ [.slice (some ⟨b, 0, none⟩) 1 1]) → w9.ownsRow w4.heap.size 3 1 (.slice (some ⟨b, 0, none⟩) 1 1) 1 [.int .i64 o] → Below w4.heap.size w4 w9 → Rows2 w9 A9 (n5 + 1) c9 (cs2 ++ [[o]])) := fun w9 b A9 c9 h1 h2 h3 => by
    refine Rows2.of_read h1 ((RR2.out.belowLt h3).append ⟨rfl, fun i r hr => ?_⟩)
    match i, hr with
    | 0, hr =>
      simp at hr
      subst hr
      exact ⟨_, _, _, [o], rfl, rfl, Ints.of_ownLt (xs := [o]) h2⟩
  have ww1 : IntKind.i64.wrap (mm : Int) = (mm : Int) := IntWalk.i64_in _ (by omega)
  have ww2 : IntKind.i64.wrap ((mm : Int) + 1 - 1) = (mm : Int) := (IntWalk.i64_in _ (by omega)).trans (by omega)
  go_cut [15] (fun v wx => ∃ A6 c6, v = .slice A6 (n5 + 1) c6 ∧ Rows2 wx A6 (n5 + 1) c6 (cs2 ++ [[o]]) ∧ Below w4.heap.size w4 wx)
  case first =>
    go_region_law (first
      | (refine step_append_any _ (by rfl) (.const (.slice none 0 0)) (.tmp 97) _ (by rfl) w4.heap.size 22 i1 _ 1 24 Try.underlying24 hi1 hy0 hy1 hy2 rfl (by omega) (.slice none 0 0) 0 [] (by rfl) (World.ownsRow_nil _ _ _ _) _ A5 n5 c5 _ (by rfl) rdA hoc2 (by simp only [maxLen]; omega) (by omega) (Nat.le_refl _) ?_
         intro v5 w5 hown5 hg5 hat5
         rw [Nat.zero_add, List.nil_append] at hown5
         obtain ⟨A6, c6, rfl⟩ := own_form hown5
         have hb5 : Below w4.heap.size w4 w5 := hb0.grown hg5 (Nat.le_refl _) (by simp [Value.ownBlock])
         have hs5 := hb5.size
         have hcell5 := (hb5.cell hlt4).trans hcell)
      | (refine step_append_any _ (by rfl) (.const (.slice none 0 0)) (.tmp 97) _ (by rfl) w4.heap.size 22 i1 _ 1 24 Try.underlying24 hi1 hy0 hy1 hy2 rfl (by omega) (.slice none 0 0) 0 [] (by rfl) (World.ownsRow_nil _ _ _ _) _ A5 n5 c5 _ (by rfl) rdB hoc2 (by simp only [maxLen]; omega) (by omega) HY1.out.size ?_
         intro v5 w5 hown5 hg5 hat5
         rw [Nat.zero_add, List.nil_append] at hown5
         obtain ⟨A6, c6, rfl⟩ := own_form hown5
         have hb5 : Below w4.heap.size w4 w5 := HY1.out.grown hg5 HY1.out.size (by simp [Value.ownBlock])
         have hs5 := hb5.size
         have hI5 : Ints w5 (Lt w5) (some ⟨w4.heap.size, 0, none⟩) 1 1 [o] := HOI.out.belowLt ((Below.refl _ _).drew.grown hg5 (Nat.le_refl _) (by simp [Value.ownBlock])))
      | (refine step_append_any _ (by rfl) (.const (.slice none 0 0)) (.tmp 97) _ (by rfl) w4.heap.size 22 i1 _ 1 24 Try.underlying24 hi1 hy0 hy1 hy2 rfl (by omega) (.slice none 0 0) 0 [] (by rfl) (World.ownsRow_nil _ _ _ _) _ A5 n5 c5 _ (by rfl) rdC hoc2 (by simp only [maxLen]; omega) (by omega) HY2.out.size ?_
         intro v5 w5 hown5 hg5 hat5
         rw [Nat.zero_add, List.nil_append] at hown5
         obtain ⟨A6, c6, rfl⟩ := own_form hown5
         have hb5 : Below w4.heap.size w4 w5 := HY2.out.grown hg5 HY2.out.size (by simp [Value.ownBlock])
         have hs5 := hb5.size
         have hbq := (Below.refl ((w4.alloc (.cells #[.int .i64 o] 3)).alloc (.cells #[.slice (some ⟨w4.heap.size, 0, none⟩) 1 1] 22)).heap.size ((w4.alloc (.cells #[.int .i64 o] 3)).alloc (.cells #[.slice (some ⟨w4.heap.size, 0, none⟩) 1 1] 22))).drew.grown hg5 (Nat.le_refl _) (by simp [Value.ownBlock])
         have hI5 : Ints w5 (Lt w5) (some ⟨w4.heap.size, 0, none⟩) 1 1 [o] := (HOI.out.belowLt (alloc_lt _)).belowLt hbq
         have hrdq : Reads w5 (Lt w5) 1 (some ⟨w4.heap.size + 1, 0, none⟩) 1 [.slice (some ⟨w4.heap.size, 0, none⟩) 1 1] := by
           have h := one_reads (w4.alloc (.cells #[.int .i64 o] 3)) 22 (.slice (some ⟨w4.heap.size, 0, none⟩) 1 1)
           rw [show (w4.alloc (.cells #[.int .i64 o] 3)).heap.size = w4.heap.size + 1 by simp] at h
           exact h.keep' (fun p hp => hbq.cell (by simp; omega)) (fun _ hk => by have := hbq.size; simp at this; omega))
      | (refine step_append_oneB _ (by rfl) (.tmp 98) (.tmp 105) _ (by rfl) w4.heap.size 22 i1 _ 24 Try.underlying24 hi1 hy0 hy1 hy2 rfl (.slice A6 n5 c6) n5 rows2 (by rfl) (hown5.alloc (.cells #[.int .i64 o] 3)) 22 (.slice (some ⟨w5.heap.size, 0, none⟩) 1 1) 1 rfl (w5.heap.size + 1) (by simp) (by rfl) (by simp only [maxLen]; omega) (by omega) (by simp; omega) ?_
         intro A9 c9 w9 ho9 hg9 hb9)
      | (refine step_append_one _ (by rfl) (.tmp 98) (.tmp 105) _ (by rfl) w4.heap.size 22 i1 _ 24 Try.underlying24 hi1 hy0 hy1 hy2 rfl (.slice A6 n5 c6) n5 rows2 (by rfl) hown5 22 (.slice (some ⟨w4.heap.size, 0, none⟩) 1 1) 1 rfl (by rfl) (by simp only [maxLen]; omega) (by omega) hs5 ?_
         intro A9 c9 w9 ho9 hg9 hb9)
      | (refine step_append_any _ (by rfl) (.tmp 98) (.tmp 105) _ (by rfl) w4.heap.size 22 i1 _ 1 24 Try.underlying24 hi1 hy0 hy1 hy2 rfl (by omega) (.slice A6 n5 c6) n5 rows2 (by rfl) hown5 _ _ 1 1 _ (by rfl) hrdq (fun y hy => by simp at hy; subst hy; rfl) (by simp only [maxLen]; omega) (by omega) hs5 ?_
         intro v9 w9 ho9 hg9 hb9
         obtain ⟨A9, c9, rfl⟩ := own_form ho9))
    all_goals go_wp2_with (fail)
    all_goals go_meet
    all_goals first
      | (have hB9 : Below w4.heap.size w4 w9 := (below_then hb5 (alloc_lt _)).grown hg9 (by simp; omega) (fun g hg => (hown5.lt g hg).1)
         exact ⟨A9, c9, rfl, FIN.out w9 w5.heap.size A9 c9 ho9 (own_base ((own_new w5 3 (.int .i64 o)).kept hg9 (own_ne (own_new w5 3 (.int .i64 o)) (hown5.alloc _) (by decide))) hs5) hB9, hB9⟩)
      | (have hB9 : Below w4.heap.size w4 w9 := hb5.grown hg9 hs5 (fun g hg => (hown5.lt g hg).1)
         have hn5' := (own_new w4 3 (.int .i64 o)).drew.kept hg5 (.inr (by simp [Value.ownBlock]))
         exact ⟨A9, c9, rfl, FIN.out w9 w4.heap.size A9 c9 ho9 (hn5'.kept hg9 (own_ne hn5' hown5 (by decide))) hB9, hB9⟩)
      | (have hB9 : Below w4.heap.size w4 w9 := hb5.grown hg9 hs5 (fun g hg => (hown5.lt g hg).1)
         have hn5' := ((own_new w4 3 (.int .i64 o)).alloc (.cells #[.slice (some ⟨w4.heap.size, 0, none⟩) 1 1] 22)).drew.kept hg5 (.inr (by simp [Value.ownBlock]))
         exact ⟨A9, c9, rfl, FIN.out w9 w4.heap.size A9 c9 ho9 (hn5'.kept hg9 (own_ne hn5' hown5 (by decide))) hB9, hB9⟩)
  obtain ⟨A6, c6, rfl, hR6, hB6⟩ := hcut
  have call1 := can_r wc A3 n3 c3 (leastR xs ((mm + 1 : Nat) : Int) (1 + (n' : Int))).cs A2 (1 + n') c2 (false :: bs) af1 (HR34.out.belowLt hB6) (HBA4.out.belowLt hB6) (by omega) (by omega) (by omega)
  have call2 := fun w7 (hb7 : Below wc.heap.size wc w7) => can_r w7 A6 (n5 + 1) c6 (cs2 ++ [[o]]) A2 (1 + n') c2 (false :: bs) af2 (hR6.belowLt hb7) ((HBA4.out.belowLt hB6).belowLt hb7) (by omega) (by omega) (by omega)
  have hE := HE.out
  rw [hE] at call1
  generalize canIs (cs2 ++ [[o]]) (false :: bs) af2 = is1 at *
  generalize canTried (false :: bs) af1 = tr1 at *
  generalize canTried (false :: bs) af2 = tr2 at *
  have CALL1 := Lib.hid call1
  have CALL2 := Lib.hid call2
  have HB6 := Lib.hid (below_then HB4.out hB6)
  clear call1 call2 hE HE hR6 hB6 hb0 rdA rdB rdC HOI HY1 HY2 rd2
  go_wp2_with (fail)
  (with_reducible refine CALL1.out.mono ?_)
  rintro e w7 ⟨rfl, hb7⟩
  have C2 := Lib.hid (CALL2.out w7 hb7)
  have HB7 := Lib.hid (below_then HB6.out hb7)
  clear hb7 CALL2
  go_wp2_with (fail)
  (with_reducible refine C2.out.mono ?_)
  rintro e w8 ⟨rfl, hb8⟩
  have HB8 := Lib.hid (below_then HB7.out hb8)
  clear hb8
  go_wp2_with (fail)
  go_ret
  exact ⟨by simp, HB8.out⟩
end Go.Proofs.Ytanbkdfffojpnaa
