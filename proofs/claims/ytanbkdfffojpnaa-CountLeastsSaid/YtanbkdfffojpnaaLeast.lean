/-
  count.Least: what it hands back.
-/
import Derived.Test.YtanbkdfffojpnaaDel
import Derived.Test.YtanbkdfffojpnaaAt
import Derived.Test.YtanbkdfffojpnaaApartMem
namespace Go.Proofs.Ytanbkdfffojpnaa
open Go.RowKit

/-- The ending of Least and Most. -/
def RetLeast (w : World) (r : LeastOut) (e : Ending) (w' : World) : Prop :=
  ∃ A n c, e = .returned (.tuple #[.slice A n c, .int .i64 r.after, .int .i64 r.err]) ∧ OwnRows w' w.heap.size (.slice A n c) r.cs ∧ Below w.heap.size w w'
theorem retLeast_nil {w w' : World} {after err : Int} (h : Below w.heap.size w w') : RetLeast w ⟨[], after, err⟩ (.returned (.tuple #[.slice none 0 0, .int .i64 after, .int .i64 err])) w' :=
  ⟨none, 0, 0, rfl, OwnRows.nil_ _ _, h⟩

/-- The clauses so far: in the list at block bl. -/
def LSt (w : World) (bl : Nat) (css : List (List Int)) (wr : World) : Prop :=
  ∃ A c, wr.heap[bl]? = some (.cells #[.slice A css.length c] 49 (0, 0)) ∧ OwnRows wr w.heap.size (.slice A css.length c) css ∧ Below w.heap.size w wr ∧ w.heap.size ≤ bl
theorem LSt.below {w wr wx : World} {bl : Nat} {css : List (List Int)} (h : LSt w bl css wr) (hb : Below wr.heap.size wr wx) : LSt w bl css wx := by
  obtain ⟨A, c, h1, h2, h3, h4⟩ := h
  exact ⟨A, c, (hb.block _ (lt_of_block h1)).trans h1, h2.below hb (Nat.le_refl _), below_then h3 hb, h4⟩
theorem LSt.drew {w wr : World} {bl : Nat} {css : List (List Int)} (h : LSt w bl css wr) : LSt w bl css wr.drew := h.below (Below.refl _ _).drew

/-- What 'put' does to it; and to what stands beside it. -/
def PutOk (w : World) (bl : Nat) (css : List (List Int)) (wr : World) (e : Ending) (w' : World) : Prop :=
  e = .returned (.tuple #[]) ∧ LSt w bl css w' ∧ (∀ (g : Nat) (cs : Array Value) , wr.heap[g]? = some (.cells cs 3 (0, 0)) → w'.heap[g]? = some (.cells cs 3 (0, 0))) ∧ Below w.heap.size w w'
theorem put_lst (w wr : World) (bl : Nat) (css : List (List Int)) (ls : List Int) (hp : Putable ls) (h : LSt w bl css wr) (hl : css.length ≤ 16777216) :
    Calls Try.prog 28 #[.pointer (some ⟨bl, 0, none⟩), .slice (some ⟨wr.heap.size, 0, none⟩) ls.length ls.length] (wr.alloc (.cells (ls.map (Value.int .i64)).toArray 3)) (PutOk w bl (css ++ [nz ls]) wr) := by
  obtain ⟨A, c, h1, h2, h3, h4⟩ := h
  refine (put_any wr w.heap.size bl A c css ls hp h1 h2 h3.size hl).mono ?_
  rintro e w' ⟨rfl, ⟨A', c', q1, q2, q3⟩, q4, q5, q6, q7, q8⟩
  obtain ⟨rows, r1, _⟩ := h2
  have hb : Below w.heap.size w w' := ⟨q4.trans h3.os, q5.trans h3.tape, q6.trans h3.output, Nat.le_trans h3.size q7, fun k hk => by
    rw [q8 k (Nat.lt_of_lt_of_le hk h3.size) (by omega) (fun e => by have := (r1.lt k e.symm).1; omega)]
    exact h3.block k hk⟩
  refine ⟨rfl, ⟨A', c', q1, q2, hb, h4⟩, fun g cs hg => ?_, hb⟩
  rw [q8 g (lt_of_block hg) (fun e => by subst e; rw [h1] at hg; injection hg with hg; injection hg with _ ht; revert ht; decide) (fun e => own_boxL r1 hg (by decide) e.symm)]
  exact hg
theorem put_lst3 (w wr : World) (bl : Nat) (css : List (List Int)) (a b c : Int) (hp : Putable [a, b, c]) (h : LSt w bl css wr) (hl : css.length ≤ 16777216) :
    Calls Try.prog 28 #[.pointer (some ⟨bl, 0, none⟩), .slice (some ⟨wr.heap.size, 0, none⟩) 3 3] (wr.alloc (.cells #[.int .i64 a, .int .i64 b, .int .i64 c] 3)) (PutOk w bl (css ++ [nz [a, b, c]]) wr) :=
  put_lst w wr bl css [a, b, c] hp h hl
theorem put_lst1 (w wr : World) (bl : Nat) (css : List (List Int)) (a : Int) (hp : Putable [a]) (h : LSt w bl css wr) (hl : css.length ≤ 16777216) :
    Calls Try.prog 28 #[.pointer (some ⟨bl, 0, none⟩), .slice (some ⟨wr.heap.size, 0, none⟩) 1 1] (wr.alloc (.cells #[.int .i64 a] 3)) (PutOk w bl (css ++ [nz [a]]) wr) :=
  put_lst w wr bl css [a] hp h hl

theorem putable3 {a b c : Int} (ha : a ≠ 0) (hc : c ≠ 0) : Putable [a, b, c] := by
  refine ⟨by simp, ?_⟩
  by_cases hb : b = 0
  · subst hb; exact .inr ⟨a, c, rfl, ha, hc⟩
  · exact .inl (by simp [ha, hb, hc])
theorem putable1 {a : Int} (ha : a ≠ 0) : Putable [a] := ⟨by simp, .inl (by simp [ha])⟩

theorem regs_le {n k : Nat} (h1 : 1 ≤ k) (h2 : k ≤ n) (hn : n ≤ 4096) : regs n k ≤ 33554432 ∧ k * (k - 1) ≤ 16777216 ∧ k * (n - k + 1) ≤ 16777216 := by
  have a1 : k * (k - 1) ≤ 4096 * 4096 := Nat.mul_le_mul (by omega) (by omega)
  have a2 : k * (n - k + 1) ≤ 4096 * 4096 := Nat.mul_le_mul (by omega) (by omega)
  unfold regs
  generalize k * (k - 1) = p at *
  generalize k * (n - k + 1) = q at *
  omega

set_option maxHeartbeats 4000000 in
set_option maxRecDepth 100000 in
theorem least_main (w : World) (n c : Nat) (A : Option Addr) (xs : List Int) (k : Nat) (next : Int) (hI : Ints w (Lt w) A n c xs) (hf : Fits xs) (hr : rightR xs next = 0) (hk1 : 1 ≤ k) (hk2 : k ≤ n) (hn : n ≤ 4096) (hx : ∀ x ∈ xs, x ≠ 0 ∧ -70000 ≤ x ∧ x ≤ 70000)
    (hn1 : 1 ≤ next) (hbd : next + regs n k ≤ 65537) (hcl : 2 * regs n k + 1 ≤ 65536 + n) :
    Calls Try.prog 13 #[.slice A n c, .int .i64 k, .int .i64 next] w (RetLeast w ⟨leastC xs next k, beginAt next k n, 0⟩) := by
  have hlen := hI.len
  have hcap := hI.cap
  have hmax := hI.max
  unfold maxLen at hmax
  have call := right_any w n c A xs next hI hf
  rw [hr] at call
  have CALL := Lib.hid call
  have HI := Lib.hid hI
  obtain ⟨b1, b2, b3⟩ := regs_le hk1 hk2 hn
  have e1 : ((k : Int) * ((k : Int) - 1)) = ((k * (k - 1) : Nat) : Int) := by
    obtain ⟨j, rfl⟩ : ∃ j, k = j + 1 := ⟨k - 1, by omega⟩
    simp
  have e2 : ((k : Int) * ((n : Int) - (k : Int) + 1)) = ((k * (n - k + 1) : Nat) : Int) := by
    obtain ⟨j, rfl⟩ : ∃ j, n = k + j := ⟨n - k, by omega⟩
    rw [show k + j - k + 1 = j + 1 by omega, show (((k + j : Nat) : Int) - (k : Int) + 1) = ((j + 1 : Nat) : Int) by omega]
    exact (Int.natCast_mul _ _).symm
  have hreg : regs n k = k * (k - 1) / 2 + k * (n - k + 1) := rfl
  generalize hp : k * (k - 1) = p at *
  generalize hq : k * (n - k + 1) = q at *
  obtain ⟨R, hR⟩ : ∃ R, R = regs n k := ⟨_, rfl⟩
  rw [← hR] at hbd hcl hreg b1
  have e3 : ((p : Int) / 2 + (q : Int)) = (R : Int) := by omega
  have HR := Lib.hid hR
  have d1 : decide (k = 0) = false := by simp; omega
  have d2 : decide (n < k) = false := by simp; omega
  have d3 : decide ((65536 : Int) < next + (R : Int) - 1) = false := by simp; omega
  have d4 : decide ((65536 : Int) < 2 * (R : Int) - (n : Int) + 1) = false := by simp; omega
  have HX := Lib.hid hx
  have HL := Lib.hid hlen
  clear hI call hr hf hp hq hR hx hlen hreg
  go_enter Try.func13, Try.ntmps13
  go_wp2_with (fail)
  (with_reducible refine CALL.out.mono ?_)
  rintro e w1 ⟨rfl, hb1⟩
  go_wp2_with (fail)
  (with_reducible refine (row_any _ 0 0).mono ?_)
  rintro e w2 ⟨g1, g2, rfl, hg1, hg2, hl1, hl2, hb2⟩
  have hnew : (w1.alloc (.cells #[.slice none 0 0] 49)).heap[w1.heap.size]? = some (.cells #[.slice none 0 0] 49 (0, 0)) := heap_alloc_new w1 _
  have hst : LSt w w1.heap.size [] w2 := LSt.below ⟨none, 0, hnew, OwnRows.nil_ _ _, below_then hb1 (alloc_lt _), hb1.size⟩ hb2
  have hfn : RowFn w2 (.func (.func 49) #[] #[.pointer (some ⟨g1, 0, none⟩), .pointer (some ⟨g2, 0, none⟩)]) 0 0 := ⟨g1, g2, rfl, hg1, hg2⟩
  have HST := Lib.hid hst
  have HFN := Lib.hid hfn
  obtain ⟨bl, hbl⟩ : ∃ x, x = w1.heap.size := ⟨_, rfl⟩
  rw [← hbl] at HST ⊢
  clear hst hfn hg1 hg2 hl1 hl2 hb2 hnew hb1 hbl CALL e1 e2 e3
  go_wp2_with (fail)
  go_loopw [2, 14, 66] (fun v2 v14 v66 wr => ∃ i : Nat, i ≤ n ∧ v66 = .int .i64 i ∧ v2 = .int .i64 (beginAt next k i) ∧ RowFn wr v14 (prevB next k i) (prevM k i) ∧ LSt w bl (allL xs next k i) wr) (fun _ _ v66 _ => n - (intOf v66).toNat)
  case atStart => exact ⟨0, Nat.zero_le _, rfl, rfl, HFN.out, HST.out⟩
  case round =>
    clear HFN HST
    obtain ⟨i, hi, rfl, rfl, ⟨g1, g2, rfl, hg1, hg2⟩, hst⟩ := hrel
    have HG1 := Lib.hid hg1
    have HG2 := Lib.hid hg2
    have HST := Lib.hid hst
    have hbn : beginAt next k n = next + R := by rw [beginAt_sum, sumM_regs hk1 hk2, HR.out]
    have hb0 : 1 ≤ beginAt next k i := by have := beginAt_mono next k (Nat.zero_le i); have e : beginAt next k 0 = next := rfl; omega
    have hpb : 0 ≤ prevB next k i ∧ prevB next k i ≤ 65537 ∧ (prevM k i : Int) ≤ k ∧ (0 < i → 1 ≤ prevB next k i ∧ prevB next k i + prevM k i ≤ 65537) := by
      cases i with
      | zero => exact ⟨Int.le_refl _, by show (0 : Int) ≤ 65537; omega, by show ((0 : Nat) : Int) ≤ k; omega, fun h => absurd h (by omega)⟩
      | succ i =>
        have q1 := beginAt_mono next k (show i + 1 ≤ n by omega)
        have q2 := beginAt_mono next k (Nat.zero_le i)
        have e : beginAt next k 0 = next := rfl
        have e2 : beginAt next k (i + 1) = beginAt next k i + manyAt k i := rfl
        have e3 : prevB next k (i + 1) = beginAt next k i := rfl
        have e4 : prevM k (i + 1) = manyAt k i := rfl
        have e5 : manyAt k i ≤ k := by unfold manyAt; omega
        rw [e3, e4]
        refine ⟨by omega, by omega, by omega, fun _ => ⟨by omega, by omega⟩⟩
    by_cases hilt : i < n
    case neg =>
      obtain rfl : n = i := by omega
      obtain ⟨q0, q1⟩ := hpb.2.2.2 (by omega)
      have hmk : prevM k n = k := by
        obtain ⟨j, rfl⟩ : ∃ j, n = j + 1 := ⟨n - 1, by omega⟩
        show manyAt k j = k
        unfold manyAt; omega
      obtain ⟨rk, hrk⟩ : ∃ rk, rk = regR (prevB next k n) (prevM k n) k := ⟨_, rfl⟩
      have hrk1 : 1 ≤ rk ∧ rk ≤ 140000 := by rw [hrk]; unfold regR; rw [if_neg (by omega)]; omega
      have ca := reg_any wr g1 g2 (prevB next k n) (prevM k n) k hg1 hg2 (by omega) (by omega) (by omega) (by omega) (by omega) (by omega)
      rw [← hrk] at ca
      have hlc : leastC xs next k = allL xs next k n ++ [nz [rk]] := by unfold leastC lastC; rw [← HL.out, ← hrk]
      have hcl9 : (allL xs next k n).length ≤ 16777216 := by
        have q := allL_len xs next k hk1 n
        have q2 := beginAt_sum next k n
        omega
      have cp := put_lst1 w wr bl (allL xs next k n) rk (putable1 (by omega)) hst hcl9
      rw [← hlc] at cp
      have CA := Lib.hid ca
      have CP := Lib.hid cp
      have hE49 : ∀ (a : Array Value) (w : World), (callFunc 49 a).run Try.prog w = .ok (.enter 49 a) w := fun _ _ => by kernel_rfl
      have hE28 : ∀ (a : Array Value) (w : World), (callFunc 28 a).run Try.prog w = .ok (.enter 28 a) w := fun _ _ => by kernel_rfl
      clear ca cp hg1 hg2 hst hrk hlc hmk hpb HG1 HG2 HST hbn
      generalize leastC xs next k = CS at *
      generalize beginAt next k n = bn at *
      go_wp2_with (fail)
      (with_reducible refine CA.out.mono ?_)
      rintro e w9 ⟨rfl, rfl⟩
      go_wp2_with (fail)
      (with_reducible refine CP.out.mono ?_)
      rintro e w3 ⟨rfl, ⟨A3, c3, u1, u2, u3, u4⟩, hk3, hb3⟩
      have c3' := cell_of_one u1
      go_wp2_with (fail)
      refine bodyPost_ret (v := .tuple #[.slice A3 CS.length c3, .int .i64 bn, .int .i64 0]) (by simp [results, Try.results13, go_sem]) rfl ?_
      exact ⟨A3, CS.length, c3, rfl, u2, u3⟩
    case pos =>
      have hb1 : beginAt next k i + manyAt k i ≤ 65537 := by
        have := beginAt_mono next k (show i + 1 ≤ n by omega)
        have e : beginAt next k (i + 1) = beginAt next k i + manyAt k i := rfl
        omega
      have HALL : Hid (allL xs next k (i + 1) = allL xs next k i ++ rowL (beginAt next k i) (prevB next k i) (prevM k i) (xs.getD i 0) (manyAt k i)) := rfl
      have HBEG : Hid (beginAt next k (i + 1) = beginAt next k i + manyAt k i) := rfl
      have HPB : Hid (prevB next k (i + 1) = beginAt next k i ∧ prevM k (i + 1) = manyAt k i) := ⟨rfl, rfl⟩
      have hcl9 : (allL xs next k i).length + 2 * manyAt k i ≤ 16000000 := by
        have q := allL_len xs next k hk1 i
        have q2 := beginAt_sum next k i
        have q3 : manyAt k i ≤ k := by unfold manyAt; omega
        omega
      have hmk : manyAt k i = i + 1 ∧ i + 1 ≤ k ∨ manyAt k i = k ∧ k ≤ i + 1 := by unfold manyAt; omega
      have hxi : xs.getD i 0 ≠ 0 ∧ -70000 ≤ xs.getD i 0 ∧ xs.getD i 0 ≤ 70000 := by
        have hj : i < xs.length := by have := HL.out; omega
        rw [List.getD_eq_getElem?_getD, List.getElem?_eq_getElem hj]
        exact HX.out _ (List.getElem_mem hj)
      obtain ⟨ad, rfl, hadb, hcell⟩ := HI.out.at_ hilt
      have hcellr : ∀ wx, Below w.heap.size w wx → wx.cell? (ad.add i) = some (.int .i64 (xs.getD i 0)) := fun wx hb => (hb.cell (p := ad.add i) (by rw [block_of_add]; exact hadb)).trans hcell
      have HCELL := Lib.hid hcellr
      have hpm1 : (prevM k i : Int) ≤ 4096 := by omega
      have hpms : ∀ j : Nat, j < manyAt k i → 1 ≤ j → regR (prevB next k i) (prevM k i) j ≠ 0 := by
        intro j hj hj1
        cases i with
        | zero => have : manyAt k 0 ≤ 1 := by unfold manyAt; omega
                  omega
        | succ i =>
          have q := hpb.2.2.2 (by omega)
          have e4 : prevM k (i + 1) = manyAt k i := rfl
          have e5 : manyAt k (i + 1) ≤ manyAt k i + 1 := by unfold manyAt; omega
          unfold regR
          rw [if_neg (by rw [e4]; omega)]
          omega
      have HPMS := Lib.hid hpms
      clear hpms hcell hcellr hadb hg1 hg2 hst hbn
      obtain ⟨hpb1, hpb2, hpb3, _⟩ := hpb
      generalize allL xs next k i = cs0 at *
      generalize beginAt next k i = b at *
      generalize prevB next k i = pb at *
      generalize prevM k i = pm at *
      generalize xs.getD i 0 = x at *
      generalize manyAt k i = many at *
      have HMK := Lib.hid hmk
      have hm1 : many ≤ 4096 := by omega
      clear hmk
      obtain ⟨wo, rfl⟩ : ∃ wo : World, wo = wr := ⟨_, rfl⟩
      go_upto_region 17 with (fail)
      go_cut [16] (fun v wx => v = .int .i64 many ∧ wo = wx)
      case first =>
        have hmk := HMK.out
        by_cases hmm : i + 1 ≤ k
        · obtain rfl : many = i + 1 := by omega
          go_wp2
          go_meet
          case rel => exact ⟨by go_num, rfl⟩
        · obtain rfl : many = k := by omega
          go_wp2
          go_meet
          case rel => exact ⟨by go_num, rfl⟩
      obtain ⟨rfl, rfl⟩ := hcut
      go_wp2_with (fail)
      (with_reducible refine (row_any _ b many).mono ?_)
      rintro e w2 ⟨h1, h2, rfl, hh1, hh2, hl1, hl2, hb2⟩
      have HH1 := Lib.hid hh1
      have HH2 := Lib.hid hh2
      have HG1' := Lib.hid ((hb2.block _ (lt_of_block HG1.out)).trans HG1.out)
      have HG2' := Lib.hid ((hb2.block _ (lt_of_block HG2.out)).trans HG2.out)
      have HST' := Lib.hid (HST.out.below hb2)
      clear hh1 hh2 hl1 hl2 hb2 HG1 HG2 HST
      go_wp2_with (fail)
      go_loopw [18] (fun v18 wy => ∃ j : Nat, j ≤ many ∧ v18 = .int .i64 ((j : Int) + 1) ∧ LSt w bl (cs0 ++ rowL b pb pm x j) wy ∧ wy.heap[g1]? = some (.cells #[.int .i64 pm] 3 (0, 0)) ∧ wy.heap[g2]? = some (.cells #[.int .i64 pb] 3 (0, 0)) ∧
          wy.heap[h1]? = some (.cells #[.int .i64 many] 3 (0, 0)) ∧ wy.heap[h2]? = some (.cells #[.int .i64 b] 3 (0, 0))) (fun v18 _ => many + 1 - (intOf v18).toNat)
      case atStart => exact ⟨0, Nat.zero_le _, rfl, by simpa [rowL] using HST'.out, HG1'.out, HG2'.out, HH1.out, HH2.out⟩
      case round =>
        clear HST' HG1' HG2' HH1 HH2
        obtain ⟨j, hj, rfl, hst, hg1, hg2, hh1, hh2⟩ := hrel
        by_cases hjlt : j < many
        case neg =>
          obtain rfl : many = j := by omega
          have HST := Lib.hid hst
          have HH1 := Lib.hid hh1
          have HH2 := Lib.hid hh2
          clear hst hg1 hg2 hh1 hh2
          go_wp2
          go_roundw
          case rel =>
            refine ⟨i + 1, by omega, by go_num, ?_, ⟨h1, h2, rfl, ?_, ?_⟩, ?_⟩
            · show Value.int .i64 (b + many) = .int .i64 (beginAt next k (i + 1))
              rw [HBEG.out]
            · rw [HPB.out.2]; exact HH1.out
            · rw [HPB.out.1]; exact HH2.out
            · rw [HALL.out]; exact HST.out
          case measure => simp [intOf]; omega
        case pos =>
          have HST := Lib.hid hst
          have HB := Lib.hid (show Below w.heap.size w wr from by obtain ⟨_, _, _, _, h, _⟩ := hst; exact h)
          have hrh : regR b many ((j : Int) + 1) = b + j := by unfold regR; rw [if_neg (by omega)]; omega
          obtain ⟨ra, hra⟩ : ∃ ra, ra = regR pb pm ((j : Int) + 1) := ⟨_, rfl⟩
          have hra1 : 0 ≤ ra ∧ ra ≤ 140000 := by rw [hra]; unfold regR; split <;> omega
          obtain ⟨rb, hrb⟩ : ∃ rb, rb = regR pb pm (j : Int) := ⟨_, rfl⟩
          have hrb1 : 0 ≤ rb ∧ rb ≤ 140000 := by rw [hrb]; unfold regR; split <;> omega
          have hclen : (cs0 ++ rowL b pb pm x j).length ≤ 16777000 := by
            have := rowL_len b pb pm x j
            rw [List.length_append]
            split at this <;> omega
          have ch := reg_any wr.drew h1 h2 b many ((j : Int) + 1) hh1 hh2 (by omega) (by omega) (by omega) (by omega) (by omega) (by omega)
          have ca := reg_any wr.drew g1 g2 pb pm ((j : Int) + 1) hg1 hg2 (by omega) (by omega) (by omega) (by omega) (by omega) (by omega)
          rw [hrh] at ch
          rw [← hra] at ca
          have cp : Calls Try.prog 28 #[.pointer (some ⟨bl, 0, none⟩), .slice (some ⟨wr.heap.size, 0, none⟩) 3 3] (wr.alloc (.cells #[.int .i64 (-(b + j)), .int .i64 ra, .int .i64 x] 3)).drew (PutOk w bl (cs0 ++ rowL b pb pm x j ++ [nz [-(b + j), ra, x]]) wr.drew) :=
            put_lst3 w wr.drew bl (cs0 ++ rowL b pb pm x j) (-(b + j)) ra x (putable3 (by omega) hxi.1) hst.drew (by omega)
          have HE1 : Hid (0 < j → cs0 ++ rowL b pb pm x j ++ [nz [-(b + j), ra, x]] ++ [nz [-(b + j), ra, rb]] = cs0 ++ rowL b pb pm x (j + 1)) := fun hj0 => by
            show _ = cs0 ++ (rowL b pb pm x j ++ clJ b pb pm x (j + 1))
            unfold clJ
            rw [if_pos (by omega), show (((j + 1 : Nat) : Int)) = (j : Int) + 1 by omega, show b + ((j : Int) + 1) - 1 = b + j by omega, show (j : Int) + 1 - 1 = (j : Int) by omega, ← hra, ← hrb]
            simp only [List.append_assoc]
          have HE0 : Hid (¬ 0 < j → cs0 ++ rowL b pb pm x j ++ [nz [-(b + j), ra, x]] = cs0 ++ rowL b pb pm x (j + 1)) := fun hj0 => by
            show _ = cs0 ++ (rowL b pb pm x j ++ clJ b pb pm x (j + 1))
            unfold clJ
            rw [if_neg (by omega), show (((j + 1 : Nat) : Int)) = (j : Int) + 1 by omega, show b + ((j : Int) + 1) - 1 = b + j by omega, ← hra]
            simp only [List.append_assoc, List.append_nil]
          have HRB : Hid (0 < j → rb ≠ 0) := fun hj0 => by rw [hrb]; exact HPMS.out j hjlt hj0
          have HRAE := Lib.hid hra
          have HRBE := Lib.hid hrb
          have hc0 := HCELL.out wr HB.out
          have hcA : ∀ o : Obj, (wr.alloc o).cell? (ad.add i) = some (.int .i64 x) := fun o => HCELL.out _ (below_then HB.out (alloc_lt _))
          have CH := Lib.hid ch
          have CA := Lib.hid ca
          have CP := Lib.hid cp
          have hE49 : ∀ (a : Array Value) (w : World), (callFunc 49 a).run Try.prog w = .ok (.enter 49 a) w := fun _ _ => by kernel_rfl
          have hE28 : ∀ (a : Array Value) (w : World), (callFunc 28 a).run Try.prog w = .ok (.enter 28 a) w := fun _ _ => by kernel_rfl
          have HG1 := Lib.hid hg1
          have HG2 := Lib.hid hg2
          have HH1 := Lib.hid hh1
          have HH2 := Lib.hid hh2
          clear ch ca cp hst hg1 hg2 hh1 hh2 hrh hra hrb
          obtain ⟨hra1, hra2⟩ := hra1
          obtain ⟨hrb1, hrb2⟩ := hrb1
          obtain ⟨hx0, hx1, hx2⟩ := hxi
          have ww : IntKind.i64.wrap (-(b + (j : Int))) = -(b + (j : Int)) := IntWalk.i64_in _ (by omega)
          go_upto_region 22 with (fail)
          go_region_held3 (fun w' => w'.cell? (ad.add i) = some (.int .i64 x)) (first | (exact hc0) | (exact hcA _) | (exact hc2) | go_keep)
            (first
              | (go_at_call 49
                 (with_reducible refine CH.out.mono ?_)
                 rintro e w9 ⟨rfl, rfl⟩)
              | (go_at_call 49
                 (with_reducible refine CA.out.mono ?_)
                 rintro e w9 ⟨rfl, rfl⟩)
              | (go_at_call 28
                 (with_reducible refine CP.out.mono ?_)
                 rintro e w2 ⟨rfl, hst2, hk2', hb2⟩
                 have hc2 := HCELL.out w2 hb2))
          have HST2 := Lib.hid hst2
          have HG1' := Lib.hid (hk2' g1 _ HG1.out)
          have HG2' := Lib.hid (hk2' g2 _ HG2.out)
          have HH1' := Lib.hid (hk2' h1 _ HH1.out)
          have HH2' := Lib.hid (hk2' h2 _ HH2.out)
          clear hst2 hk2' hb2 hc2 hc0 hcA CH CA CP HG1 HG2 HH1 HH2 HST HB
          by_cases hj0 : 0 < j
          · have ch := reg_any w2 h1 h2 b many ((j : Int) + 1) HH1'.out HH2'.out (by omega) (by omega) (by omega) (by omega) (by omega) (by omega)
            have ca := reg_any w2 g1 g2 pb pm ((j : Int) + 1) HG1'.out HG2'.out (by omega) (by omega) (by omega) (by omega) (by omega) (by omega)
            have cb := reg_any w2 g1 g2 pb pm (j : Int) HG1'.out HG2'.out (by omega) (by omega) (by omega) (by omega) (by omega) (by omega)
            have hrh : regR b many ((j : Int) + 1) = b + j := by unfold regR; rw [if_neg (by omega)]; omega
            rw [hrh] at ch
            rw [← HRAE.out] at ca
            rw [← HRBE.out] at cb
            have cp := put_lst3 w w2 bl (cs0 ++ rowL b pb pm x j ++ [nz [-(b + j), ra, x]]) (-(b + j)) ra rb (putable3 (by omega) (HRB.out hj0)) HST2.out (by rw [List.length_append]; simp only [List.length_singleton]; omega)
            rw [HE1.out hj0] at cp
            have CH := Lib.hid ch
            have CA := Lib.hid ca
            have CB := Lib.hid cb
            have CP := Lib.hid cp
            clear ch ca cb cp hrh
            go_wp2_with (fail)
            (with_reducible refine CH.out.mono ?_)
            rintro e w9 ⟨rfl, rfl⟩
            go_wp2_with (fail)
            (with_reducible refine CA.out.mono ?_)
            rintro e w9 ⟨rfl, rfl⟩
            go_wp2_with (fail)
            (with_reducible refine CB.out.mono ?_)
            rintro e w9 ⟨rfl, rfl⟩
            go_wp2_with (fail)
            (with_reducible refine CP.out.mono ?_)
            rintro e w3 ⟨rfl, hst3, hk3, hb3⟩
            have HST3 := Lib.hid hst3
            have HG1 := Lib.hid (hk3 g1 _ HG1'.out)
            have HG2 := Lib.hid (hk3 g2 _ HG2'.out)
            have HH1 := Lib.hid (hk3 h1 _ HH1'.out)
            have HH2 := Lib.hid (hk3 h2 _ HH2'.out)
            clear hst3 hk3 hb3
            go_wp2
            go_roundw
            case rel => exact ⟨j + 1, by omega, by go_num, HST3.out, HG1.out, HG2.out, HH1.out, HH2.out⟩
            case measure => simp [intOf]; omega
          · have hs := HST2.out
            rw [HE0.out hj0] at hs
            have HS := Lib.hid hs
            obtain rfl : j = 0 := by omega
            clear hs
            go_wp2
            go_roundw
            case rel => exact ⟨0 + 1, by omega, by go_num, HS.out, HG1'.out, HG2'.out, HH1'.out, HH2'.out⟩
            case measure => simp [intOf]; omega

set_option maxHeartbeats 1000000 in
set_option maxRecDepth 100000 in
theorem least_any (w : World) (n c : Nat) (A : Option Addr) (xs : List Int) (k next : Int) (hI : Ints w (Lt w) A n c xs) (hf : Fits xs) (hk : (Lit.int .i64 k).wf = true) :
    Calls Try.prog 13 #[.slice A n c, .int .i64 k, .int .i64 next] w (RetLeast w (leastR xs k next)) := by
  have hlen := hI.len
  have hcap := hI.cap
  have hmax := hI.max
  unfold maxLen at hmax
  have hkb : -9223372036854775808 ≤ k ∧ k ≤ 9223372036854775807 := by simpa [Lit.wf, IntKind.min, IntKind.max, IntKind.signed, IntKind.bits] using hk
  clear hk
  have call := right_any w n c A xs next hI hf
  by_cases hr : rightR xs next = 0
  case neg =>
    rw [leastR_bad hr]
    have hne : (rightR xs next != 0) = true := by simpa using hr
    generalize rightR xs next = er at *
    have CALL := Lib.hid call
    clear hI hf hlen call
    go_enter Try.func13, Try.ntmps13
    go_wp2_with (fail)
    (with_reducible refine CALL.out.mono ?_)
    rintro e w1 ⟨rfl, hb1⟩
    go_wp2
    exact bodyPost_ret (v := .tuple #[.slice none 0 0, .int .i64 0, .int .i64 er]) (by simp [results, Try.results13, go_sem]) rfl (retLeast_nil hb1)
  have hgood : 1 ≤ next ∧ next ≤ 65537 ∧ xs.length ≤ 4096 ∧ apartB next xs = true := by
    unfold rightR at hr
    by_cases hb : next < 1 ∨ 65537 < next ∨ 4096 < xs.length
    · rw [if_pos hb] at hr; omega
    · rw [if_neg hb] at hr
      by_cases ha : apartB next xs = true
      · exact ⟨by omega, by omega, by omega, ha⟩
      · rw [if_neg ha] at hr; omega
  obtain ⟨hn1, hn2, hn4, hap⟩ := hgood
  by_cases h0 : k ≤ 0
  case pos =>
    rw [leastR_none hr h0]
    rw [hr] at call
    have CALL := Lib.hid call
    clear hI hf hlen call hr hap
    go_enter Try.func13, Try.ntmps13
    go_wp2_with (fail)
    (with_reducible refine CALL.out.mono ?_)
    rintro e w1 ⟨rfl, hb1⟩
    go_wp2
    exact bodyPost_ret (v := .tuple #[.slice none 0 0, .int .i64 next, .int .i64 0]) (by simp [results, Try.results13, go_sem]) rfl (retLeast_nil hb1)
  by_cases h1 : (n : Int) < k
  case pos =>
    rw [leastR_over hr h0 (by rw [← hlen]; exact h1)]
    rw [hr] at call
    have CALL := Lib.hid call
    clear hI hf hlen call hr hap
    go_enter Try.func13, Try.ntmps13
    go_wp2_with (fail)
    (with_reducible refine CALL.out.mono ?_)
    rintro e w1 ⟨rfl, hb1⟩
    go_wp2
    refine bodyPost_ret (v := .tuple #[.slice (some ⟨w1.heap.size + 1, 0, none⟩) 1 1, .int .i64 next, .int .i64 0]) (by simp [results, Try.results13, go_sem]) rfl ?_
    refine ⟨_, _, _, rfl, ⟨[.slice (some ⟨w1.heap.size, 0, none⟩) 0 0], ?_, fun i r hr => ?_⟩, ?_⟩
    · have h := own_new (w1.alloc (.cells #[] 3)) 22 (.slice (some ⟨w1.heap.size, 0, none⟩) 0 0)
      rw [show (w1.alloc (.cells #[] 3)).heap.size = w1.heap.size + 1 by simp] at h
      exact own_base h (by have := hb1.size; omega)
    · match i, hr with
      | 0, hr =>
        simp at hr
        subst hr
        refine ⟨[], rfl, ?_⟩
        have h : (w1.alloc (.cells #[] 3)).ownsRow w1.heap.size 3 1 (.slice (some ⟨w1.heap.size, 0, none⟩) 0 0) 0 [] := World.ownsRow_lit w1 #[] 0 (Nat.le_refl _) (by simp [maxLen]) rfl
        exact own_base (h.alloc _) hb1.size
    · exact below_then (below_then hb1 (alloc_lt _)) (alloc_lt _)
  obtain ⟨m, rfl⟩ := Int.eq_ofNat_of_zero_le (show 0 ≤ k by omega)
  have hk1 : 1 ≤ m := by omega
  have hk2 : m ≤ n := by omega
  by_cases hbd : 65536 < next + regs n m - 1 ∨ 65536 < 2 * (regs n m : Int) - n + 1
  case neg =>
    rw [leastR_ok hr hk1 (by omega) (by rw [← hlen]; exact hbd)]
    rw [← hlen]
    exact least_main w n c A xs m next hI hf hr hk1 hk2 (by omega) (fun x hx => ⟨(apartG_mem16 hap x hx).2, by have := (apartG_mem16 hap x hx).1; omega, by have := (apartG_mem16 hap x hx).1; omega⟩) hn1 (by omega) (by omega)
  rw [leastR_bound hr hk1 (by omega) (by rw [← hlen]; exact hbd)]
  rw [hr] at call
  have CALL := Lib.hid call
  obtain ⟨b1, b2, b3⟩ := regs_le hk1 hk2 (show n ≤ 4096 by omega)
  have e1 : ((m : Int) * ((m : Int) - 1)) = ((m * (m - 1) : Nat) : Int) := by
    obtain ⟨j, rfl⟩ : ∃ j, m = j + 1 := ⟨m - 1, by omega⟩
    simp
  have e2 : ((m : Int) * ((n : Int) - (m : Int) + 1)) = ((m * (n - m + 1) : Nat) : Int) := by
    obtain ⟨j, rfl⟩ : ∃ j, n = m + j := ⟨n - m, by omega⟩
    rw [show m + j - m + 1 = j + 1 by omega, show (((m + j : Nat) : Int) - (m : Int) + 1) = ((j + 1 : Nat) : Int) by omega]
    exact (Int.natCast_mul _ _).symm
  have hreg : regs n m = m * (m - 1) / 2 + m * (n - m + 1) := rfl
  have hn4' : n ≤ 4096 := by omega
  generalize m * (m - 1) = p at *
  generalize m * (n - m + 1) = q at *
  generalize regs n m = R at *
  have e3 : ((p : Int) / 2 + (q : Int)) = (R : Int) := by omega
  have d1 : decide (m = 0) = false := by simp; omega
  have d2 : decide (n < m) = false := by simp; omega
  clear hI hf hlen call hr hap hreg h0 h1 hn4
  by_cases hb1' : 65536 < next + (R : Int) - 1
  · clear hbd
    go_enter Try.func13, Try.ntmps13
    go_wp2_with (fail)
    (with_reducible refine CALL.out.mono ?_)
    rintro e w1 ⟨rfl, hb1⟩
    go_wp2
    exact bodyPost_ret (v := .tuple #[.slice none 0 0, .int .i64 0, .int .i64 2]) (by simp [results, Try.results13, go_sem]) rfl (retLeast_nil hb1)
  · have hb2' : 65536 < 2 * (R : Int) - (n : Int) + 1 := by omega
    have d3 : decide ((65536 : Int) < next + (R : Int) - 1) = false := by simpa using hb1'
    clear hbd hb1'
    go_enter Try.func13, Try.ntmps13
    go_wp2_with (fail)
    (with_reducible refine CALL.out.mono ?_)
    rintro e w1 ⟨rfl, hb1⟩
    go_wp2
    exact bodyPost_ret (v := .tuple #[.slice none 0 0, .int .i64 0, .int .i64 2]) (by simp [results, Try.results13, go_sem]) rfl (retLeast_nil hb1)
end Go.Proofs.Ytanbkdfffojpnaa
