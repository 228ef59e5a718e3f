/-
  chalklinelaw19.PropTotalAssignment: the walk.
-/
import Derived.Test.YtelgabamdhaplaaBackPrefix
import Derived.Test.YtelgabamdhaplaaSoundLaw
namespace Go.Proofs.Ytelgabamdhaplaa
open Go.RowKit

set_option maxHeartbeats 8000000 in
set_option maxRecDepth 100000 in
theorem totalAsg_walk (w : World) (N : Int) (A : Option Addr) (n c : Nat) (cs : List (List Int)) (n' c' : Nat) (A' : Option Addr) (a : List Bool) (h1 : InCnf w N A n c cs) (h2 : Bools w A' n' c' a) :
    Calls Try.prog 10 #[.agg #[.int .i64 N, .slice A n c], .slice A' n' c'] w (RetBoolBelow w true) := by
  obtain ⟨W, hW⟩ : ∃ W, W = w.alloc (.cells #[.int .i64 N, .slice A n c] 24) := ⟨_, rfl⟩
  have hs : BS w N A n c cs none 0 0 [] W := by rw [hW]; exact BS.start h1.rows ⟨rfl, by omega, by simp [maxLen], Reads.none_⟩
  have hB : Bools W A' n' c' a := by rw [hW]; exact h2.belowLt (alloc_lt _)
  have hlen := h2.len
  have hcap := h2.cap
  have hmax := h2.max
  unfold maxLen at hmax
  have HL := Lib.hid hlen
  have HS := Lib.hid hs
  have HB := Lib.hid hB
  have LIVE := Lib.hid (live_any W)
  obtain ⟨i0, hi0, hz0, hz1, hz2⟩ := info_parts' step_info
  clear h1 h2 hlen hs hB
  go_enter Try.func10, Try.ntmps10
  go_upto_region 1 with (fail)
  rw [← hW]
  clear hW
  go_wp2_with (fail)
  (with_reducible refine LIVE.out.mono ?_)
  rintro e w1 ⟨rfl, hb1⟩
  have HS1 := Lib.hid (HS.out.to hb1)
  have HB1 := Lib.hid (HB.out.belowLt hb1)
  have c0 := HS1.out.c0
  have c1 := HS1.out.c1
  have FEW := Lib.hid (few19 w1 N A n c cs none 0 0 HS1.out.rows)
  clear hb1 LIVE HS HB
  go_wp2_with (fail)
  (with_reducible refine FEW.out.mono ?_)
  rintro e w2 ⟨b, rfl, hbn, hb2⟩
  have HS2 := Lib.hid (HS1.out.to hb2)
  have HB2 := Lib.hid (HB1.out.belowLt hb2)
  clear HS1 FEW c0 c1 hb2 HB1
  cases b
  case false =>
    go_wp2
    go_ret
    exact ⟨rfl, HS2.out.bel⟩
  obtain ⟨hn, _⟩ := hbn rfl
  have c0 := HS2.out.c0
  have c1 := HS2.out.c1
  clear hbn
  by_cases g1 : N < 0
  · have d1 : decide (N < 0) = true := by simpa using g1
    go_wp2
    go_ret
    exact ⟨rfl, HS2.out.bel⟩
  by_cases g2 : 60 < N
  · have d1 : decide (N < 0) = false := by simpa using g1
    have d2 : decide (60 < N) = true := by simpa using g2
    go_wp2
    go_ret
    exact ⟨rfl, HS2.out.bel⟩
  have d1 : decide (N < 0) = false := by simpa using g1
  have d2 : decide (60 < N) = false := by simpa using g2
  have CHK := Lib.hid (check_any w2 N A n c cs HS2.out.rows)
  have HCK := Lib.hid (fun h => total_check (N := N) (cs := cs) (a := a) h)
  have HOUT := Lib.hid (fun h x conflict => total_out (N := N) (cs := cs) (a := a) (x := x) (conflict := conflict) h)
  generalize checkR N cs = er at *
  by_cases he : er = 0
  case neg =>
    have hq : (er != 0) = true := by simpa using he
    go_wp2_with (fail)
    (with_reducible refine CHK.out.mono ?_)
    rintro e w3 ⟨rfl, hb3⟩
    go_wp2
    go_ret
    exact ⟨rfl, below_then HS2.out.bel hb3⟩
  subst he
  have HCK0 : Hid (checkS N cs (trailT a N.toNat) = 0) := HCK.out rfl
  have HOUT0 : Hid (∀ x conflict, PropOut N cs (trailT a N.toNat) x conflict → x.length = N.toNat ∧ (conflict == -1) = valueT N cs a) := HOUT.out rfl
  clear HCK HOUT
  go_wp2_with (fail)
  (with_reducible refine CHK.out.mono ?_)
  rintro e w3 ⟨rfl, hb3⟩
  have HS3 := Lib.hid (HS2.out.to hb3)
  have HB3 := Lib.hid (HB2.out.belowLt hb3)
  clear hb3 CHK HS2 c0 c1 HB2 d1 d2
  go_wp2
  obtain ⟨M, hM⟩ : ∃ M : Nat, N = M := ⟨N.toNat, by omega⟩
  subst hM
  have HMT : Hid ((M : Int).toNat = M) := Int.toNat_natCast M
  go_loopw [5, 6, 7] (fun v5 v6 v7 wr => ∃ (k : Nat) (At : Option Addr) (ct : Nat), k ≤ M ∧ v6 = .int .i64 ((k : Int) + 1) ∧ v5 = .slice At k ct ∧ wr.ownsRow w3.heap.size 39 2 (.slice At k ct) k (flat (trailT a k)) ∧ Below w3.heap.size w3 wr) (fun _ v6 _ _ => M + 1 - (intOf v6).toNat)
  case atStart => exact ⟨0, none, 0, Nat.zero_le _, by simp, rfl, World.ownsRow_nil _ _ _ _, Below.refl _ _⟩
  case round =>
    obtain ⟨k, At, ct, hk, rfl, rfl, hown, hb⟩ := hrel
    have c0 : wr.cell? ⟨w.heap.size, 0, none⟩ = some (.int .i64 (M : Int)) := (HS3.out.to hb).c0
    have c1 : wr.cell? ⟨w.heap.size, 1, none⟩ = some (.slice A n c) := (HS3.out.to hb).c1
    have hbw := hb.size
    have HOWN := Lib.hid hown
    have HBL := Lib.hid hb
    by_cases hlt : k < M
    · have hq : decide ((k : Int) + 1 ≤ (M : Int)) = true := by simp; omega
      have hsn := trailT_snoc a k
      by_cases hin : k + 1 < n'
      · obtain ⟨ad, rfl, hadS, hcell⟩ := HB3.out.at_ hin
        have e1 := (hb.cell (p := ad.add (k + 1)) (by rw [block_of_add]; exact hadS)).trans hcell
        have e1' : wr.cell? ⟨ad.block, ad.off + (k + 1), none⟩ = some (.bool (a.getD (k + 1) false)) := by rw [← e1]; congr 1
        have z1 : (0 : Int) ≤ (k : Int) + 1 := by omega
        have z2 : (k : Int) + 1 < (n' : Int) := by omega
        have z3 : decide ((k : Int) + 1 < (n' : Int)) = true := by simp; omega
        cases hv : varT a (k + 1)
        · have hd : decT a (k + 1) = (-((k : Int) + 1), -1) := by unfold decT; rw [hv]; simp
          have hv' : a.getD (k + 1) false = false := hv
          rw [hv'] at e1 e1'
          rw [hd] at hsn
          have HSN := Lib.hid hsn
          clear hv hv' hd hsn hcell hadS hown hb
          go_wp2_with (first
            | (at_builtin
               go_must (refine wpList_append_step _ rfl (.tmp 50) (.tmp 53) _ rfl w3.heap.size 39 i0 _ 16 Try.underlying25 hi0 hz0 hz1 hz2 rfl (.slice At k ct) k (trailT a k) (by rfl) HOWN.out 39 (-((k : Int) + 1)) (-1) 1 (by rfl) (by simp only [maxLen]; omega) (by omega) hbw ?_)
               intro A9 c9 w9 ho9 hg9 hb9))
          have HB9 := Lib.hid (HBL.out.grown hg9 hbw (fun g hg => (HOWN.out.lt g hg).1))
          have HO9 := Lib.hid ho9
          clear ho9 hg9 hb9
          go_roundw
          case rel => exact ⟨k + 1, A9, c9, by omega, by go_num, rfl, by rw [HSN.out]; exact HO9.out, HB9.out⟩
          case measure => simp [intOf]; omega
        · have hd : decT a (k + 1) = ((k : Int) + 1, -1) := by unfold decT; rw [hv]; simp
          have hv' : a.getD (k + 1) false = true := hv
          rw [hv'] at e1 e1'
          rw [hd] at hsn
          have HSN := Lib.hid hsn
          clear hv hv' hd hsn hcell hadS hown hb
          go_wp2_with (first
            | (at_builtin
               go_must (refine wpList_append_step _ rfl (.tmp 50) (.tmp 53) _ rfl w3.heap.size 39 i0 _ 16 Try.underlying25 hi0 hz0 hz1 hz2 rfl (.slice At k ct) k (trailT a k) (by rfl) HOWN.out 39 ((k : Int) + 1) (-1) 1 (by rfl) (by simp only [maxLen]; omega) (by omega) hbw ?_)
               intro A9 c9 w9 ho9 hg9 hb9))
          have HB9 := Lib.hid (HBL.out.grown hg9 hbw (fun g hg => (HOWN.out.lt g hg).1))
          have HO9 := Lib.hid ho9
          clear ho9 hg9 hb9
          go_roundw
          case rel => exact ⟨k + 1, A9, c9, by omega, by go_num, rfl, by rw [HSN.out]; exact HO9.out, HB9.out⟩
          case measure => simp [intOf]; omega
      · have hv : varT a (k + 1) = false := by
          unfold varT
          rw [List.getD_eq_getElem?_getD, List.getElem?_eq_none (by have := HL.out; omega)]; rfl
        have hd : decT a (k + 1) = (-((k : Int) + 1), -1) := by unfold decT; rw [hv]; simp
        have z3 : decide ((k : Int) + 1 < (n' : Int)) = false := by simp; omega
        rw [hd] at hsn
        have HSN := Lib.hid hsn
        clear hv hd hsn hown hb
        go_wp2_with (first
          | (at_builtin
             go_must (refine wpList_append_step _ rfl (.tmp 50) (.tmp 53) _ rfl w3.heap.size 39 i0 _ 16 Try.underlying25 hi0 hz0 hz1 hz2 rfl (.slice At k ct) k (trailT a k) (by rfl) HOWN.out 39 (-((k : Int) + 1)) (-1) 1 (by rfl) (by simp only [maxLen]; omega) (by omega) hbw ?_)
             intro A9 c9 w9 ho9 hg9 hb9))
        have HB9 := Lib.hid (HBL.out.grown hg9 hbw (fun g hg => (HOWN.out.lt g hg).1))
        have HO9 := Lib.hid ho9
        clear ho9 hg9 hb9
        go_roundw
        case rel => exact ⟨k + 1, A9, c9, by omega, by go_num, rfl, by rw [HSN.out]; exact HO9.out, HB9.out⟩
        case measure => simp [intOf]; omega
    obtain rfl : k = M := by omega
    have hq : decide ((k : Int) + 1 ≤ (k : Int)) = false := by simp; omega
    have HS4 := Lib.hid (HS3.out.to hb)
    have HB4 := Lib.hid (HB3.out.belowLt hb)
    have hst := Steps.of_own hown
    have hct := hst.cap
    have hmt := hst.max
    unfold maxLen at hmt
    have hck := HCK0.out
    have hmt' := HMT.out
    rw [hmt'] at hck
    have CALL := Lib.hid (prop_ok wr k A n c cs At k ct _ HS4.out.rows hst (by omega) hck (by rw [hmt', Nat.sub_self, Nat.pow_zero]; omega))
    clear hst hown hb hck hmt' HS3 HB3
    go_wp2_with (fail)
    (with_reducible refine CALL.out.mono ?_)
    rintro e w5 ⟨Ax, nx, cx, x, cf, rfl, hx, hp, hb5⟩
    have hmt' := HMT.out
    have ho := HOUT0.out x cf (by rw [hmt']; exact hp)
    rw [hmt'] at ho
    obtain ⟨hxl, hcv⟩ := ho
    obtain rfl : nx = k := by have := hx.1; rw [flat_len] at this; omega
    have HS5 := Lib.hid (HS4.out.to hb5)
    have HB5 := Lib.hid (HB4.out.belowLt hb5)
    have VAL := Lib.hid (value_any w5 nx A n c cs A' n' c' a HS5.out.rows HB5.out)
    have c0 := HS5.out.c0
    have c1 := HS5.out.c1
    have hcx := (Steps.of_own hx).cap
    have hmx := (Steps.of_own hx).max
    unfold maxLen at hmx
    have HCV := Lib.hid hcv
    clear hx hp hb5 hmt' hxl hcv CALL
    generalize valueT nx cs a = r at *
    have q1 : ((nx : Int) == (nx : Int)) = true := by simp
    go_wp2_with (fail)
    (with_reducible refine VAL.out.mono ?_)
    rintro e w6 ⟨rfl, hb6⟩
    have hcv := HCV.out
    have q2 : ((cf == -1) == r) = true := by rw [hcv]; simp
    clear hcv
    go_wp2
    go_ret
    exact ⟨rfl, below_then HS5.out.bel hb6⟩
end Go.Proofs.Ytelgabamdhaplaa
