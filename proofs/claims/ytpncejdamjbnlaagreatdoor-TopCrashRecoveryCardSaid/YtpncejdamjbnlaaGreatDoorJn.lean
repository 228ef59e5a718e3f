/-
  A part of the proof of TopCrashRecovery: walks of the functions that the law calls.
-/
import Derived.Test.YtpncejdamjbnlaaGreatDoorJa
import Derived.Test.YtpncejdamjbnlaaGreatDoorJb
import Derived.Laws.DeepNot64
import Derived.WalkKit
set_option linter.all false
section
namespace Go.Proofs.YtpncejdamjbnlaaGreatDoor
open Go.RowKit
theorem and127 (x : Nat) (h : x < 256) : bits BinOp.and IntKind.u8 (x : Int) 127 = ((x % 128 : Nat) : Int) := by
  have e2 : (127 : Int) = ((127 : Nat) : Int) := rfl
  rw [e2, u8_and_nat _ _ h (by omega), nat_mask7]
theorem wrap64_nat (n : Nat) (h : n < 9223372036854775808) : wrap64 (n : Int) = n := IntWalk.wrap64_in n ⟨by omega, by omega⟩
theorem or_step (U x k : Nat) (hk : k ≤ 9) (hU : U < 2 ^ (7 * k)) (hx : x < 256) (hb : x % 128 * 2 ^ (7 * k) < 18446744073709551616) :
    bits BinOp.or IntKind.u64 (U : Int) (IntKind.u64.wrap (IntKind.u64.wrap (bits BinOp.and IntKind.u8 (x : Int) 127) * 2 ^ (7 * k))) = ((U + x % 128 * 2 ^ (7 * k) : Nat) : Int) := by
  have e1 : IntKind.u64.wrap ((x % 128 : Nat) : Int) = ((x % 128 : Nat) : Int) := by rw [wrap_u64]; omega
  have e2 : ((x % 128 : Nat) : Int) * 2 ^ (7 * k) = ((x % 128 * 2 ^ (7 * k) : Nat) : Int) := by
    rw [Int.natCast_mul, Int.natCast_pow]; rfl
  have hp64 : 2 ^ (7 * k) ≤ 2 ^ 63 := Nat.pow_le_pow_right (by omega) (by omega)
  have hp63 : (2 : Nat) ^ 63 = 9223372036854775808 := by decide
  have hU2 : U < 18446744073709551616 := by omega
  rw [and127 x hx, e1, e2, wrap_u64]
  have e3 : ((x % 128 * 2 ^ (7 * k) : Nat) : Int) % 18446744073709551616 = ((x % 128 * 2 ^ (7 * k) : Nat) : Int) := by
    generalize x % 128 * 2 ^ (7 * k) = q at hb ⊢; omega
  rw [e3, u64_or_nat _ _ hU2 hb, Nat.or_comm, nat_join (7 * k) _ _ (Nat.mul_mod_left _ _) hU, Nat.add_comm]
theorem i64_xor_zero (a : Nat) (h : a < 9223372036854775808) : bits .xor .i64 (a : Int) 0 = a := by
  unfold bits
  have e : (BitVec.ofInt IntKind.i64.bits (a : Int) ^^^ BitVec.ofInt IntKind.i64.bits 0).toNat = a := by
    have h0 : BitVec.ofInt IntKind.i64.bits 0 = 0#_ := by simp
    rw [h0, BitVec.xor_zero]
    exact ofInt_u64 a (by omega)
  show IntKind.i64.wrap ((BitVec.ofInt IntKind.i64.bits (a : Int) ^^^ BitVec.ofInt IntKind.i64.bits 0).toNat : Int) = a
  rw [e, IntKind.wrap_i64]
  omega
theorem i64_xor_ones (a : Nat) (h : a < 9223372036854775808) : bits .xor .i64 (a : Int) (-1) = -1 - (a : Int) := by
  rw [← i64_not a h]
  unfold bits
  simp only [BitVec.xor_comm]
theorem unzig_bits (V : Nat) (h : V < 18446744073709551616) : bits BinOp.xor IntKind.i64 (wrap64 ((V : Int) / 2)) (wrap64 (-wrap64 (bits BinOp.and IntKind.u64 (V : Int) 1))) = Oct.unzig V := by
  have e2 : (1 : Int) = ((1 : Nat) : Int) := rfl
  have e3 : ((V : Int) / 2) = ((V / 2 : Nat) : Int) := by omega
  rw [e2, u64_and_nat _ _ h (by omega), nat_mask1, wrap64_nat (V % 2) (by omega), e3, wrap64_nat (V / 2) (by omega)]
  unfold Oct.unzig
  rcases (by omega : V % 2 = 0 ∨ V % 2 = 1) with h0 | h0
  · rw [h0, if_pos rfl]
    have e4 : wrap64 (-((0 : Nat) : Int)) = 0 := IntWalk.wrap64_in _ ⟨by omega, by omega⟩
    rw [e4, i64_xor_zero _ (by omega)]
  · rw [h0, if_neg (by omega)]
    have e4 : wrap64 (-((1 : Nat) : Int)) = -1 := IntWalk.wrap64_in _ ⟨by omega, by omega⟩
    rw [e4, i64_xor_ones _ (by omega)]
    omega
end Go.Proofs.YtpncejdamjbnlaaGreatDoor
end
section
namespace Go.Proofs.YtpncejdamjbnlaaGreatDoor
open Go.RowKit
def getR (bs : List Byte) (at_ : Nat) : Int × Int × Int :=
  match Oct.dec 0 0 (nat8 (bs.drop at_)) with
  | .ok u k => (Oct.unzig u, at_ + k, 0)
  | .form => (0, 0, 11)
  | .short => (0, 0, 10)
def RetGet (w : World) (r : Int × Int × Int) (e : Ending) (w' : World) : Prop := e = .returned (.tuple #[.int .i64 r.1, .int .i64 r.2.1, .int .i64 r.2.2]) ∧ w = w'
def RetGetAny (w : World) (e : Ending) (w' : World) : Prop := w = w'
theorem nat8_drop {bs : List Byte} {k : Nat} {b : Byte} (h : bs[k]? = some b) : nat8 (bs.drop k) = b.n :: nat8 (bs.drop (k + 1)) := by
  have hk := (List.getElem?_eq_some_iff.1 h).1
  rw [List.drop_eq_getElem_cons hk]
  have := (List.getElem?_eq_some_iff.1 h).2
  simp [nat8, this]
theorem ret_get {a b c a' b' c' : Int} (h1 : a = a') (h2 : b = b') (h3 : c = c') : Ending.returned (.tuple #[.int .i64 a, .int .i64 b, .int .i64 c]) = .returned (.tuple #[.int .i64 a', .int .i64 b', .int .i64 c']) := by rw [h1, h2, h3]
theorem getR_form {bs : List Byte} {at_ : Nat} (h : Oct.dec 0 0 (nat8 (bs.drop at_)) = .form) : getR bs at_ = (0, 0, 11) := by unfold getR; rw [h]
theorem getR_short {bs : List Byte} {at_ : Nat} (h : Oct.dec 0 0 (nat8 (bs.drop at_)) = .short) : getR bs at_ = (0, 0, 10) := by unfold getR; rw [h]
theorem getR_ok {bs : List Byte} {at_ u k : Nat} (h : Oct.dec 0 0 (nat8 (bs.drop at_)) = .ok u k) : getR bs at_ = (Oct.unzig u, ((at_ + k : Nat) : Int), 0) := by unfold getR; rw [h]; simp
set_option maxHeartbeats 2000000 in
set_option maxRecDepth 100000 in
theorem getInt_any (w : World) (n c k0 : Nat) (ad : Addr) (bs : List Byte) (hI : Arr w (some ad) n c bs) (hn : n ≤ 1048576) (hk0 : k0 < n) :
    Calls Tryz.prog 193 #[.slice (some ad) n c, .int .i64 k0] w (RetGet w (getR bs k0)) := by
  have hc := hI.cap
  have hm := hI.max
  unfold maxLen at hm
  have HI := Lib.hid hI
  clear hI
  have g1 : decide ((k0 : Int) < 0) = false := by simp
  have g2 : decide (n < k0) = false := by simp; omega
  go_enter Tryz.func193, Tryz.ntmps193
  go_wp2
  go_loop [7, 8, 9, 22] (fun u _ _ i => ∃ k U : Nat, k ≤ n - k0 ∧ k ≤ 9 ∧ i = .int .i64 k ∧ u = .int .u64 (U : Int) ∧ U < 2 ^ (7 * k) ∧ Oct.dec 0 0 (nat8 (bs.drop k0)) = Oct.dec k U (nat8 (bs.drop (k0 + k)))) (fun _ _ _ i => n - k0 - (intOf i).toNat)
  case atStart => exact ⟨0, 0, by omega, by omega, rfl, rfl, by simp, rfl⟩
  case round =>
    obtain ⟨k, U, hk, hk9, rfl, rfl, hU, hd⟩ := hrel
    have HU := Lib.hid hU
    have HD := Lib.hid hd
    clear hU hd
    by_cases hlt : k < n - k0
    · obtain ⟨b, hb⟩ : ∃ b, bs[k0 + k]? = some b := ⟨_, List.getElem?_eq_getElem (by have := HI.out.len; omega)⟩
      obtain ⟨ad', e, hadS, hcell⟩ := HI.out.byte hb
      cases e
      have HBB := Lib.hid hb
      have hb256 := b.lt
      obtain ⟨x, hx⟩ : ∃ x, b.n = x := ⟨_, rfl⟩
      rw [hx] at hcell hb256
      have HX := Lib.hid hx
      clear hb hx hadS
      rw [← add_of_add] at hcell
      have hcell' := hcell
      clear hcell
      have hdrop := nat8_drop HBB.out
      rw [HX.out] at hdrop
      have hd := HD.out
      rw [hdrop, Oct.dec] at hd
      have HD2 := Lib.hid hd
      clear hd hdrop
      by_cases hF : k = 9 ∧ 1 < x
      · have e9 : ((k : Int) == 9) = true := by simp; omega
        have e1 : decide ((1 : Int) < (x : Int)) = true := by simp; omega
        have HR : Hid (getR bs k0 = (0, 0, 11)) := by
          have h2 := HD2.out
          rw [if_pos hF] at h2
          exact getR_form h2
        clear hF
        go_wp2
        go_ret3
        refine ⟨?_, rfl⟩
        rw [HR.out]
        rfl
      · by_cases hZ : 0 < k ∧ x = 0
        · have e0 : decide ((0 : Int) < (k : Int)) = true := by simp; omega
          have ex0 : ((x : Int) == 0) = true := by simp; omega
          have en0 : decide (0 < k) = true := by simp; omega
          have e1 : decide ((1 : Int) < (x : Int)) = false := by simp; omega
          have HR : Hid (getR bs k0 = (0, 0, 11)) := by
            have h2 := HD2.out
            rw [if_neg hF, if_pos hZ] at h2
            exact getR_form h2
          clear hF hZ
          cases e9 : ((k : Int) == 9)
          all_goals
            go_wp2
            go_ret3
            refine ⟨?_, rfl⟩
            rw [HR.out]
            rfl
        · have h63 : 2 ^ (7 * k) ≤ 2 ^ 63 := Nat.pow_le_pow_right (by omega) (by omega)
          have hb64 : x % 128 * 2 ^ (7 * k) < 9223372036854775808 + 9223372036854775808 ∧ U + x % 128 * 2 ^ (7 * k) < 18446744073709551616 := by
            have hU := HU.out
            by_cases h9 : k = 9
            · have h1 : x ≤ 1 := by omega
              subst h9
              have e9 : (2 : Nat) ^ (7 * 9) = 9223372036854775808 := by decide
              rw [e9] at hU ⊢
              have : x % 128 ≤ 1 := by omega
              omega
            · have h8 : 2 ^ (7 * k) ≤ 2 ^ 56 := Nat.pow_le_pow_right (by omega) (by omega)
              have e8 : (2 : Nat) ^ 56 = 72057594037927936 := by decide
              generalize 2 ^ (7 * k) = p at *
              have : x % 128 * p ≤ 127 * p := Nat.mul_le_mul_right _ (by omega)
              omega
          have HV := Lib.hid (or_step U x k hk9 HU.out hb256 (Nat.lt_of_lt_of_le hb64.1 (by decide)))
          have hV64 := hb64.2
          clear h63 hb64
          have hq9 : ((k : Int) == 9) = true → decide ((1 : Int) < (x : Int)) = false := by
            intro h
            simp at h
            have : k = 9 := by omega
            simp; omega
          have hq0 : decide (0 < k) = true → ((x : Int) == 0) = false := by
            intro h
            simp at h ⊢
            omega
          by_cases h128 : x < 128
          · have e128 : decide ((x : Int) < 128) = true := by simp; omega
            have HR : Hid (getR bs k0 = (Oct.unzig (U + x % 128 * 2 ^ (7 * k)), ((k0 + (k + 1) : Nat) : Int), 0)) := by
              have h2 := HD2.out
              rw [if_neg hF, if_neg hZ, if_pos h128] at h2
              exact getR_ok h2
            have HB := Lib.hid (unzig_bits _ hV64)
            clear hV64 hF hZ h128
            have fin : ∀ W : World, W = w → RetGet w (getR bs k0) (.returned (.tuple #[.int .i64 (bits BinOp.xor IntKind.i64 (wrap64 (bits BinOp.or IntKind.u64 (U : Int) (IntKind.u64.wrap (IntKind.u64.wrap (bits BinOp.and IntKind.u8 (x : Int) 127) * 2 ^ (7 * k))) / 2)) (wrap64 (-wrap64 (bits BinOp.and IntKind.u64 (bits BinOp.or IntKind.u64 (U : Int) (IntKind.u64.wrap (IntKind.u64.wrap (bits BinOp.and IntKind.u8 (x : Int) 127) * 2 ^ (7 * k)))) 1)))), .int .i64 ((k0 : Int) + (k : Int) + 1), .int .i64 0])) W := by
              rintro W rfl
              refine ⟨?_, rfl⟩
              rw [HR.out, HV.out]
              exact ret_get HB.out (by show (k0 : Int) + (k : Int) + 1 = ((k0 + (k + 1) : Nat) : Int); omega) rfl
            have FIN := Lib.hid fin
            clear fin
            cases e9 : ((k : Int) == 9)
            all_goals
              first
                | have e1 := hq9 e9
                | skip
              cases e0 : decide (0 < k)
              all_goals
                first
                  | have ex0 := hq0 e0
                  | skip
                have e0' : decide ((0 : Int) < (k : Int)) = decide (0 < k) := by simp
                rw [e0] at e0'
                have HQ9 := Lib.hid hq9
                have HQ0 := Lib.hid hq0
                clear hq9 hq0
                go_wp2
                go_ret3
                exact FIN.out _ rfl
          · have e128 : decide ((x : Int) < 128) = false := by simp; omega
            have h2 := HD2.out
            rw [if_neg hF, if_neg hZ, if_neg h128] at h2
            have hk8 : k + 1 ≤ 9 := by omega
            have hpow : U + x % 128 * 2 ^ (7 * k) < 2 ^ (7 * (k + 1)) := by
              have hp : 2 ^ (7 * (k + 1)) = 128 * 2 ^ (7 * k) := by rw [Nat.mul_add, Nat.pow_add, Nat.mul_comm]
              have hU := HU.out
              rw [hp]
              have : x % 128 * 2 ^ (7 * k) ≤ 127 * 2 ^ (7 * k) := Nat.mul_le_mul_right _ (by omega)
              omega
            have H2 := Lib.hid h2
            have HP := Lib.hid hpow
            clear h2 hpow hV64 hF hZ h128
            cases e9 : ((k : Int) == 9)
            all_goals
              first
                | have e1 := hq9 e9
                | skip
              cases e0 : decide (0 < k)
              all_goals
                first
                  | have ex0 := hq0 e0
                  | skip
                have e0' : decide ((0 : Int) < (k : Int)) = decide (0 < k) := by simp
                rw [e0] at e0'
                have HQ9 := Lib.hid hq9
                have HQ0 := Lib.hid hq0
                clear hq9 hq0
                go_wp2
                go_round
                case rel => exact ⟨k + 1, U + x % 128 * 2 ^ (7 * k), by omega, hk8, by go_num, by rw [HV.out], HP.out, by rw [H2.out]; rfl⟩
                case measure => simp [intOf]; omega
    · have hkn : k = n - k0 := by omega
      have HR : Hid (getR bs k0 = (0, 0, 10)) := by
        have h2 := HD.out
        rw [List.drop_of_length_le (i := k0 + k) (by have := HI.out.len; omega)] at h2
        exact getR_short (h2.trans (by simp [nat8, Oct.dec]))
      have hl : decide (k < n - k0) = false := by simp; omega
      clear hkn
      go_wp2
      go_ret3
      refine ⟨?_, rfl⟩
      rw [HR.out]
      rfl
set_option maxHeartbeats 2000000 in
set_option maxRecDepth 100000 in
theorem getInt_end (w : World) (n c : Nat) (A : Option Addr) (r : Int × Int × Int) (hr : r = (0, 0, 10)) (hc : n ≤ c) (hm : c ≤ maxLen) (hA : A = none → c = 0) :
    Calls Tryz.prog 193 #[.slice A n c, .int .i64 n] w (RetGet w r) := by
  unfold maxLen at hm
  have g1 : decide ((n : Int) < 0) = false := by simp
  have HR := Lib.hid hr
  clear hr
  cases A with
  | none =>
    obtain rfl := hA rfl
    obtain rfl : n = 0 := by omega
    clear hA
    go_enter Tryz.func193, Tryz.ntmps193
    go_wp2
    go_loop [7, 22] (fun u i => i = .int .i64 0) (fun _ i => 0)
    case atStart => exact rfl
    case round =>
      obtain rfl := hrel
      go_wp2
      go_ret3
      exact ⟨by rw [HR.out]; rfl, rfl⟩
  | some ad =>
    clear hA
    by_cases hcn : c = n
    · subst hcn
      go_enter Tryz.func193, Tryz.ntmps193
      go_wp2
      go_loop [7, 22] (fun u i => i = .int .i64 0) (fun _ i => 0)
      case atStart => exact rfl
      case round =>
        obtain rfl := hrel
        go_wp2
        go_ret3
        exact ⟨by rw [HR.out]; rfl, rfl⟩
    · have hlt : n < c := by omega
      go_enter Tryz.func193, Tryz.ntmps193
      go_wp2
      go_loop [7, 22] (fun u i => i = .int .i64 0) (fun _ i => 0)
      case atStart => exact rfl
      case round =>
        obtain rfl := hrel
        go_wp2
        go_ret3
        exact ⟨by rw [HR.out]; rfl, rfl⟩
theorem getInt_all (w : World) (n c k0 : Nat) (A : Option Addr) (bs : List Byte) (hI : Arr w A n c bs) (hn : n ≤ 1048576) (hk0 : k0 ≤ n) :
    Calls Tryz.prog 193 #[.slice A n c, .int .i64 k0] w (RetGet w (getR bs k0)) := by
  by_cases h : k0 < n
  · cases A with
    | none => have := hI.nil_of_none; omega
    | some ad => exact getInt_any w n c k0 ad bs hI hn h
  · obtain rfl : k0 = n := by omega
    refine getInt_end w k0 c A _ (getR_short ?_) hI.cap hI.max hI.none_
    rw [List.drop_of_length_le (by have := hI.len; omega)]
    simp [nat8, Oct.dec]
end Go.Proofs.YtpncejdamjbnlaaGreatDoor
end
