/-
  A part of the proof of TopCrashRecovery: plain laws of records, frames, disks.
-/
set_option linter.all false
section
namespace Oct
def zig (n : Int) : Nat := if 0 ≤ n then (2 * n).toNat else (-2 * n - 1).toNat
def unzig (u : Nat) : Int := if u % 2 = 0 then ((u / 2 : Nat) : Int) else -((u / 2 : Nat) : Int) - 1
theorem unzig_zig (n : Int) : unzig (zig n) = n := by
  unfold unzig zig
  split <;> split <;> omega
theorem zig_lt {n : Int} (h1 : -9223372036854775808 ≤ n) (h2 : n ≤ 9223372036854775807) : zig n < 18446744073709551616 := by
  unfold zig
  split <;> omega
def enc (u : Nat) : List Nat := if h : u < 128 then [u] else (u % 128 + 128) :: enc (u / 128)
termination_by u
inductive Res where
  | ok (u len : Nat)
  | form
  | short
  deriving DecidableEq
def dec (i u : Nat) : List Nat → Res
  | [] => .short
  | c :: r =>
    if i = 9 ∧ 1 < c then .form
    else if 0 < i ∧ c = 0 then .form
    else if c < 128 then .ok (u + c % 128 * 2 ^ (7 * i)) (i + 1) else dec (i + 1) (u + c % 128 * 2 ^ (7 * i)) r
theorem enc_bytes : ∀ u c, c ∈ enc u → c < 256 := by
  intro u
  induction u using Nat.strongRecOn with
  | ind u ih =>
    intro c hc
    rw [enc] at hc
    split at hc
    · simp at hc; omega
    · rcases List.mem_cons.1 hc with rfl | hc
      · omega
      · exact ih _ (by omega) c hc
theorem big (i : Nat) (hi : 10 ≤ i) : 18446744073709551616 ≤ 2 ^ (7 * i) := by
  have h : (2:Nat) ^ 64 ≤ 2 ^ (7 * i) := Nat.pow_le_pow_right (by decide) (by omega)
  simpa using h
theorem dec_enc : ∀ (x i u : Nat) (r : List Nat), x * 2 ^ (7 * i) + u < 18446744073709551616 → (0 < i → 1 ≤ x) → dec i u (enc x ++ r) = .ok (u + x * 2 ^ (7 * i)) (i + (enc x).length) := by
  intro x
  induction x using Nat.strongRecOn with
  | ind x ih =>
    intro i u r hx hi
    rw [enc]
    by_cases h : x < 128
    · simp only [h, dite_true, List.cons_append, List.nil_append, dec, List.length_cons, List.length_nil]
      have h9 : ¬ (i = 9 ∧ 1 < x) := by
        rintro ⟨rfl, h1⟩
        have e9 : (2 : Nat) ^ (7 * 9) = 9223372036854775808 := by decide
        rw [e9] at hx
        omega
      have h0 : ¬ (0 < i ∧ x = 0) := by rintro ⟨a, b⟩; have := hi a; omega
      rw [if_neg h9, if_neg h0, if_pos trivial, Nat.mod_eq_of_lt h]
    · simp only [h, dite_false, List.cons_append, dec, List.length_cons]
      have h9 : ¬ (i = 9 ∧ 1 < x % 128 + 128) := by
        rintro ⟨rfl, _⟩
        have e9 : (2 : Nat) ^ (7 * 9) = 9223372036854775808 := by decide
        rw [e9] at hx
        omega
      have hp : 2 ^ (7 * (i + 1)) = 128 * 2 ^ (7 * i) := by rw [Nat.mul_add, Nat.pow_add, Nat.mul_comm]
      rw [if_neg h9, if_neg (by omega), if_neg (by omega)]
      have e1 : (x % 128 + 128) % 128 = x % 128 := by omega
      have e2 : x % 128 * 2 ^ (7 * i) + x / 128 * 2 ^ (7 * (i + 1)) = x * 2 ^ (7 * i) := by
        rw [hp, ← Nat.mul_assoc, ← Nat.add_mul]
        congr 1
        omega
      rw [e1, ih (x / 128) (by omega) (i + 1) _ r (by omega) (by omega)]
      congr 1
      · omega
      · omega
end Oct
end
section
namespace Seal
def be (n : Nat) : List Nat := [n / 16777216 % 256, n / 65536 % 256, n / 256 % 256, n % 256]
def get4 (l : List Nat) : Nat := (l.take 4).foldl (fun n x => n * 256 + x) 0
theorem get4_be (n : Nat) (h : n < 4294967296) (r : List Nat) : get4 (be n ++ r) = n := by
  simp only [get4, be, List.cons_append, List.nil_append, List.take_succ_cons, List.take_zero, List.foldl_cons, List.foldl_nil]
  omega
variable (crc : List Nat → Nat)
def frame (b : List Nat) : List Nat := be b.length ++ be (crc b) ++ b
theorem frame_length (b : List Nat) : (frame crc b).length = 8 + b.length := by simp [frame, be]; omega
def first (l : List Nat) : Option (List Nat × Nat) :=
  if l.length < 8 then none
  else if 65536 < get4 l then none
  else if l.length - 8 < get4 l then none
  else if crc ((l.drop 8).take (get4 l)) = get4 (l.drop 4) then some ((l.drop 8).take (get4 l), 8 + get4 l) else none
theorem first_frame (b r : List Nat) (hb : b.length ≤ 65536) (hc : crc b < 4294967296) : first crc (frame crc b ++ r) = some (b, 8 + b.length) := by
  have e1 : get4 (frame crc b ++ r) = b.length := by
    unfold frame
    rw [List.append_assoc, List.append_assoc]
    exact get4_be _ (by omega) _
  have e2 : get4 ((frame crc b ++ r).drop 4) = crc b := by
    have : (frame crc b ++ r).drop 4 = be (crc b) ++ (b ++ r) := by simp [frame, be]
    rw [this]
    exact get4_be _ hc _
  have e3 : (frame crc b ++ r).drop 8 = b ++ r := by simp [frame, be]
  have e4 : (frame crc b ++ r).length = 8 + b.length + r.length := by rw [List.length_append, frame_length]
  unfold first
  rw [e1, e2, e3, e4, if_neg (by omega), if_neg (by omega), if_neg (by omega), List.take_left' rfl, if_pos rfl]
theorem first_cut (b : List Nat) (hb : b.length ≤ 65536) (k : Nat) (hk : k < (frame crc b).length) : first crc ((frame crc b).take k) = none := by
  rw [frame_length] at hk
  have hl : ((frame crc b).take k).length = k := by rw [List.length_take, frame_length]; omega
  unfold first
  rw [hl]
  by_cases h8 : k < 8
  · rw [if_pos h8]
  · rw [if_neg h8]
    have e1 : get4 ((frame crc b).take k) = b.length := by
      obtain ⟨j, rfl⟩ : ∃ j, k = 4 + j := ⟨k - 4, by omega⟩
      have : (frame crc b).take (4 + j) = be b.length ++ ((be (crc b) ++ b).take j) := by
        unfold frame
        rw [List.append_assoc, List.take_append]
        simp [be]
        rw [List.take_of_length_le (by simp)]
        rfl
      rw [this]
      exact get4_be _ (by omega) _
    rw [e1, if_neg (by omega), if_pos (by omega)]
def scan : Nat → List Nat → List (List Nat) × Nat
  | 0, _ => ([], 0)
  | n + 1, l => match first crc l with
    | none => ([], 0)
    | some (b, k) => let (bs, m) := scan n (l.drop k); (b :: bs, k + m)
theorem scan_frames (hc : ∀ b, crc b < 4294967296) : ∀ (bs : List (List Nat)) (n : Nat) (tail : List Nat), (∀ b ∈ bs, b.length ≤ 65536) → first crc tail = none → bs.length < n →
    scan crc n ((bs.map (frame crc)).flatten ++ tail) = (bs, ((bs.map (frame crc)).flatten).length)
  | [], n + 1, tail, _, ht, _ => by simp [scan, ht]
  | b :: bs, n + 1, tail, hb, ht, hn => by
    have h1 := first_frame crc b ((bs.map (frame crc)).flatten ++ tail) (hb b (by simp)) (hc b)
    simp only [List.map_cons, List.flatten_cons, List.append_assoc, scan, h1]
    have h2 : (frame crc b ++ ((bs.map (frame crc)).flatten ++ tail)).drop (8 + b.length) = (bs.map (frame crc)).flatten ++ tail := by
      rw [← frame_length crc b, List.drop_left]
    rw [h2, scan_frames hc bs n tail (fun x hx => hb x (by simp [hx])) ht (by simp at hn; omega)]
    simp [frame_length]
  | _, 0, _, _, _, hn => by omega
theorem cut_frames : ∀ (bs : List (List Nat)) (k : Nat), (∀ b ∈ bs, b.length ≤ 65536) → ∃ j tail, j ≤ bs.length ∧ ((bs.map (frame crc)).flatten).take k = ((bs.take j).map (frame crc)).flatten ++ tail ∧ first crc tail = none
  | [], k, _ => ⟨0, [], by simp, by simp, by simp [first]⟩
  | b :: bs, k, hb => by
    by_cases hk : k < (frame crc b).length
    · refine ⟨0, (frame crc b).take k, by simp, ?_, first_cut crc b (hb b (by simp)) k hk⟩
      simp only [List.map_cons, List.flatten_cons, List.take_zero, List.map_nil, List.flatten_nil, List.nil_append]
      rw [List.take_append_of_le_length (by omega)]
    · obtain ⟨j, tail, h1, h2, h3⟩ := cut_frames bs (k - (frame crc b).length) fun x hx => hb x (by simp [hx])
      refine ⟨j + 1, tail, by simp; omega, ?_, h3⟩
      simp only [List.map_cons, List.flatten_cons, List.take_succ_cons, List.append_assoc]
      rw [List.take_append, h2, List.take_of_length_le (by omega)]
end Seal
end
section
namespace Jour
open Oct Seal
structure Ver where
  no : Int
  week : List (Int × Int)
  cost : Int
  best : Bool
def I64 (n : Int) : Prop := -9223372036854775808 ≤ n ∧ n ≤ 9223372036854775807
def encI (n : Int) : List Nat := enc (zig n)
def getI (l : List Nat) : Option (Int × List Nat) := match dec 0 0 l with | .ok u k => some (unzig u, l.drop k) | _ => none
theorem getI_enc (n : Int) (h : I64 n) (r : List Nat) : getI (encI n ++ r) = some (n, r) := by
  have := zig_lt h.1 h.2
  have e := dec_enc (zig n) 0 0 r (by simpa using this) (by omega)
  unfold getI encI
  rw [e]
  simp [unzig_zig]
theorem enc_length : ∀ (k u : Nat), u < 128 ^ (k + 1) → (enc u).length ≤ k + 1
  | 0, u, h => by rw [enc]; simp at h; simp [h]
  | k + 1, u, h => by
    rw [enc]
    split
    · simp
    · simp only [List.length_cons]
      have := enc_length k (u / 128) (by rw [Nat.pow_succ] at h; exact Nat.div_lt_of_lt_mul (by rw [Nat.mul_comm]; exact h))
      omega
theorem encI_length (n : Int) (h : I64 n) : (encI n).length ≤ 10 := by
  have h1 := zig_lt h.1 h.2
  refine enc_length 9 (zig n) (Nat.lt_of_lt_of_le h1 ?_)
  decide
def encPs (ps : List (Int × Int)) : List Nat := ps.flatMap fun p => encI p.1 ++ encI p.2
def getPs : Nat → List Nat → Option (List (Int × Int) × List Nat)
  | 0, l => some ([], l)
  | k + 1, l => (getI l).bind fun a => (getI a.2).bind fun b => (getPs k b.2).map fun c => ((a.1, b.1) :: c.1, c.2)
def P64 (ps : List (Int × Int)) : Prop := ∀ p ∈ ps, I64 p.1 ∧ I64 p.2
theorem getPs_enc : ∀ (ps : List (Int × Int)) (r : List Nat), P64 ps → getPs ps.length (encPs ps ++ r) = some (ps, r)
  | [], r, _ => rfl
  | p :: ps, r, h => by
    have hp := h p (by simp)
    have ih := getPs_enc ps r fun x hx => h x (by simp [hx])
    simp only [List.length_cons, encPs, List.flatMap_cons, List.append_assoc, getPs]
    rw [getI_enc _ hp.1]
    simp only [Option.bind_some]
    rw [getI_enc _ hp.2]
    simp only [Option.bind_some]
    have ih' : getPs ps.length (List.flatMap (fun p => encI p.fst ++ encI p.snd) ps ++ r) = some (ps, r) := ih
    rw [ih']
    rfl
theorem encPs_length : ∀ ps : List (Int × Int), P64 ps → (encPs ps).length ≤ 20 * ps.length
  | [], _ => by simp [encPs]
  | p :: ps, h => by
    have hp := h p (by simp)
    have ih := encPs_length ps fun x hx => h x (by simp [hx])
    have e1 := encI_length _ hp.1
    have e2 := encI_length _ hp.2
    have : (encPs (p :: ps)).length = (encI p.1).length + (encI p.2).length + (encPs ps).length := by simp [encPs]; omega
    rw [this]
    simp only [List.length_cons]
    omega
def may (v : Ver) : Bool := decide (1 ≤ v.no) && decide (v.no ≤ 1099511627776) && (decide (0 ≤ v.cost) && decide (v.cost ≤ 1099511627776)) && decide (v.week.length ≤ 64)
def bit (b : Bool) : Int := if b then 1 else 0
def record (v : Ver) : List Nat := encI v.no ++ (encI v.week.length ++ (encPs v.week ++ (encI v.cost ++ encI (bit v.best))))
def read (l : List Nat) : Option Ver :=
  (getI l).bind fun no => (getI no.2).bind fun n =>
    if n.1 < 0 then none else if 64 < n.1 then none else
    (getPs n.1.toNat n.2).bind fun ps => (getI ps.2).bind fun cost => (getI cost.2).bind fun best =>
      let v : Ver := ⟨no.1, ps.1, cost.1, decide (best.1 = 1)⟩
      if best.2 = [] ∧ (0 ≤ best.1 ∧ best.1 ≤ 1) ∧ may v = true then some v else none
theorem read_record (v : Ver) (hm : may v = true) (hp : P64 v.week) : read (record v) = some v := by
  have hm' := hm
  simp only [may, Bool.and_eq_true, decide_eq_true_eq] at hm'
  obtain ⟨⟨⟨h1, h2⟩, h3, h4⟩, h5⟩ := hm'
  have hb : I64 (bit v.best) := by unfold bit I64; split <;> omega
  have hbr : getI (encI (bit v.best)) = some (bit v.best, []) := by
    have := getI_enc _ hb []
    simpa using this
  unfold read record
  rw [getI_enc v.no ⟨by omega, by omega⟩]
  simp only [Option.bind_some]
  rw [getI_enc (v.week.length : Int) ⟨by omega, by omega⟩]
  simp only [Option.bind_some]
  rw [if_neg (by omega), if_neg (by omega)]
  simp only [Int.toNat_natCast]
  rw [getPs_enc v.week _ hp]
  simp only [Option.bind_some]
  rw [getI_enc v.cost ⟨by omega, by omega⟩]
  simp only [Option.bind_some]
  rw [hbr]
  simp only [Option.bind_some]
  have e : (⟨v.no, v.week, v.cost, decide (bit v.best = 1)⟩ : Ver) = v := by
    obtain ⟨a, b, c, d⟩ := v
    cases d <;> simp [bit]
  rw [e, if_pos ⟨trivial, by unfold bit; split <;> omega, hm⟩]
theorem record_length (v : Ver) (hm : may v = true) (hp : P64 v.week) : (record v).length ≤ 1320 := by
  have hm' := hm
  simp only [may, Bool.and_eq_true, decide_eq_true_eq] at hm'
  obtain ⟨⟨⟨h1, h2⟩, h3, h4⟩, h5⟩ := hm'
  have hb : I64 (bit v.best) := by unfold bit I64; split <;> omega
  have e1 := encI_length v.no ⟨by omega, by omega⟩
  have e2 := encI_length (v.week.length : Int) ⟨by omega, by omega⟩
  have e3 := encPs_length v.week hp
  have e4 := encI_length v.cost ⟨by omega, by omega⟩
  have e5 := encI_length _ hb
  unfold record
  simp only [List.length_append]
  omega
end Jour
end
section
namespace Jour
open Oct Seal
variable (crc : List Nat → Nat)
def fr (vs : List Ver) : List Nat := ((vs.map record).map (frame crc)).flatten
def scanAll (l : List Nat) : List (List Nat) × Nat := scan crc (l.length + 1) l
def readAll : Int → List (List Nat) → Option (List Ver)
  | _, [] => some []
  | s, b :: bs => (read b).bind fun v => if v.no = s then (readAll (s + 1) bs).map (v :: ·) else none
def versions (s : Int) (l : List Nat) : Option (List Ver) := if (scanAll crc l).2 = l.length then readAll s (scanAll crc l).1 else none
def OkL : Int → List Ver → Prop
  | _, [] => True
  | s, v :: vs => v.no = s ∧ may v = true ∧ P64 v.week ∧ OkL (s + 1) vs
theorem OkL.mem : ∀ {s : Int} {vs : List Ver}, OkL s vs → ∀ v ∈ vs, may v = true ∧ P64 v.week
  | _, v :: vs, h, x, hx => by
    rcases List.mem_cons.1 hx with rfl | hx
    · exact ⟨h.2.1, h.2.2.1⟩
    · exact h.2.2.2.mem x hx
theorem OkL.take : ∀ {s : Int} {vs : List Ver} (k : Nat), OkL s vs → OkL s (vs.take k)
  | _, [], k, _ => by simp [OkL]
  | _, v :: vs, 0, _ => by simp [OkL]
  | _, v :: vs, k + 1, h => ⟨h.1, h.2.1, h.2.2.1, h.2.2.2.take k⟩
theorem OkL.drop : ∀ {s : Int} {vs : List Ver} (k : Nat), k ≤ vs.length → OkL s vs → OkL (s + k) (vs.drop k)
  | _, vs, 0, _, h => by simpa using h
  | s, v :: vs, k + 1, hk, h => by
    have := h.2.2.2.drop k (by simpa using hk)
    have e : s + ((k + 1 : Nat) : Int) = s + 1 + (k : Int) := by omega
    rw [e]; exact this
theorem OkL.append : ∀ {s : Int} {vs : List Ver} {v : Ver}, OkL s vs → v.no = s + vs.length → may v = true → P64 v.week → OkL s (vs ++ [v])
  | s, [], v, _, h1, h2, h3 => ⟨by simpa using h1, h2, h3, trivial⟩
  | s, x :: vs, v, h, h1, h2, h3 => ⟨h.1, h.2.1, h.2.2.1, OkL.append h.2.2.2 (by rw [h1]; simp; omega) h2 h3⟩
theorem readAll_records : ∀ {s : Int} {vs : List Ver}, OkL s vs → readAll s (vs.map record) = some vs
  | _, [], _ => rfl
  | s, v :: vs, h => by
    simp only [List.map_cons, readAll, read_record v h.2.1 h.2.2.1, Option.bind_some, h.1, if_true]
    rw [readAll_records h.2.2.2]
    rfl
theorem fr_short {s : Int} {vs : List Ver} (h : OkL s vs) : ∀ b ∈ vs.map record, b.length ≤ 65536 := fun b hb => by
  obtain ⟨v, hv, rfl⟩ := List.mem_map.1 hb
  obtain ⟨h1, h2⟩ := h.mem v hv
  have := record_length v h1 h2
  omega
theorem fr_many (vs : List Ver) : 8 * vs.length ≤ (fr crc vs).length := by
  induction vs with
  | nil => simp [fr]
  | cons v vs ih =>
    have : (fr crc (v :: vs)).length = (frame crc (record v)).length + (fr crc vs).length := by simp [fr]
    rw [this, frame_length]
    simp only [List.length_cons]
    omega
theorem fr_append (a b : List Ver) : fr crc (a ++ b) = fr crc a ++ fr crc b := by simp [fr]
theorem scan_fr (hc : ∀ b, crc b < 4294967296) {s : Int} {vs : List Ver} (h : OkL s vs) (tail : List Nat) (ht : first crc tail = none) : scanAll crc (fr crc vs ++ tail) = (vs.map record, (fr crc vs).length) := by
  have := fr_many crc vs
  exact scan_frames crc hc (vs.map record) _ tail (fr_short h) ht (by simp; omega)
theorem versions_fr (hc : ∀ b, crc b < 4294967296) {s : Int} {vs : List Ver} (h : OkL s vs) : versions crc s (fr crc vs) = some vs := by
  have e := scan_fr crc hc h [] (by simp [first])
  rw [List.append_nil] at e
  unfold versions
  rw [e, if_pos rfl]
  exact readAll_records h
theorem crash_fr (hc : ∀ b, crc b < 4294967296) {s : Int} {vs : List Ver} (h : OkL s vs) (k : Nat) : ∃ j, j ≤ vs.length ∧ ((fr crc vs).take k).take (scanAll crc ((fr crc vs).take k)).2 = fr crc (vs.take j) := by
  obtain ⟨j, tail, h1, h2, h3⟩ := cut_frames crc (vs.map record) k (fr_short h)
  refine ⟨j, by simpa using h1, ?_⟩
  have e : (fr crc vs).take k = fr crc (vs.take j) ++ tail := by
    unfold fr
    rw [h2]
    simp only [List.map_take]
  rw [e, scan_fr crc hc (h.take j) tail h3, List.take_left' rfl]
end Jour
end
section
namespace Feed
variable {P : Type} [DecidableEq P]
def diff : Nat → List P → List P → List (Nat × P)
  | i, a :: as, b :: bs => if b = a then diff (i + 1) as bs else (i, b) :: diff (i + 1) as bs
  | _, _, _ => []
def apply : Int → List P → List (Nat × P) → Option (List P)
  | _, x, [] => some x
  | last, x, m :: ms => if (m.1 : Int) ≤ last ∨ x.length ≤ m.1 then none else apply m.1 (x.set m.1 m.2) ms
theorem apply_diff : ∀ (as bs pre : List P) (last : Int), as.length = bs.length → last < pre.length → apply last (pre ++ as) (diff pre.length as bs) = some (pre ++ bs)
  | [], [], pre, last, _, _ => by simp [diff, apply]
  | [], _ :: _, _, _, h, _ => by simp at h
  | _ :: _, [], _, _, h, _ => by simp at h
  | a :: as, b :: bs, pre, last, h, hl => by
    have hlen : as.length = bs.length := by simpa using h
    have e : ∀ z : P, (pre ++ [z]).length = pre.length + 1 := fun z => by simp
    by_cases hab : b = a
    · subst hab
      have ih := apply_diff as bs (pre ++ [b]) last hlen (by rw [e]; omega)
      rw [e, List.append_assoc, List.append_assoc] at ih
      simpa [diff] using ih
    · have ih := apply_diff as bs (pre ++ [b]) (pre.length : Int) hlen (by rw [e]; omega)
      rw [e, List.append_assoc, List.append_assoc] at ih
      simp only [diff, if_neg hab, apply]
      rw [if_neg (by simp; omega)]
      have hs : (pre ++ a :: as).set pre.length b = pre ++ b :: as := by simp
      rw [hs]
      simpa using ih
theorem apply_diff0 (a b : List P) (h : a.length = b.length) : apply (-1) a (diff 0 a b) = some b := apply_diff a b [] (-1) h (by simp)
end Feed
end
