/-
  prop.Check: is the trail valid?
-/
import Derived.Test.YtelgabamdhaplaaBack
import Derived.Test.YtelgabamdhaplaaMaps
namespace Go.Proofs.Ytelgabamdhaplaa
open Go.RowKit

set_option maxHeartbeats 1000000 in
theorem index2 (w : World) (A : Option Addr) (n c : Nat) (xs : List Int) (g : FuncId) (c1 c2 : Value) (p : Int → Bool) (hI : Ints w (Lt w) A n c xs) (ht : Tests w g #[c1, c2] xs p) (hg : Enters g) :
    Calls Try.prog 50 #[.slice A n c, .func (.func g) #[] #[c1, c2]] w (RetIntBelow w (findI p xs)) := by
  have hc := hI.cap
  have hm := hI.max
  unfold maxLen at hm
  have HI := Lib.hid hI
  have HT := Lib.hid ht
  unfold Enters at hg
  clear hI ht
  go_enter Try.func50, Try.ntmps50
  go_wp2_with (fail)
  go_loopw [8] (fun i wr => ∃ k : Nat, k ≤ n ∧ i = .int .i64 k ∧ (xs.take k).any p = false ∧ Below w.heap.size w wr) (fun i _ => n - (intOf i).toNat)
  case atStart => exact ⟨0, Nat.zero_le _, rfl, by simp, Below.refl _ _⟩
  case round =>
    obtain ⟨k, hk, rfl, hany, hbl⟩ := hrel
    have HA := Lib.hid hany
    clear hany
    by_cases hlt : k < n
    · obtain ⟨ad, rfl, hadS, hcell⟩ := HI.out.at_ hlt
      have hl := HI.out.len
      have e1 := (hbl.cell (p := ad.add k) (by rw [block_of_add]; exact hadS)).trans hcell
      have hmem : xs.getD k 0 ∈ xs := by rw [List.getD_eq_getElem?_getD, List.getElem?_eq_getElem (by omega)]; simp
      have call := HT.out (xs.getD k 0) hmem wr hbl
      have call' : Calls Try.prog g #[.int .i64 (xs.getD k 0), c1, c2] wr (RetBoolBelow wr (p (xs.getD k 0))) := call
      have HL := Lib.hid hl
      clear hcell hadS hmem call hl
      cases hp : p (xs.getD k 0)
      · rw [hp] at call'
        have CALL := Lib.hid call'
        have HN := Lib.hid (any_snoc (by have := HL.out; omega) HA.out hp)
        clear call' hp
        generalize xs.getD k 0 = x at *
        go_wp2_with (fail)
        (with_reducible refine CALL.out.mono ?_)
        rintro e w1 ⟨rfl, hb1⟩
        go_wp2_with (fail)
        go_roundw
        case rel => exact ⟨k + 1, by omega, by go_num, HN.out, hbl.trans (hb1.mono hbl.size)⟩
        case measure => simp [intOf]; omega
      · rw [hp] at call'
        have CALL := Lib.hid call'
        have HN := Lib.hid (findI_hit (by have := HL.out; omega) HA.out hp)
        clear call' hp
        generalize xs.getD k 0 = x at *
        go_wp2_with (fail)
        (with_reducible refine CALL.out.mono ?_)
        rintro e w1 ⟨rfl, hb1⟩
        go_wp2_with (fail)
        go_ret
        exact ⟨by rw [HN.out]; rfl, hbl.trans (hb1.mono hbl.size)⟩
    · have HN := Lib.hid (findI_miss (p := p) (xs := xs) (by have := HA.out; rwa [List.take_of_length_le (by have := HI.out.len; omega)] at this))
      go_wp2_with (fail)
      go_ret
      exact ⟨by rw [HN.out]; rfl, hbl⟩

set_option maxHeartbeats 400000 in
theorem contains2 (w : World) (A : Option Addr) (n c : Nat) (xs : List Int) (g : FuncId) (c1 c2 : Value) (p : Int → Bool) (hI : Ints w (Lt w) A n c xs) (ht : Tests w g #[c1, c2] xs p) (hg : Enters g) :
    Calls Try.prog 36 #[.slice A n c, .func (.func g) #[] #[c1, c2]] w (RetBoolBelow w (xs.any p)) := by
  have CALL := Lib.hid (index2 w A n c xs g c1 c2 p hI ht hg)
  have HF := Lib.hid (findI_any p xs)
  clear hI ht hg
  generalize xs.any p = b at *
  generalize findI p xs = v at *
  go_enter Try.func36, Try.ntmps36
  go_wp2_with (fail)
  (with_reducible refine CALL.out.mono ?_)
  rintro e w1 ⟨rfl, hb1⟩
  go_wp2_with (fail)
  go_ret
  exact ⟨by rw [← HF.out]; rfl, hb1⟩


/-- What the map of the true literals holds. -/
def litF (known : List Int) : Int → Option Value := fun v => if v ∈ known then some (.bool true) else none
theorem litF_cons (known : List Int) (v k : Int) : upd (litF known) v (.bool true) k = litF (v :: known) k := by
  unfold upd litF
  by_cases h1 : k = v
  · rw [if_pos h1, if_pos (by simp [h1])]
  · rw [if_neg h1]
    congr 1
    simp [h1]
theorem litF_get (known : List Int) (v : Int) : (litF known v).getD (.bool false) = .bool (decide (v ∈ known)) := by
  unfold litF
  by_cases h : v ∈ known
  · rw [if_pos h]; simp [h]
  · rw [if_neg h]; simp [h]
def isKnown (known : List Int) (x : Int) : Bool := decide (x ∈ known) || decide (-x ∈ known)
theorem wf_small {x : Int} (h0 : -70000 ≤ x) (h1 : x ≤ 70000) : (Lit.int .i64 x).wf = true := by simp [Lit.wf, IntKind.min, IntKind.max, IntKind.signed, IntKind.bits]; omega

set_option maxHeartbeats 1000000 in
theorem known_any (w : World) (b n : Nat) (known : List Int) (x : Int) (hv : VMap w b n (litF known)) (h0 : -70000 ≤ x) (h1 : x ≤ 70000) :
    Calls Try.prog 33 #[.map (some b), .int .i64 x] w (RetBoolSame w (isKnown known x)) := by
  have l1 := hv.lookup (t := 53) Try.underlying53 (bool_zero _) (wf_small h0 h1)
  have l2 := hv.lookup (t := 53) (k := -x) Try.underlying53 (bool_zero _) (wf_small (by omega) (by omega))
  rw [litF_get] at l1 l2
  unfold isKnown
  clear hv
  generalize decide (x ∈ known) = b1 at *
  generalize decide (-x ∈ known) = b2 at *
  cases b1
  · go_enter Try.func33, Try.ntmps33
    go_wp2
    go_ret
    exact ⟨by simp, rfl⟩
  · go_enter Try.func33, Try.ntmps33
    go_wp2
    go_ret
    exact ⟨by simp, rfl⟩

set_option maxHeartbeats 1000000 in
theorem step_any (w : World) (b n : Nat) (known : List Int) (x : Int) (hv : VMap w b n (litF known)) (h0 : -70000 ≤ x) (h1 : x ≤ 70000) (hn : n ≤ 10000000) :
    Calls Try.prog 37 #[.map (some b), .int .i64 x] w (fun e w' => e = .returned (.tuple #[]) ∧ VMap w' b (n + 1) (litF (x :: known)) ∧ w.grownBy w' (some b)) := by
  obtain ⟨w2, hup, hv2, hg2⟩ := hv.update (t := 53) Try.underlying53 (by simp only [maxLen]; omega) (wf_small h0 h1) (.bool true)
  have HV := Lib.hid (hv2.ext (litF_cons known x))
  have HG := Lib.hid hg2
  clear hv hv2 hg2
  go_enter Try.func37, Try.ntmps37
  go_wp2
  go_end0
  exact ⟨rfl, HV.out, HG.out⟩

set_option maxHeartbeats 1000000 in
theorem indexI (w : World) (A : Option Addr) (n c : Nat) (xs : List Int) (x : Int) (hI : Ints w (Lt w) A n c xs) :
    Calls Try.prog 49 #[.slice A n c, .int .i64 x] w (RetIntBelow w (findI (fun y => y == x) xs)) := by
  have hc := hI.cap
  have hm := hI.max
  unfold maxLen at hm
  have HI := Lib.hid hI
  clear hI
  go_enter Try.func49, Try.ntmps49
  go_wp2_with (fail)
  go_loopw [8] (fun i wr => ∃ k : Nat, k ≤ n ∧ i = .int .i64 k ∧ (xs.take k).any (fun y => y == x) = false ∧ Below w.heap.size w wr) (fun i _ => n - (intOf i).toNat)
  case atStart => exact ⟨0, Nat.zero_le _, rfl, by simp, Below.refl _ _⟩
  case round =>
    obtain ⟨k, hk, rfl, hany, hbl⟩ := hrel
    have HA := Lib.hid hany
    clear hany
    by_cases hlt : k < n
    · obtain ⟨ad, rfl, hadS, hcell⟩ := HI.out.at_ hlt
      have hl := HI.out.len
      have e1 := (hbl.cell (p := ad.add k) (by rw [block_of_add]; exact hadS)).trans hcell
      have HL := Lib.hid hl
      clear hcell hadS hl
      by_cases hp : xs.getD k 0 = x
      · have HN := Lib.hid (findI_hit (p := fun y => y == x) (by have := HL.out; omega) HA.out (by simpa using hp))
        have hq : (x == xs.getD k 0) = true := by rw [hp]; simp
        clear hp
        generalize xs.getD k 0 = y at *
        go_wp2
        go_ret
        exact ⟨by rw [HN.out]; rfl, hbl⟩
      · have HN := Lib.hid (any_snoc (p := fun y => y == x) (by have := HL.out; omega) HA.out (by simpa using hp))
        have hq : (x == xs.getD k 0) = false := by simp; exact fun e => hp e.symm
        clear hp
        generalize xs.getD k 0 = y at *
        go_wp2
        go_roundw
        case rel => exact ⟨k + 1, by omega, by go_num, HN.out, hbl⟩
        case measure => simp [intOf]; omega
    · have HN := Lib.hid (findI_miss (p := fun y => y == x) (xs := xs) (by have := HA.out; rwa [List.take_of_length_le (by have := HI.out.len; omega)] at this))
      go_wp2_with (fail)
      go_ret
      exact ⟨by rw [HN.out]; rfl, hbl⟩
theorem any_has (xs : List Int) (x : Int) : xs.any (fun y => y == x) = decide (x ∈ xs) := by
  rw [Bool.eq_iff_iff]
  simp
set_option maxHeartbeats 400000 in
theorem containsI (w : World) (A : Option Addr) (n c : Nat) (xs : List Int) (x : Int) (hI : Ints w (Lt w) A n c xs) :
    Calls Try.prog 35 #[.slice A n c, .int .i64 x] w (RetBoolBelow w (decide (x ∈ xs))) := by
  have CALL := Lib.hid (indexI w A n c xs x hI)
  have HF := Lib.hid (findI_any (fun y => y == x) xs)
  rw [any_has] at HF
  clear hI
  generalize decide (x ∈ xs) = b at *
  generalize findI (fun y => y == x) xs = v at *
  go_enter Try.func35, Try.ntmps35
  go_wp2_with (fail)
  (with_reducible refine CALL.out.mono ?_)
  rintro e w1 ⟨rfl, hb1⟩
  go_wp2_with (fail)
  go_ret
  exact ⟨by rw [← HF.out]; rfl, hb1⟩

/-- Is an element open: neither the literal itself nor false? -/
def openB (known : List Int) (lit x : Int) : Bool := !(x == lit) && !decide (-x ∈ known)
set_option maxHeartbeats 1000000 in
theorem open_any (w : World) (x : Int) (bs bd bm n : Nat) (known : List Int) (lit wy : Int) (hs : w.heap[bs]? = some (.cells #[.int .i64 lit, .int .i64 wy] 39 (0, 0))) (hd : w.heap[bd]? = some (.cells #[.map (some bm)] 53 (0, 0)))
    (hv : VMap w bm n (litF known)) (h0 : -70000 ≤ x) (h1 : x ≤ 70000) :
    Calls Try.prog 34 #[.int .i64 x, .pointer (some ⟨bs, 0, none⟩), .pointer (some ⟨bd, 0, none⟩)] w (RetBoolBelow w (openB known lit x)) := by
  have c1 : w.cell? ⟨bs, 0, none⟩ = some (.int .i64 lit) := by rw [cell_of_row _ _ _ _ _ _ hs]; rfl
  have c2 := cell_of_one hd
  have l2 := hv.lookup (t := 53) (k := -x) Try.underlying53 (bool_zero _) (wf_small (by omega) (by omega))
  rw [litF_get] at l2
  unfold openB
  clear hs hd hv
  generalize decide (-x ∈ known) = b2 at *
  by_cases hx : x = lit
  · have q1 : (x != lit) = false := by simpa using hx
    have q2 : (x == lit) = true := by simpa using hx
    rw [q2]
    clear hx q2
    go_enter Try.func34, Try.ntmps34
    go_wp2
    go_ret
    exact ⟨by simp, Below.refl _ _⟩
  · have q1 : (x != lit) = true := by simpa using hx
    have q2 : (x == lit) = false := by simpa using hx
    rw [q2]
    clear hx q2
    go_enter Try.func34, Try.ntmps34
    go_wp2
    go_ret
    exact ⟨by simp, Below.refl _ _⟩
end Go.Proofs.Ytelgabamdhaplaa
