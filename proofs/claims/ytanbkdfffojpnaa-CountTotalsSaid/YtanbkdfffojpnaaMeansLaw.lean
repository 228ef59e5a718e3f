/-
  PLAIN LAW: Most; small arguments leave room.
-/
import Derived.Test.YtanbkdfffojpnaaSeqCan
namespace Go.Proofs.Ytanbkdfffojpnaa
open Go.RowKit

theorem apartG_neg {next : Int} : ∀ {l seen : List Int}, apartG next seen (l.map (fun x => -x)) = apartG next seen l
  | [], _ => rfl
  | x :: r, seen => by
    rw [List.map_cons, apartG, apartG, Int.natAbs_neg]
    split
    · rfl
    · exact apartG_neg
theorem rightR_neg (l : List Int) (next : Int) : rightR (l.map (fun x => -x)) next = rightR l next := by
  unfold rightR apartB
  rw [apartG_neg, List.length_map]
theorem count_neg {s : Nat → Bool} : ∀ {l : List Int}, (∀ x ∈ l, x ≠ 0) → (l.map (fun x => -x)).countP (sval s) + l.countP (sval s) = l.length
  | [], _ => rfl
  | x :: r, h => by
    have ih := count_neg (s := s) (l := r) (fun y hy => h y (by simp [hy]))
    rw [List.map_cons, List.countP_cons, List.countP_cons, sval_neg s (h x (by simp)), List.length_cons]
    generalize (r.map (fun x => -x)).countP (sval s) = p at *
    generalize r.countP (sval s) = q at *
    cases sval s x <;> simp <;> omega
theorem mostR_after {l : List Int} {k next : Int} (h0 : (mostR l k next).err = 0) : rightR l next = 0 ∧ mostR l k next = leastR (l.map (fun x => -x)) (l.length - min (max k (-1)) l.length) next := by
  by_cases hr : rightR l next = 0
  · exact ⟨hr, mostR_ok hr⟩
  · rw [mostR_bad hr] at h0; exact absurd h0 hr
theorem among_neg {m : Int} {l : List Int} (h : Among (LitBelow m) l) : Among (LitBelow m) (l.map (fun x => -x)) := fun y hy => by
  obtain ⟨x, hx, rfl⟩ := List.mem_map.1 hy
  exact litBelow_neg x (h x hx)
theorem can_most {l : List Int} {k : Int} {a : List Bool} (h0 : (mostR l k a.length).err = 0) : canB (mostR l k a.length).cs a ((mostR l k a.length).after - a.length).toNat = decide ((manyT l a : Int) ≤ k) := by
  obtain ⟨hr, e⟩ := mostR_after h0
  rw [e] at h0 ⊢
  rw [can_least h0]
  obtain ⟨_, _, _, hA⟩ := right_among hr
  have hc := count_neg (s := varT a) (l := l) (fun x hx => (hA x hx).1)
  rw [manyT_count hA (Int.le_refl _), manyT_count (among_neg hA) (Int.le_refl _)]
  have hle : l.countP (sval (varT a)) ≤ l.length := List.countP_le_length
  rw [Bool.eq_iff_iff]
  simp only [decide_eq_true_eq]
  omega
/-- With few literals and variables there is room. -/
theorem leastR_room {l : List Int} {k next : Int} (hl : l.length ≤ 60) (hn : next ≤ 30000) : (leastR l k next).err = rightR l next := by
  by_cases hr : rightR l next = 0
  case neg => rw [leastR_bad hr]
  by_cases hk : k ≤ 0
  · rw [leastR_none hr hk, hr]
  by_cases hk2 : (l.length : Int) < k
  · rw [leastR_over hr hk hk2, hr]
  obtain ⟨m, rfl⟩ := Int.eq_ofNat_of_zero_le (show 0 ≤ k by omega)
  have hreg : regs l.length m ≤ 7200 := by
    have a1 : m * (m - 1) ≤ 60 * 60 := Nat.mul_le_mul (by omega) (by omega)
    have a2 : m * (l.length - m + 1) ≤ 60 * 60 := Nat.mul_le_mul (by omega) (by omega)
    unfold regs
    generalize m * (m - 1) = p at *
    generalize m * (l.length - m + 1) = q at *
    omega
  rw [leastR_ok hr (by omega) (by omega) (by omega), hr]
theorem mostR_room {l : List Int} {k next : Int} (hl : l.length ≤ 60) (hn : next ≤ 30000) : (mostR l k next).err = rightR l next := by
  by_cases hr : rightR l next = 0
  case neg => rw [mostR_bad hr]
  rw [mostR_ok hr, leastR_room (by rw [List.length_map]; exact hl) hn, rightR_neg]
theorem leastR_bad0 {l : List Int} {k next : Int} (h : (leastR l k next).err ≠ 0) : (leastR l k next).cs = [] ∧ (leastR l k next).after = 0 := by
  by_cases hr : rightR l next = 0
  case neg => rw [leastR_bad hr]; exact ⟨rfl, rfl⟩
  by_cases hk : k ≤ 0
  · rw [leastR_none hr hk] at h; exact absurd rfl h
  by_cases hk2 : (l.length : Int) < k
  · rw [leastR_over hr hk hk2] at h; exact absurd rfl h
  obtain ⟨m, rfl⟩ := Int.eq_ofNat_of_zero_le (show 0 ≤ k by omega)
  by_cases hb : 65536 < next + regs l.length m - 1 ∨ 65536 < 2 * (regs l.length m : Int) - l.length + 1
  · rw [leastR_bound hr (by omega) (by omega) hb]; exact ⟨rfl, rfl⟩
  · rw [leastR_ok hr (by omega) (by omega) hb] at h; exact absurd rfl h
theorem mostR_bad0 {l : List Int} {k next : Int} (h : (mostR l k next).err ≠ 0) : (mostR l k next).cs = [] ∧ (mostR l k next).after = 0 := by
  by_cases hr : rightR l next = 0
  case neg => rw [mostR_bad hr]; exact ⟨rfl, rfl⟩
  rw [mostR_ok hr] at h ⊢
  exact leastR_bad0 h
theorem mostR_range {l : List Int} {k next : Int} (h0 : (mostR l k next).err = 0) : next ≤ (mostR l k next).after ∧ (mostR l k next).after ≤ 65537 := by
  obtain ⟨hr, e⟩ := mostR_after h0
  rw [e] at h0 ⊢
  obtain ⟨_, h1, h2, _⟩ := leastR_after h0
  exact ⟨h1, h2⟩

theorem leastR_small {l : List Int} {k next : Int} (hl : l.length ≤ 60) (hr : rightR l next = 0) : (leastR l k next).cs.length ≤ 20000 := by
  by_cases hk : k ≤ 0
  · rw [leastR_none hr hk]; simp
  by_cases hk2 : (l.length : Int) < k
  · rw [leastR_over hr hk hk2]; simp
  obtain ⟨m, rfl⟩ := Int.eq_ofNat_of_zero_le (show 0 ≤ k by omega)
  by_cases hb : 65536 < next + regs l.length m - 1 ∨ 65536 < 2 * (regs l.length m : Int) - l.length + 1
  · rw [leastR_bound hr (by omega) (by omega) hb]; simp
  rw [leastR_ok hr (by omega) (by omega) hb]
  have hreg : regs l.length m ≤ 7200 := by
    have a1 : m * (m - 1) ≤ 60 * 60 := Nat.mul_le_mul (by omega) (by omega)
    have a2 : m * (l.length - m + 1) ≤ 60 * 60 := Nat.mul_le_mul (by omega) (by omega)
    unfold regs
    generalize m * (m - 1) = p at *
    generalize m * (l.length - m + 1) = q at *
    omega
  have := leastC_len (l := l) (next := next) (k := m) (by omega) (by omega)
  show (leastC l next m).length ≤ 20000
  omega
theorem mostR_small {l : List Int} {k next : Int} (hl : l.length ≤ 60) (hr : rightR l next = 0) : (mostR l k next).cs.length ≤ 20000 := by
  rw [mostR_ok hr]
  exact leastR_small (by rw [List.length_map]; exact hl) (by rw [rightR_neg]; exact hr)

/-- What 'can' answers. -/
def canTried (a : List Bool) (after : Int) : Bool := decide (0 ≤ after - a.length ∧ after - a.length ≤ 9)
def canIs (cs : List (List Int)) (a : List Bool) (after : Int) : Bool := canTried a after && canB cs a (after - a.length).toNat
theorem can_r (w : World) (A : Option Addr) (n c : Nat) (cs : List (List Int)) (A' : Option Addr) (n' c' : Nat) (a : List Bool) (after : Int) (hR : Rows2 w A n c cs) (hB : Bools w A' n' c' a) (hn : n' ≤ 60000) (h0 : 0 ≤ after) (h1 : after ≤ 70000) :
    Calls Try.prog 20 #[.slice A n c, .slice A' n' c', .int .i64 after] w (RetCan w (canIs cs a after) (canTried a after)) := by
  have hl := hB.len
  by_cases h : after - n' < 0 ∨ 9 < after - n'
  · have e : canTried a after = false := by unfold canTried; rw [← hl]; simp; omega
    unfold canIs
    rw [e]
    exact can_not w A n c A' n' c' after (by omega) h0 h1 h
  · have e : canTried a after = true := by unfold canTried; rw [← hl]; simp; omega
    obtain ⟨f, hf⟩ := Int.eq_ofNat_of_zero_le (show 0 ≤ after - n' by omega)
    have e2 : canIs cs a after = canB cs a f := by
      unfold canIs
      rw [e, Bool.true_and, ← hl, hf, Int.toNat_natCast]
    rw [e, e2, show after = (n' : Int) + f by omega]
    exact can_any w A n c cs A' n' c' a f hR hB hn (by omega)
end Go.Proofs.Ytanbkdfffojpnaa
