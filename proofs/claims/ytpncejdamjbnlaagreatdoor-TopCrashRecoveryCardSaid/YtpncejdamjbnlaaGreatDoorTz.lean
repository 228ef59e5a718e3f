/-
  A part of the proof of TopCrashRecovery: the run of awake: tables, contracts, joining.
-/
import Derived.Test.YtpncejdamjbnlaaGreatDoorTn
import Derived.Test.YtpncejdamjbnlaaGreatDoorPa
import Derived.Test.YtpncejdamjbnlaaGreatDoorPc
import Derived.Test.YtpncejdamjbnlaaGreatDoorPe
import Derived.Test.YtpncejdamjbnlaaGreatDoorTk
set_option linter.all false
section
namespace Go.Refl
open Go.Proofs Go.RowKit
theorem hk0 {C : Ctx} (hC : Good C) : HookOk Tryz.prog E0 C := hooks0 sort_ok hC
theorem ps1_ok : ∀ p ∈ ps1, ∀ C, Good C → ∀ args h g, p.here args h = true → p.take h g = true → ∃ v h', g v h' = true ∧ CallOk Tryz.prog C p.f args h v h' := by
  have one : ∀ p : Piece, p.fits 19 = true → p.runs E0 1000000 = true → ∀ C, Good C → ∀ args h g, p.here args h = true → p.take h g = true → ∃ v h', g v h' = true ∧ CallOk Tryz.prog C p.f args h v h' :=
    fun p hf hr C hC args h g h1 h2 => piece_ok (E := E0) (Good := Good) (fun C h => h.1) Good.stays (fun C h => env0 h) (fun C h => hk0 h) mixed (n := 1000000) hf hr hC h1 h2
  intro p hp
  simp only [ps1, List.mem_cons, List.not_mem_nil, or_false] at hp
  rcases hp with rfl | rfl | rfl | rfl | rfl | rfl | rfl
  · exact one _ pW_fits pW_runs
  · exact one _ pS_fits pS_runs
  · exact one _ pTs_fits pTs_runs
  · exact one _ pTl_fits pTl_runs
  · exact one _ pTno_fits pTno_runs
  · exact one _ pTb_fits pTb_runs
  · exact one _ pTx_fits pTx_runs
theorem env1 {C : Ctx} (hC : Good C) : EnvOk Tryz.prog E1 C := ⟨(env0 hC).ng, (env0 hC).ty, (env0 hC).fn⟩
theorem env2 {C : Ctx} (hC : Good C) : EnvOk Tryz.prog E2 C := ⟨(env0 hC).ng, (env0 hC).ty, (env0 hC).fn⟩
theorem hk1 {C : Ctx} (hC : Good C) : HookOk Tryz.prog E1 C where
  hook := fun f args h g hk => by
    rcases pieces_ok (P := Tryz.prog) (C := C) (ps := ps1) (fun p hp args h g => ps1_ok p hp C hC args h g) (show pieces ps1 f args h g (hookT f args h g) = some true from hk) with h1 | h1
    · exact (hk0 hC).hook f args h g h1
    · exact h1
  dhook := (hk0 hC).dhook
theorem ps2_ok : ∀ p ∈ ps2, ∀ C, Good C → ∀ args h g, p.here args h = true → p.take h g = true → ∃ v h', g v h' = true ∧ CallOk Tryz.prog C p.f args h v h' := by
  have one : ∀ p : Piece, p.fits 19 = true → p.runs E1 1000000 = true → ∀ C, Good C → ∀ args h g, p.here args h = true → p.take h g = true → ∃ v h', g v h' = true ∧ CallOk Tryz.prog C p.f args h v h' :=
    fun p hf hr C hC args h g h1 h2 => piece_ok (E := E1) (Good := Good) (fun C h => h.1) Good.stays (fun C h => env1 h) (fun C h => hk1 h) mixed (n := 1000000) hf hr hC h1 h2
  have old := ps1_ok
  intro p hp
  simp only [ps2, List.mem_cons, List.not_mem_nil, or_false] at hp
  simp only [ps1, List.mem_cons, List.not_mem_nil, or_false] at old
  rcases hp with rfl | rfl | rfl | hp
  · exact one _ pB14_fits pB14_runs
  · exact one _ pB94_fits pB94_runs
  · exact one _ pB98_fits pB98_runs
  · exact old p hp
theorem hk2 {C : Ctx} (hC : Good C) : HookOk Tryz.prog E2 C where
  hook := fun f args h g hk => by
    rcases pieces_ok (P := Tryz.prog) (C := C) (ps := ps2) (fun p hp args h g => ps2_ok p hp C hC args h g) (show pieces ps2 f args h g (hookT f args h g) = some true from hk) with h1 | h1
    · exact (hk0 hC).hook f args h g h1
    · exact h1
  dhook := (hk0 hC).dhook
theorem awake_true {C : Ctx} (hC : Good C) {σ : Sig} {w : World} (k : HRel C σ heap0 w) : Calls Tryz.prog 4 #[] w fun e w' => e = .returned (.bool true) ∧ Below C.B C.w0 w' := by
  have hE := env2 hC
  have hH := hk2 hC
  obtain ⟨v, h', h1, h2, h3⟩ := callK_spec hE hH (run_ok hE hH (drawn_ok hE hH mixed) 1000000) go
  have hv : v = .bool true := by
    split at h1
    · rfl
    · cases h1
  subst hv
  refine callsIn_wide.1 ((h3 σ w [] k ⟨rfl, fun i v x e => by simp at e⟩).mono ?_)
  rintro e w' ⟨x, σ', rfl, _, k', hx⟩
  have : x = .bool true := by
    rcases hx with h | h
    · cases h
    · simp only [conc] at h; cases h; rfl
  subst this
  exact ⟨rfl, k'.below⟩
end Go.Refl
end
section
namespace Go.Refl
open Go.Proofs Go.RowKit Go.Proofs.YtpncejdamjbnlaaGreatDoor
def tg : Value → Nat
  | .string _ => 1
  | .int _ _ => 2
  | .bool _ => 3
  | .func _ _ _ => 4
  | _ => 0
def tgA : AV → Nat
  | .str _ => 1
  | .int _ _ => 2
  | .bool _ => 3
  | .fn _ _ _ => 4
  | _ => 0
theorem tgA_tg {σ : Sig} {a : AV} {v : Value} (h : conc σ a = some v) (hn : tgA a ≠ 0) : tg v = tgA a := by
  cases a <;> simp [tgA] at hn
  · simp only [conc] at h; cases h; rfl
  · simp only [conc] at h; cases h; rfl
  · simp only [conc] at h; split at h <;> cases h; rfl
  · simp only [conc, Option.bind_eq_some_iff, Option.map_eq_some_iff] at h
    obtain ⟨_, _, _, _, rfl⟩ := h; rfl
def clA (c d : Nat) (es : List (AV × AV)) : Bool := es.all fun e => Nat.beq (tgA e.1) c && Nat.beq (tgA e.2) d
theorem clA_ok {c d : Nat} {es : List (AV × AV)} (h : clA c d es = true) (hc : c ≠ 0) (hd : d ≠ 0) {σ : Sig} : ∀ e ∈ es, ∀ k v, conc σ e.1 = some k → conc σ e.2 = some v → tg k = c ∧ tg v = d := fun e he k v h1 h2 => by
  have := List.all_eq_true.1 h e he
  simp only [Bool.and_eq_true] at this
  have e1 := Nat.eq_of_beq_eq_true this.1; have e2 := Nat.eq_of_beq_eq_true this.2
  exact ⟨by rw [tgA_tg h1 (by omega), e1], by rw [tgA_tg h2 (by omega), e2]⟩
theorem maps_apart {σ : Sig} {W : World} {a b : Nat} {es fs : List (AV × AV)} (h1 : OR σ ⟨a, 0, 0⟩ W (.lmap es)) (h2 : OR σ ⟨b, 0, 0⟩ W (.lmap fs)) {c d c' d' : Nat} (hne : es ≠ []) (he : clA c d es = true) (hf : clA c' d' fs = true)
    (hc : c ≠ 0) (hd : d ≠ 0) (hc' : c' ≠ 0) (hd' : d' ≠ 0) (hcd : c ≠ c' ∨ d ≠ d') : a ≠ b := by
  refine OR.ne_map h1 h2 (f := fun k v => Nat.beq (tg k) c && Nat.beq (tg v) d) hne (fun e hm k v p q => ?_) (fun e hm k v p q => ?_)
  · obtain ⟨x, y⟩ := clA_ok he hc hd e hm k v p q
    simp only [x, y, Nat.beq_refl, Bool.and_self]
  · obtain ⟨x, y⟩ := clA_ok hf hc' hd' e hm k v p q
    cases hb : (Nat.beq (tg k) c && Nat.beq (tg v) d) with
    | false => rfl
    | true =>
      simp only [Bool.and_eq_true] at hb
      have e1 := Nat.eq_of_beq_eq_true hb.1; have e2 := Nat.eq_of_beq_eq_true hb.2
      omega
theorem lmap_map {σ : Sig} {W : World} {b : Nat} {es : List (AV × AV)} (h : OR σ ⟨b, 0, 0⟩ W (.lmap es)) : ∃ x cl, W.heap[b]? = some (.map x cl) := by
  obtain ⟨x, cl, _, h, _⟩ := h
  exact ⟨x, cl, h⟩
theorem pairs_ne {m : Nat → Nat} (h1 : m 19 ≠ m 20) (h2 : m 19 ≠ m 21) (h3 : m 19 ≠ m 22) (h4 : m 19 ≠ m 23) (h5 : m 20 ≠ m 21) (h6 : m 20 ≠ m 22) (h7 : m 20 ≠ m 23) (h8 : m 21 ≠ m 22) (h9 : m 21 ≠ m 23) (h10 : m 22 ≠ m 23) :
    ∀ b c, 19 ≤ b → b < 24 → 19 ≤ c → c < 24 → b ≠ c → m b ≠ m c := by
  intro b c hb1 hb2 hc1 hc2 hne
  have eb : b = 19 ∨ b = 20 ∨ b = 21 ∨ b = 22 ∨ b = 23 := by omega
  have ec : c = 19 ∨ c = 20 ∨ c = 21 ∨ c = 22 ∨ c = 23 := by omega
  rcases eb with rfl | rfl | rfl | rfl | rfl <;> rcases ec with rfl | rfl | rfl | rfl | rfl <;> first | exact absurd rfl hne | assumption | (apply Ne.symm; assumption)
theorem first_rel {W : World} (hs : W.ShapedOpen Tryz.prog) (hL : laidMetH Tryz.prog Rows.topCrashRecoveryRow.laid W) : ∃ σ, HRel ⟨19, W.heap.size, W⟩ σ heap0 W := by
  obtain ⟨b0, g0, o0⟩ := or0 hs hL
  obtain ⟨b1, g1, o1⟩ := or1 hs hL
  obtain ⟨b2, g2, o2⟩ := or2 hs hL
  obtain ⟨b3, g3, o3⟩ := or3 hs hL
  obtain ⟨b5, g5, o5⟩ := or5 hs hL
  obtain ⟨m, m0, m1, m2, m3, m5⟩ : ∃ m : Nat → Nat, m 19 = b0 ∧ m 20 = b1 ∧ m 21 = b2 ∧ m 22 = b3 ∧ m 23 = b5 :=
    ⟨fun n => if n = 19 then b0 else if n = 20 then b1 else if n = 21 then b2 else if n = 22 then b3 else b5, by simp, by simp, by simp, by simp, by simp⟩
  subst m0 m1 m2 m3 m5
  have k0 : clA 1 4 (lm gb19) = true := by kernel_rfl
  have k1 : clA 2 4 (lm gb20) = true := by kernel_rfl
  have k2 : clA 2 2 (lm gb21) = true := by kernel_rfl
  have k3 : clA 1 1 (lm gb22) = true := by kernel_rfl
  have n0 : lm gb19 ≠ [] := by intro e; cases e
  have n1 : lm gb20 ≠ [] := by intro e; cases e
  have n2 : lm gb21 ≠ [] := by intro e; cases e
  have n3 : lm gb22 ≠ [] := by intro e; cases e
  have k5 : clA 1 3 (lm gb23) = true := by kernel_rfl
  have O0 : ∀ σ, OR σ ⟨m 19, 0, 0⟩ W (.lmap (lm gb19)) := o0
  have O1 : ∀ σ, OR σ ⟨m 20, 0, 0⟩ W (.lmap (lm gb20)) := o1
  have O2 : ∀ σ, OR σ ⟨m 21, 0, 0⟩ W (.lmap (lm gb21)) := o2
  have O3 : ∀ σ, OR σ ⟨m 22, 0, 0⟩ W (.lmap (lm gb22)) := o3
  have O5 : ∀ σ, OR σ ⟨m 23, 0, 0⟩ W (.lmap (lm gb23)) := o5
  let s : Sig := ⟨fun _ => none, 0⟩
  refine ⟨sig0 m, heap0_rel (rows_at hs) ?_ (pairs_ne ?_ ?_ ?_ ?_ ?_ ?_ ?_ ?_ ?_ ?_) ?_⟩
  · intro b h1 h2
    have eb : b = 19 ∨ b = 20 ∨ b = 21 ∨ b = 22 ∨ b = 23 := by omega
    rcases eb with rfl | rfl | rfl | rfl | rfl
    · exact lmap_map (O0 s)
    · exact lmap_map (O1 s)
    · exact lmap_map (O2 s)
    · exact lmap_map (O3 s)
    · exact lmap_map (O5 s)
  · exact maps_apart (O0 s) (O1 s) n0 k0 k1 (by decide) (by decide) (by decide) (by decide) (by decide)
  · exact maps_apart (O0 s) (O2 s) n0 k0 k2 (by decide) (by decide) (by decide) (by decide) (by decide)
  · exact maps_apart (O0 s) (O3 s) n0 k0 k3 (by decide) (by decide) (by decide) (by decide) (by decide)
  · exact maps_apart (O0 s) (O5 s) n0 k0 k5 (by decide) (by decide) (by decide) (by decide) (by decide)
  · exact maps_apart (O1 s) (O2 s) n1 k1 k2 (by decide) (by decide) (by decide) (by decide) (by decide)
  · exact maps_apart (O1 s) (O3 s) n1 k1 k3 (by decide) (by decide) (by decide) (by decide) (by decide)
  · exact maps_apart (O1 s) (O5 s) n1 k1 k5 (by decide) (by decide) (by decide) (by decide) (by decide)
  · exact maps_apart (O2 s) (O3 s) n2 k2 k3 (by decide) (by decide) (by decide) (by decide) (by decide)
  · exact maps_apart (O2 s) (O5 s) n2 k2 k5 (by decide) (by decide) (by decide) (by decide) (by decide)
  · exact maps_apart (O3 s) (O5 s) n3 k3 k5 (by decide) (by decide) (by decide) (by decide) (by decide)
  · exact heap0_obj (row_or g0 rfl rfl) (row_or g1 rfl rfl) (row_or g2 rfl rfl) (row_or g3 rfl rfl) (or4 hs hL) (row_or g5 rfl rfl) (or6 hs hL) (or7 hs hL) (or12 hs hL) (or16 hs hL) (or17 hs hL) (o0 _) (o1 _) (o2 _) (o3 _) (o5 _)
theorem awake_row {W : World} (hs : W.ShapedOpen Tryz.prog) (hL : laidMetH Tryz.prog Rows.topCrashRecoveryRow.laid W) : Calls Tryz.prog 4 #[] W fun e w' => e = .returned (.bool true) ∧ Below W.heap.size W w' := by
  obtain ⟨σ, k⟩ := first_rel hs hL
  exact awake_true (good0 hs) k
end Go.Refl
end
