/-
  chalklinelaw19.PropTrailSpec: the walk.
-/
import Derived.Test.YtelgabamdhaplaaBackPrefix
import Derived.Test.YtelgabamdhaplaaRefCheck19
import Derived.Deep.RegionLaw
namespace Go.Proofs.Ytelgabamdhaplaa
open Go.RowKit

set_option maxHeartbeats 8000000 in
set_option maxRecDepth 100000 in
theorem trailSpec_walk (w : World) (N : Int) (A : Option Addr) (n c : Nat) (cs : List (List Int)) (A' : Option Addr) (m c' : Nat) (ts : List TStep) (level : Int) (h1 : InCnf w N A n c cs) (h2 : InSteps w A' m c' ts) (hk : (Lit.int .i64 level).wf = true) :
    Calls Try.prog 3 #[.agg #[.int .i64 N, .slice A n c], .slice A' m c', .int .i64 level] w (RetBoolBelow w true) := by
  obtain ⟨W, hW⟩ : ∃ W, W = w.alloc (.cells #[.int .i64 N, .slice A n c] 24) := ⟨_, rfl⟩
  have hs : BS w N A n c cs A' m c' ts W := by rw [hW]; exact BS.start h1.rows h2.steps
  have HS := Lib.hid hs
  have LIVE := Lib.hid (live_any W)
  clear h1 h2 hk hs
  go_enter Try.func3, Try.ntmps3
  go_upto_region 1 with (fail)
  rw [← hW]
  clear hW
  go_wp2_with (fail)
  (with_reducible refine LIVE.out.mono ?_)
  rintro e w1 ⟨rfl, hb1⟩
  have HS1 := Lib.hid (HS.out.to hb1)
  have c0 := HS1.out.c0
  have c1 := HS1.out.c1
  have FEW := Lib.hid (few19 w1 N A n c cs A' m c' HS1.out.rows)
  clear hb1 LIVE HS
  go_wp2_with (fail)
  (with_reducible refine FEW.out.mono ?_)
  rintro e w2 ⟨b, rfl, hbn, hb2⟩
  have HS2 := Lib.hid (HS1.out.to hb2)
  clear HS1 FEW c0 c1 hb2
  cases b
  case false =>
    go_wp2
    go_ret
    exact ⟨rfl, HS2.out.bel⟩
  obtain ⟨hn, hm⟩ := hbn rfl
  have CALL := Lib.hid (levels_any w2 A' m c' ts HS2.out.steps (by omega))
  clear hbn
  go_wp2_with (fail)
  (with_reducible refine CALL.out.mono ?_)
  rintro e w3 ⟨A3, n3, c3, rfl, ho3, hb3⟩
  have HS3 := Lib.hid (HS2.out.to hb3)
  have HI3 := Lib.hid (Ints.of_ownLt ho3)
  have CALL := Lib.hid (levels19_any w3 A' m c' ts HS3.out.steps (by omega))
  clear hb3 ho3 HS2
  go_wp2_with (fail)
  (with_reducible refine CALL.out.mono ?_)
  rintro e w4 ⟨A4, n4, c4, rfl, ho4, hb4⟩
  have HS4 := Lib.hid (HS3.out.to hb4)
  have CALL := Lib.hid (ints_eq w4 n3 c3 n4 c4 A3 A4 _ _ (HI3.out.belowLt hb4) (Ints.of_ownLt ho4))
  rw [show decide (levR ts = levR ts) = true by simp] at CALL
  clear hb4 ho4 HS3 HI3
  go_wp2_with (fail)
  (with_reducible refine CALL.out.mono ?_)
  rintro e w5 ⟨rfl, hb5⟩
  have HS5 := Lib.hid (HS4.out.to hb5)
  have CALL := Lib.hid (back_any w5 A' m c' ts level HS5.out.steps (by omega))
  clear hb5 HS4
  go_wp2_with (fail)
  (with_reducible refine CALL.out.mono ?_)
  rintro e w6 ⟨A6, n6, c6, rfl, ho6, hb6⟩
  have HS6 := Lib.hid (HS5.out.to hb6)
  have HI6 := Lib.hid (Steps.of_own ho6)
  have CALL := Lib.hid (back19_any w6 A' m c' ts level HS6.out.steps (by omega))
  clear hb6 ho6 HS5
  go_wp2_with (fail)
  (with_reducible refine CALL.out.mono ?_)
  rintro e w7 ⟨A7, n7, c7, rfl, ho7, hb7⟩
  have HS7 := Lib.hid (HS6.out.to hb7)
  have CALL := Lib.hid (steps_eq w7 n6 c6 n7 c7 A6 A7 _ _ (HI6.out.belowLt hb7) (Steps.of_own ho7))
  rw [show decide (backR ts level = backR ts level) = true by simp] at CALL
  clear hb7 ho7 HS6 HI6
  go_wp2_with (fail)
  (with_reducible refine CALL.out.mono ?_)
  rintro e w8 ⟨rfl, hb8⟩
  have HS8 := Lib.hid (HS7.out.to hb8)
  have HS8d : Hid (BS w N A n c cs A' m c' ts w8.drew) := HS8.out.to (Below.refl _ _).drew
  have CALLA := Lib.hid (trailCheck_any w8.drew N A n c cs A' m c' ts HS8d.out.rows HS8d.out.steps (by omega))
  have CALLB : Hid (∀ wk, BS w N A n c cs A' m c' ts wk → Calls Try.prog 20 #[.agg #[.int .i64 N, .slice A n c], .slice A' m c'] wk (RetIntBelow wk (checkS N cs ts))) := fun wk h => check19_any wk N A n c cs A' m c' ts h.rows h.steps (by omega)
  have c0 := HS8.out.c0
  have c1 := HS8.out.c1
  clear hb8 HS7
  generalize checkS N cs ts = er at *
  have qe : (er == er) = true := by simp
  go_upto_region 6 with (fail)
  go_region_law (first
    | (go_simp
       go_wp2_with (first
         | (go_at_call 19
            (with_reducible refine CALLA.out.mono ?_)
            rintro e w9 ⟨rfl, hb9⟩
            have HS9 := Lib.hid (HS8d.out.to hb9)
            have d0 := HS9.out.c0
            have d1 := HS9.out.c1
            clear hb9)
         | (go_at_call 20
            (with_reducible refine (CALLB.out _ HS9.out).mono ?_)
            rintro e w10 ⟨rfl, hb10⟩
            have HS10 := Lib.hid (HS9.out.to hb10)
            clear hb10))))
  all_goals go_wp2
  all_goals go_ret
  all_goals exact ⟨rfl, HS10.out.bel⟩
end Go.Proofs.Ytelgabamdhaplaa
