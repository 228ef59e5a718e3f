/-
  prop.Check: what it answers.
-/
import Derived.Test.YtelgabamdhaplaaTrail
namespace Go.Proofs.Ytelgabamdhaplaa
open Go.RowKit

def byOK (l : List Int) (lit : Int) (known : List Int) : Bool := decide (lit ∈ l) && !(l.any (openB known lit))
/-- Is a step's literal in range and new, its reason in range? -/
def litOK (N : Int) (m : Nat) (known : List Int) (p : TStep) : Prop := p.1 ≠ 0 ∧ p.1 ≤ N ∧ -N ≤ p.1 ∧ isKnown known p.1 = false ∧ -1 ≤ p.2 ∧ p.2 < m
def stepOK (N : Int) (cs : List (List Int)) (known : List Int) (p : TStep) : Prop := litOK N cs.length known p ∧ (0 ≤ p.2 → byOK (cs.getD p.2.toNat []) p.1 known = true)
instance (N : Int) (m : Nat) (known : List Int) (p : TStep) : Decidable (litOK N m known p) := by unfold litOK; infer_instance
instance (N : Int) (cs : List (List Int)) (known : List Int) (p : TStep) : Decidable (stepOK N cs known p) := by unfold stepOK; infer_instance
def trailG (N : Int) (cs : List (List Int)) (known : List Int) : List TStep → Bool
  | [] => true
  | p :: r => if stepOK N cs known p then trailG N cs (p.1 :: known) r else false
def checkS (N : Int) (cs : List (List Int)) (ts : List TStep) : Int := if checkR N cs ≠ 0 then checkR N cs else if trailG N cs [] ts = true then 0 else 1
theorem checkR_zero {N : Int} {cs : List (List Int)} (h : checkR N cs = 0) : 0 ≤ N ∧ N ≤ 65536 ∧ (∀ l ∈ cs, ∀ x ∈ l, x ≠ 0 ∧ -N ≤ x ∧ x ≤ N) ∧ cs.length ≤ 65536 := by
  unfold checkR at h
  by_cases h1 : N < 0 ∨ 65536 < N
  · rw [if_pos h1] at h; omega
  rw [if_neg h1] at h
  by_cases h2 : badB cs N = true
  · rw [if_pos h2] at h; omega
  rw [if_neg h2] at h
  by_cases h3 : 65536 < cs.length
  · rw [if_pos h3] at h; omega
  refine ⟨by omega, by omega, fun l hl x hx => ?_, by omega⟩
  have h4 : badB cs N = false := by simpa using h2
  unfold badB at h4
  have h5 := List.any_eq_false.1 h4 l hl
  have h6 : l.any (fun x => !mayB x N) = false := by simpa using h5
  have h7 := List.any_eq_false.1 h6 x hx
  have h8 : mayB x N = true := by simpa using h7
  simp only [mayB, decide_eq_true_eq] at h8
  exact h8

/-- Where the loop of Check stands. -/
def ChkSt (w : World) (N : Int) (A : Option Addr) (n c : Nat) (w1 : World) (known : List Int) (k : Nat) (wr : World) : Prop :=
  VMap wr w1.heap.size k (litF known) ∧ wr.heap[w1.heap.size + 1]? = some (.cells #[.map (some w1.heap.size)] 53 (0, 0)) ∧ Below w1.heap.size w1 wr ∧ wr.heap[w.heap.size]? = some (.cells #[.int .i64 N, .slice A n c] 24 (0, 0))

set_option maxHeartbeats 4000000 in
set_option maxRecDepth 100000 in
theorem trailCheck_any (w : World) (N : Int) (A : Option Addr) (n c : Nat) (cs : List (List Int)) (A' : Option Addr) (m c' : Nat) (ts : List TStep) (hR : Rows2 w A n c cs) (hS : Steps w A' m c' ts) (hm : m ≤ 1000000) :
    Calls Try.prog 19 #[.agg #[.int .i64 N, .slice A n c], .slice A' m c'] w (RetIntBelow w (checkS N cs ts)) := by
  have hcap := hR.cap
  have hmax := hR.max
  unfold maxLen at hmax
  obtain ⟨W, hW⟩ : ∃ W, W = w.alloc (.cells #[.int .i64 N, .slice A n c] 24) := ⟨_, rfl⟩
  have hb : Below w.heap.size w W := by rw [hW]; exact alloc_lt _
  have b1 : W.heap[w.heap.size]? = some (.cells #[.int .i64 N, .slice A n c] 24 (0, 0)) := by rw [hW]; exact heap_alloc_new w _
  have call := check_any W N A n c cs (hR.belowLt hb)
  have c0 : W.cell? ⟨w.heap.size, 0, none⟩ = some (.int .i64 N) := by rw [cell_of_row _ _ _ _ _ _ b1]; rfl
  have c1 : W.cell? ⟨w.heap.size, 1, none⟩ = some (.slice A n c) := by rw [cell_of_row _ _ _ _ _ _ b1]; rfl
  have HR := Lib.hid (hR.belowLt hb)
  have HS := Lib.hid (hS.belowLt hb)
  have HB := Lib.hid hb
  have B1 := Lib.hid b1
  have HLR := Lib.hid hR.len
  have HLS := Lib.hid hS.len
  have hcS := hS.cap
  have hmS := hS.max
  unfold maxLen at hmS
  clear hR hS hb b1
  by_cases hck : checkR N cs = 0
  case neg =>
    have e : checkS N cs ts = checkR N cs := by unfold checkS; rw [if_pos hck]
    rw [e]
    have hne : (checkR N cs != 0) = true := by simpa using hck
    clear e hck
    generalize checkR N cs = er at *
    have CALL := Lib.hid call
    clear call
    go_enter Try.func19, Try.ntmps19
    go_upto_region 1 with (fail)
    rw [← hW]
    clear hW
    go_wp2_with (fail)
    (with_reducible refine CALL.out.mono ?_)
    rintro e w1 ⟨rfl, hb1⟩
    go_wp2
    go_ret
    exact ⟨rfl, below_then HB.out hb1⟩
  rw [hck] at call
  have CALL := Lib.hid call
  obtain ⟨hN0, hN1, hlits, hlen⟩ := checkR_zero hck
  have HLIT := Lib.hid hlits
  have HES : Hid (checkS N cs ts = if trailG N cs [] ts = true then 0 else 1) := by show checkS N cs ts = _; unfold checkS; rw [if_neg (by simp [hck])]
  have hn6 : n ≤ 65536 := by have := HLR.out; omega
  have hmm := @run_makeMap Try.prog
  clear call hck hlits hlen
  go_enter Try.func19, Try.ntmps19
  go_upto_region 1 with (fail)
  rw [← hW]
  clear hW
  go_wp2_with (fail)
  (with_reducible refine CALL.out.mono ?_)
  rintro e w1 ⟨rfl, hb1⟩
  have HB1 := Lib.hid hb1
  clear hb1 CALL c0 c1
  go_wp2
  have hst0 : ChkSt w N A n c w1 [] 0 ((w1.alloc (.map #[] 0)).alloc (.cells #[.map (some w1.heap.size)] 53)) := by
    refine ⟨((VMap.made w1).ext (g := litF []) (fun k => by unfold litF; simp)).keep (Below.heap_alloc _ _ _ (by simp)), ?_, below_then (alloc_lt _) (alloc_lt _), ?_⟩
    · have := heap_alloc_new (w1.alloc (.map #[] 0)) (.cells #[.map (some w1.heap.size)] 53)
      simpa using this
    · have hlt := Nat.lt_of_lt_of_le (lt_of_block B1.out) HB1.out.size
      rw [Below.heap_alloc _ _ _ (by simp; omega), Below.heap_alloc _ _ _ hlt, HB1.out.block _ (lt_of_block B1.out)]
      exact B1.out
  clear hmm
  go_loopw [19] (fun v wr => ∃ (k : Nat) (known : List Int), k ≤ m ∧ v = .int .i64 k ∧ ChkSt w N A n c w1 known k wr ∧ trailG N cs [] ts = trailG N cs known (ts.drop k)) (fun v _ => m - (intOf v).toNat)
  case atStart => exact ⟨0, [], Nat.zero_le _, rfl, hst0, rfl⟩
  case round =>
    clear hst0
    obtain ⟨k, known, hk, rfl, ⟨hv, hd, hb, hx⟩, hT⟩ := hrel
    have HT := Lib.hid hT
    clear hT
    by_cases hlt : k < m
    case neg =>
      have HE : Hid (checkS N cs ts = 0) := by
        show checkS N cs ts = 0
        rw [HES.out, HT.out, List.drop_of_length_le (by have := HLS.out; omega)]; rfl
      have HBB := Lib.hid (below_then (below_then HB.out HB1.out) hb)
      clear hv hd hx hb
      go_wp2
      go_ret
      exact ⟨by rw [HE.out]; rfl, HBB.out⟩
    obtain ⟨ad, rfl, hadS, hc1, hc2⟩ := HS.out.at_ hlt
    have hB := below_then HB1.out hb
    have e1 := (hB.cell (p := ad.add (k * 2)) (by rw [block_of_add]; exact hadS)).trans hc1
    have e2 := (hB.cell (p := ⟨(ad.add (k * 2)).block, (ad.add (k * 2)).off + 1, none⟩) (by show (ad.add (k * 2)).block < _; rw [block_of_add]; exact hadS)).trans hc2
    have hdr : ts.drop k = ts.getD k (0, 0) :: ts.drop (k + 1) := by
      rw [List.drop_eq_getElem_cons (by have := HLS.out; omega), List.getD_eq_getElem?_getD, List.getElem?_eq_getElem (by have := HLS.out; omega)]; rfl
    have HDR := Lib.hid hdr
    clear hadS hc1 hc2 hdr
    generalize ts.getD k (0, 0) = p at *
    obtain ⟨li, wy⟩ := p
    have HTT : Hid (trailG N cs [] ts = if stepOK N cs known (li, wy) then trailG N cs (li :: known) (ts.drop (k + 1)) else false) := by
      show trailG N cs [] ts = _
      rw [HT.out, HDR.out]; rfl
    obtain ⟨wa, hwa⟩ : ∃ wa, wa = wr.alloc (.cells #[.int .i64 li, .int .i64 wy] 39) := ⟨_, rfl⟩
    have hal : Below wr.heap.size wr wa := by rw [hwa]; exact alloc_lt _
    have s1 : wa.heap[wr.heap.size]? = some (.cells #[.int .i64 li, .int .i64 wy] 39 (0, 0)) := by rw [hwa]; exact heap_alloc_new wr _
    have s2 := (hal.block _ (lt_of_block hd)).trans hd
    have s3 := (hal.block _ (lt_of_block hx)).trans hx
    have s4 := hv.keep (hal.block _ hv.lt)
    have s5 := below_then hb (show Below wr.heap.size wr wa from hal)
    have p1 : wa.cell? ⟨wr.heap.size, 0, none⟩ = some (.int .i64 li) := by rw [cell_of_row _ _ _ _ _ _ s1]; rfl
    have p2 : wa.cell? ⟨wr.heap.size, 1, none⟩ = some (.int .i64 wy) := by rw [cell_of_row _ _ _ _ _ _ s1]; rfl
    have p3 := cell_of_one s2
    have p4 : wa.cell? ⟨w.heap.size, 0, none⟩ = some (.int .i64 N) := by rw [cell_of_row _ _ _ _ _ _ s3]; rfl
    have p5 : wa.cell? ⟨w.heap.size, 1, none⟩ = some (.slice A n c) := by rw [cell_of_row _ _ _ _ _ _ s3]; rfl
    have S1 := Lib.hid s1
    have S2 := Lib.hid s2
    have S3 := Lib.hid s3
    have S4 := Lib.hid s4
    have S5 := Lib.hid s5
    have HBA := Lib.hid (below_then (below_then HB.out HB1.out) s5)
    have HR2 := Lib.hid ((HR.out.belowLt HB1.out).belowLt s5)
    clear hv hd hx hb hB s1 s2 s3 s4 s5 hal HT HDR
    go_upto_region 8 with (fail)
    rw [← hwa]
    clear hwa e1 e2
    obtain ⟨bad, hbad⟩ : ∃ bad : Bool, bad = !decide (litOK N n known (li, wy)) := ⟨_, rfl⟩
    have HBAD := Lib.hid hbad
    clear hbad
    go_cut [59] (fun v wx => v = .bool bad ∧ wa = wx)
    case first =>
      have hbad := HBAD.out
      by_cases h1 : li = 0
      · have : bad = true := by rw [hbad]; simp [litOK, h1]
        subst this
        subst h1
        clear hbad
        go_wp2
        go_meet
        case rel => exact ⟨rfl, rfl⟩
      have d1 : (li == 0) = false := by simpa using h1
      by_cases h2 : N < li
      · have : bad = true := by rw [hbad, decide_eq_false (fun h : litOK N n known (li, wy) => absurd h.2.1 (show ¬ li ≤ N by omega))]; rfl
        subst this
        clear hbad
        go_wp2
        go_meet
        case rel => exact ⟨rfl, rfl⟩
      have d2 : decide (N < li) = false := by simpa using h2
      by_cases h3 : li < -N
      · have : bad = true := by rw [hbad, decide_eq_false (fun h : litOK N n known (li, wy) => absurd h.2.2.1 (show ¬ -N ≤ li by omega))]; rfl
        subst this
        clear hbad
        go_wp2
        go_meet
        case rel => exact ⟨rfl, rfl⟩
      have d3 : decide (li < -N) = false := by simpa using h3
      have call := known_any wa w1.heap.size k known li S4.out (by omega) (by omega)
      cases hkn : isKnown known li
      case true =>
        have : bad = true := by rw [hbad]; simp [litOK, hkn]
        subst this
        rw [hkn] at call
        have CALL := Lib.hid call
        clear hbad hkn call
        go_wp2_with (fail)
        (with_reducible refine CALL.out.mono ?_)
        rintro e w9 ⟨rfl, rfl⟩
        go_wp2_with (fail)
        go_meet
        case rel => exact ⟨rfl, rfl⟩
      rw [hkn] at call
      have CALL := Lib.hid call
      by_cases h5 : wy < -1
      · have : bad = true := by rw [hbad, decide_eq_false (fun h : litOK N n known (li, wy) => absurd h.2.2.2.2.1 (show ¬ -1 ≤ wy by omega))]; rfl
        subst this
        clear hbad hkn call
        go_wp2_with (fail)
        (with_reducible refine CALL.out.mono ?_)
        rintro e w9 ⟨rfl, rfl⟩
        go_wp2
        go_meet
        case rel => exact ⟨rfl, rfl⟩
      have d5 : decide (wy < -1) = false := by simpa using h5
      by_cases h6 : (n : Int) ≤ wy
      · have : bad = true := by rw [hbad, decide_eq_false (fun h : litOK N n known (li, wy) => absurd h.2.2.2.2.2 (show ¬ wy < n by omega))]; rfl
        subst this
        clear hbad hkn call
        go_wp2_with (fail)
        (with_reducible refine CALL.out.mono ?_)
        rintro e w9 ⟨rfl, rfl⟩
        go_wp2
        go_meet
        case rel => exact ⟨rfl, rfl⟩
      · have : bad = false := by rw [hbad, decide_eq_true (show litOK N n known (li, wy) from ⟨h1, by show li ≤ N; omega, by show -N ≤ li; omega, hkn, by show -1 ≤ wy; omega, by show wy < n; omega⟩)]; rfl
        subst this
        have d6 : decide ((n : Int) ≤ wy) = false := by simpa using h6
        clear hbad hkn call
        go_wp2_with (fail)
        (with_reducible refine CALL.out.mono ?_)
        rintro e w9 ⟨rfl, rfl⟩
        go_wp2
        go_meet
        case rel => exact ⟨rfl, rfl⟩
    obtain ⟨rfl, rfl⟩ := hcut
    cases bad
    case true =>
      have hno : ¬ litOK N n known (li, wy) := by have := HBAD.out; simpa using this.symm
      have HE : Hid (checkS N cs ts = 1) := by
        show checkS N cs ts = 1
        have hf : trailG N cs [] ts = false := by rw [HTT.out, if_neg (fun h => hno (by have := h.1; rwa [← HLR.out] at this))]
        rw [HES.out, hf]; rfl
      clear hno
      go_wp2
      go_ret
      exact ⟨by rw [HE.out]; rfl, HBA.out⟩
    have hok : litOK N n known (li, wy) := by have := HBAD.out; simpa using this.symm
    obtain ⟨o1, o2, o3, o4, o5, o6⟩ := id hok
    have o1' : li ≠ 0 := o1
    have o2' : li ≤ N := o2
    have o3' : -N ≤ li := o3
    have o5' : -1 ≤ wy := o5
    have o6' : wy < n := o6
    have HOK := Lib.hid hok
    clear hok o1 o2 o3 o4 o5 o6
    have cstep := fun w5 (hv5 : VMap w5 w1.heap.size k (litF known)) => step_any w5 w1.heap.size k known li hv5 (by omega) (by omega) (by omega)
    have CSTEP := Lib.hid cstep
    clear cstep
    by_cases hw0 : 0 ≤ wy
    case neg =>
      have HE : Hid (trailG N cs [] ts = trailG N cs (li :: known) (ts.drop (k + 1))) := by
        show trailG N cs [] ts = _
        rw [HTT.out, if_pos ⟨by rw [← HLR.out]; exact HOK.out, fun h => absurd h (by exact hw0)⟩]
      go_wp2_with (fail)
      (with_reducible refine (CSTEP.out wa S4.out).mono ?_)
      rintro e w5 ⟨rfl, hv5, hg5⟩
      have hst5 : ChkSt w N A n c w1 (li :: known) (k + 1) w5 := by
        refine ⟨hv5, ?_, S5.out.grown hg5 S5.out.size (by simp), ?_⟩
        · rw [hg5.block _ (lt_of_block S2.out) (by simp)]; exact S2.out
        · rw [hg5.block _ (lt_of_block S3.out) (by
            have := lt_of_block B1.out
            have := HB1.out.size
            simp; omega)]; exact S3.out
      have HST := Lib.hid hst5
      clear hst5 hv5 hg5
      go_wp2
      go_roundw
      case rel => exact ⟨k + 1, li :: known, by omega, by go_num, HST.out, HE.out⟩
      case measure => simp [intOf]; omega
    obtain ⟨wn, rfl⟩ := Int.eq_ofNat_of_zero_le hw0
    have hwn : wn < n := by omega
    obtain ⟨ae, B2, m2, k2, rfl, haS, hce, hri⟩ := HR2.out.at_ hwn
    have hlm : cs.getD wn [] ∈ cs := by
      rw [List.getD_eq_getElem?_getD, List.getElem?_eq_getElem (by have := HLR.out; omega)]; exact List.getElem_mem _
    have hlx := HLIT.out _ hlm
    have hby : stepOK N cs known (li, (wn : Int)) ↔ byOK (cs.getD wn []) li known = true := by
      constructor
      · intro h
        have := h.2 (by show (0 : Int) ≤ (wn : Int); omega)
        simpa using this
      · intro h
        exact ⟨by rw [← HLR.out]; exact HOK.out, fun _ => by simpa using h⟩
    have HBY := Lib.hid hby
    have call1 := containsI wa B2 m2 k2 (cs.getD wn []) li hri
    have ctest : ∀ w6, Below wa.heap.size wa w6 → Calls Try.prog 36 #[.slice B2 m2 k2, .func (.func 34) #[] #[.pointer (some ⟨wr.heap.size, 0, none⟩), .pointer (some ⟨w1.heap.size + 1, 0, none⟩)]] w6 (RetBoolBelow w6 ((cs.getD wn []).any (openB known li))) := fun w6 hb6 =>
      contains2 w6 B2 m2 k2 (cs.getD wn []) 34 (.pointer (some ⟨wr.heap.size, 0, none⟩)) (.pointer (some ⟨w1.heap.size + 1, 0, none⟩)) (openB known li) (hri.belowLt hb6)
        (fun x hx w7 hb7 => by
          have hb67 := below_then hb6 hb7
          exact open_any w7 x wr.heap.size (w1.heap.size + 1) w1.heap.size k known li wn ((hb67.block _ (lt_of_block S1.out)).trans S1.out) ((hb67.block _ (lt_of_block S2.out)).trans S2.out) (S4.out.keep (hb67.block _ S4.out.lt)) (by have := (hlx x hx).2; omega) (by have := (hlx x hx).2; omega)) (fun _ _ => by kernel_rfl)
    have CT := Lib.hid ctest
    have d0 : decide (0 ≤ wn) = true := by simp
    cases hin : decide (li ∈ cs.getD wn [])
    case false =>
      have HE : Hid (checkS N cs ts = 1) := by
        show checkS N cs ts = 1
        have hf : trailG N cs [] ts = false := by rw [HTT.out, if_neg (fun h => by have := HBY.out.1 h; unfold byOK at this; rw [hin] at this; cases this)]
        rw [HES.out, hf]; rfl
      rw [hin] at call1
      have CALL1 := Lib.hid call1
      clear call1 ctest CT hby hlm hlx hri haS hin
      go_wp2_with (fail)
      (with_reducible refine CALL1.out.mono ?_)
      rintro e w6 ⟨rfl, hb6⟩
      go_wp2_with (fail)
      go_ret
      exact ⟨by rw [HE.out]; rfl, below_then HBA.out hb6⟩
    rw [hin] at call1
    have CALL1 := Lib.hid call1
    clear call1 ctest hby hlm hlx hri haS
    cases han : (cs.getD wn []).any (openB known li)
    case true =>
      have HE : Hid (checkS N cs ts = 1) := by
        show checkS N cs ts = 1
        have hf : trailG N cs [] ts = false := by rw [HTT.out, if_neg (fun h => by have := HBY.out.1 h; unfold byOK at this; rw [hin, han] at this; cases this)]
        rw [HES.out, hf]; rfl
      rw [han] at CT
      clear hin han
      go_wp2_with (fail)
      (with_reducible refine CALL1.out.mono ?_)
      rintro e w6 ⟨rfl, hb6⟩
      go_wp2_with (fail)
      (with_reducible refine (CT.out w6 hb6).mono ?_)
      rintro e w7 ⟨rfl, hb7⟩
      go_wp2_with (fail)
      go_ret
      exact ⟨by rw [HE.out]; rfl, below_then (below_then HBA.out hb6) hb7⟩
    case false =>
      have HE : Hid (trailG N cs [] ts = trailG N cs (li :: known) (ts.drop (k + 1))) := by
        show trailG N cs [] ts = _
        rw [HTT.out, if_pos (HBY.out.2 (by unfold byOK; rw [hin, han]; rfl))]
      rw [han] at CT
      clear hin han
      go_wp2_with (fail)
      (with_reducible refine CALL1.out.mono ?_)
      rintro e w6 ⟨rfl, hb6⟩
      go_wp2_with (fail)
      (with_reducible refine (CT.out w6 hb6).mono ?_)
      rintro e w7 ⟨rfl, hb7⟩
      have hb67 := below_then hb6 hb7
      have t1 := (hb67.block _ (lt_of_block S1.out)).trans S1.out
      have t2 := (hb67.block _ (lt_of_block S2.out)).trans S2.out
      have t3 := (hb67.block _ (lt_of_block S3.out)).trans S3.out
      have t4 := S4.out.keep (hb67.block _ S4.out.lt)
      have t5 := below_then S5.out hb67
      have r1 : w7.cell? ⟨wr.heap.size, 0, none⟩ = some (.int .i64 li) := by rw [cell_of_row _ _ _ _ _ _ t1]; rfl
      have r3 := cell_of_one t2
      have T2 := Lib.hid t2
      have T3 := Lib.hid t3
      have T4 := Lib.hid t4
      have T5 := Lib.hid t5
      clear t1 t2 t3 t4 t5 hb67 hb6 hb7 CT CALL1
      go_wp2_with (fail)
      (with_reducible refine (CSTEP.out w7 T4.out).mono ?_)
      rintro e w5 ⟨rfl, hv5, hg5⟩
      have hst5 : ChkSt w N (some ae) n c w1 (li :: known) (k + 1) w5 := by
        refine ⟨hv5, ?_, T5.out.grown hg5 T5.out.size (by simp), ?_⟩
        · rw [hg5.block _ (lt_of_block T2.out) (by simp)]; exact T2.out
        · rw [hg5.block _ (lt_of_block T3.out) (by
            have := lt_of_block B1.out
            have := HB1.out.size
            simp; omega)]; exact T3.out
      have HST := Lib.hid hst5
      clear hst5 hv5 hg5
      go_wp2
      go_roundw
      case rel => exact ⟨k + 1, li :: known, by omega, by go_num, HST.out, HE.out⟩
      case measure => simp [intOf]; omega
end Go.Proofs.Ytelgabamdhaplaa
