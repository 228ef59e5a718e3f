/-
  total.Total$3 ('count'): the recursive closure.
-/
import Derived.Test.YtanbkdfffojpnaaTotState
import Derived.Deep.RegionHeld3
import Derived.Deep.DrawnRows
import Derived.Deep.DeepFit
import Derived.BigQuiet
import Derived.Deep.QuietTactic
import Derived.Deep.CutRange
import Derived.Deep.DeepCutAuto
namespace Go.Proofs.Ytanbkdfffojpnaa
open Go.RowKit

/-- The arguments of 'count' behind its own one. -/
abbrev cargs (p : Places) (v : Value) : Array Value := #[v, .pointer (some ⟨p.bf, 0, none⟩), .pointer (some ⟨p.bq, 0, none⟩), .pointer (some ⟨p.bm, 0, none⟩), .pointer (some ⟨p.bn, 0, none⟩), .pointer (some ⟨p.bk, 0, none⟩), .pointer (some ⟨p.bt, 0, none⟩)]

def Counted (p : Places) (w : World) (most : Nat) (next : Int) (css : List (List Int)) (xs : List Int) (e : Ending) (w' : World) : Prop :=
  ∃ A n c, e = .returned (.slice A n c) ∧ Step p w w' ∧
    (next + vars most xs.length ≤ 65537 → St p w' most (next + vars most xs.length) false (css ++ (cnt most xs next).2) ∧ Ints w' (Safe p w') A n c (cnt most xs next).1) ∧
    (65537 < next + vars most xs.length → ∃ next' css', St p w' most next' true css')

theorem Counted.q {p : Places} {w' : World} {most : Nat} {next v : Int} {css : List (List Int)} {X : Prop} (h1 : next + v ≤ 65537 → St p w' most (next + v) false css ∧ X) (h2 : 65537 < next + v → ∃ next' css', St p w' most next' true css') :
    w'.heap[p.bq]? = some (.cells #[.func (.func 45) #[] #[.pointer (some ⟨p.bf, 0, none⟩), .pointer (some ⟨p.bq, 0, none⟩), .pointer (some ⟨p.bm, 0, none⟩), .pointer (some ⟨p.bn, 0, none⟩), .pointer (some ⟨p.bk, 0, none⟩), .pointer (some ⟨p.bt, 0, none⟩)]] 53 (0, 0)) := by
  by_cases h : next + v ≤ 65537
  · exact (h1 h).1.q
  · obtain ⟨_, _, h⟩ := h2 (by omega)
    exact h.q
def SameSlice (w : World) (e : Ending) (w' : World) : Prop := ∃ A n c, e = .returned (.slice A n c) ∧ w = w'

set_option maxHeartbeats 400000 in
set_option maxRecDepth 100000 in
theorem count_full (p : Places) (w : World) (n c : Nat) (A : Option Addr) (most next : Int) (css : List (List Int)) (h : St p w most next true css) (hn : n ≤ 64) :
    Calls Try.prog 45 (cargs p (.slice A n c)) w (SameSlice w) := by
  have hf := cell_of_one h.f
  clear h
  by_cases h1 : n = 1
  · subst h1
    go_enter Try.func45, Try.ntmps45
    go_wp2
    go_ret
    exact ⟨_, _, _, rfl, rfl⟩
  · have h1' : ((n : Int) == 1) = false := by simp; omega
    clear h1
    go_enter Try.func45, Try.ntmps45
    go_wp2
    go_ret
    exact ⟨_, _, _, rfl, rfl⟩

set_option maxHeartbeats 400000 in
set_option maxRecDepth 100000 in
theorem count_one (p : Places) (w : World) (c : Nat) (A : Option Addr) (most : Nat) (next : Int) (css : List (List Int)) (x : Int) (h : St p w most next false css) (hI : Ints w (Safe p w) A 1 c [x]) (hn : next ≤ 65537) :
    Calls Try.prog 45 (cargs p (.slice A 1 c)) w (Counted p w most next css [x]) := by
  have hf := cell_of_one h.f
  have H := Lib.hid h
  have HI := Lib.hid hI
  clear h hI
  go_enter Try.func45, Try.ntmps45
  go_wp2
  go_ret
  refine ⟨_, _, _, rfl, Step.refl _ _, fun _ => ?_, fun hh => absurd hn (by simp [vars_one] at hh; omega)⟩
  rw [cnt_one (by simp), vars_one (by simp)]
  simpa using ⟨H.out, HI.out⟩

set_option maxHeartbeats 2000000 in
set_option maxRecDepth 100000 in
theorem count_two (p : Places) (hp : p.Ok) (N : Nat) 
    (ih : ∀ (w : World) (n c : Nat) (A : Option Addr) (most : Nat) (next : Int) (css : List (List Int)) (xs : List Int), xs.length ≤ N → 1 ≤ xs.length → xs.length ≤ 64 → St p w most next false css → Ints w (Safe p w) A n c xs →
      Small xs → 1 ≤ next → next ≤ 65537 → css.length + 4 * xs.length * xs.length ≤ 1000000 → 1 ≤ most → most ≤ 1099511627776 →
      Calls Try.prog 45 (cargs p (.slice A n c)) w (Counted p w most next css xs))
    (w : World) (n c : Nat) (A : Option Addr) (most : Nat) (next : Int) (css : List (List Int)) (xs : List Int) (hN : xs.length ≤ N + 1) (h2 : 2 ≤ xs.length) (h64 : xs.length ≤ 64) (hst : St p w most next false css) (hI : Ints w (Safe p w) A n c xs)
    (hs : Small xs) (hn1 : 1 ≤ next) (hn2 : next ≤ 65537) (hcl : css.length + 4 * xs.length * xs.length ≤ 1000000) (hm1 : 1 ≤ most) (hm2 : most ≤ 1099511627776) :
    Calls Try.prog 45 (cargs p (.slice A n c)) w (Counted p w most next css xs) := by
  have hl := hI.len
  have hcap := hI.cap
  have hmax := hI.max
  unfold maxLen at hmax
  have hf := cell_of_one hst.f
  have hq := cell_of_one hst.q
  unfold countV at hq
  have hn0 : ((n : Int) == 1) = false := by simp; omega
  have hnn : 2 ≤ n := by omega
  have hn6 : n ≤ 64 := by omega
  have hN1 : n ≤ N + 1 := by omega
  have HL := Lib.hid hl
  have IH := Lib.hid ih
  have HI := Lib.hid hI
  have HST := Lib.hid hst
  have HS := Lib.hid hs
  have HCL := Lib.hid hcl
  clear hl ih hI hst hs hcl hN h2 h64
  obtain ⟨ad, rfl, hadS, hadc⟩ := HI.out.at_ (k := 0) (by omega)
  clear hadc hadS
  go_enter Try.func45, Try.ntmps45
  obtain ⟨d, hh⟩ : ∃ d : Nat, (n : Int) / 2 = (d : Int) := ⟨n / 2, by omega⟩
  obtain ⟨many, hmany⟩ : ∃ many : Nat, many = min n most := ⟨_, rfl⟩
  have b1 : 1 ≤ d := by omega
  have b2 : d < n := by omega
  have b3 : (d : Int) ≤ (c : Int) := by omega
  have b4 : (d : Int) ≤ (n : Int) := by omega
  have b5 : (0 : Int) ≤ (d : Int) := by omega
  have b6 : ¬ c = d := by omega
  have hm64 : many ≤ n := by omega
  have hm11 : 1 ≤ many := by omega
  have HMANY := Lib.hid hmany
  clear hmany
  go_wp2
  have HH : Hid (d = n / 2) := by show d = n / 2; omega
  clear hh
  have l1 : (xs.take d).length = d := by rw [List.length_take]; have := HL.out; omega
  have l2 : (xs.drop d).length = n - d := by rw [List.length_drop]; have := HL.out; omega
  have hsq : 4 * d * d + 4 * (n - d) * (n - d) + 2 * (n - d + 1) * (d + 1) ≤ 4 * n * n := by
    have := sq_step d (n - d) (by omega) (by omega)
    rwa [show d + (n - d) = n by omega] at this
  have i1 : Ints w.drew (Safe p w.drew) (some ad) d c (xs.take d) := by
    have := (HI.out.step (Step.refl p w).drew).piece (i := 0) (j := d) (c' := c) rfl (by omega) (by omega) (by omega) (by unfold maxLen; omega)
    simpa [add_zero] using this
  have s1 : Small (xs.take d) := fun x hx => HS.out x (List.mem_of_mem_take hx)
  have s2 : Small (xs.drop d) := fun x hx => HS.out x (List.mem_of_mem_drop hx)
  have c1 : css.length + 4 * d * d ≤ 1000000 := by have := HCL.out; rw [← HL.out] at this; omega
  have call1 := IH.out w.drew d c (some ad) most next css (xs.take d) (by omega) (by omega) (by omega) HST.out.drew i1 s1 hn1 hn2 (by rw [l1]; exact c1) hm1 hm2
  have L1 := Lib.hid l1
  have L2 := Lib.hid l2
  have S2 := Lib.hid s2
  have SQ := Lib.hid hsq
  have CALL1 := Lib.hid call1
  clear l1 l2 s1 s2 hsq i1 c1 call1
  go_region_held3 (fun w' => w'.cell? ⟨p.bq, 0, none⟩ = some (.func (.func 45) #[] #[.pointer (some ⟨p.bf, 0, none⟩), .pointer (some ⟨p.bq, 0, none⟩), .pointer (some ⟨p.bm, 0, none⟩), .pointer (some ⟨p.bn, 0, none⟩), .pointer (some ⟨p.bk, 0, none⟩), .pointer (some ⟨p.bt, 0, none⟩)])) (first | go_keep | (exact hq1))
    (first | (go_at_call 45; (with_reducible refine CALL1.out.mono ?_); rintro e w1 ⟨A1, n1, c1, rfl, hs1, hok1, hov1⟩; have hq1 := cell_of_one (Counted.q hok1 hov1)))
  rw [L1.out] at hok1 hov1
  have HOK1 := Lib.hid hok1
  have HOV1 := Lib.hid hov1
  clear hok1 hov1 CALL1 hq hf
  go_wp2
  have hv : vars most n = vars most d + vars most (n - d) + many := by
    have := vars_two (most := most) (n := n) (by omega)
    rwa [← HH.out, ← HMANY.out] at this
  have HV := Lib.hid hv
  clear hv
  by_cases hle1 : next + vars most d ≤ 65537
  case neg =>
    obtain ⟨next', css', hst1⟩ := HOV1.out (by omega)
    have call2 := fun A => count_full p w1.drew (n - d) (c - d) A most next' css' hst1.drew (by omega)
    have CALL2 := Lib.hid call2
    have HST2 := Lib.hid hst1
    clear call2 hst1
    go_region_held3 (fun w' => w'.cell? ⟨p.bq, 0, none⟩ = some (.func (.func 45) #[] #[.pointer (some ⟨p.bf, 0, none⟩), .pointer (some ⟨p.bq, 0, none⟩), .pointer (some ⟨p.bm, 0, none⟩), .pointer (some ⟨p.bn, 0, none⟩), .pointer (some ⟨p.bk, 0, none⟩), .pointer (some ⟨p.bt, 0, none⟩)])) (first | go_keep | (exact hq1))
      (first | (go_at_call 45; (with_reducible refine (CALL2.out _).mono ?_); rintro e w2 ⟨A2, n2, c2, rfl, rfl⟩))
    have cf := cell_of_one HST2.out.f
    have ff := free_of_one HST2.out.f
    have cm := cell_of_one HST2.out.m
    go_upto_region 6 with (fail)
    go_cut [12] (fun v wx => v = .int .i64 many ∧ w1.drew = wx)
    case first =>
      by_cases hmm : n ≤ most
      all_goals
        go_wp2
        go_meet
        case rel => exact ⟨by have := HMANY.out; go_num, rfl⟩
    case rest =>
      obtain ⟨rfl, rfl⟩ := hcut
      go_wp2
      go_ret
      refine ⟨_, _, _, rfl, ?_, fun hle => absurd hle (by have := HV.out; rw [← HL.out]; omega), fun _ => ⟨_, _, HST2.out.drew.setFull hp true⟩⟩
      exact ((Step.refl p w).drew.trans hs1.drew).setCell (.inl ⟨by have := hp.m; have := hp.n; have := hp.c; have := hp.k; have := hp.t; have := hp.f; simp; omega, by have := hp.q; have := hp.e; simp; omega⟩) _
  have hle1' : next + vars most d ≤ 65537 := hle1
  obtain ⟨hst1, hia1⟩ := HOK1.out hle1'
  have c2l : (css ++ (cnt most (xs.take d) next).2).length + 4 * (n - d) * (n - d) ≤ 1000000 := by
    have h1 := cnt_many most _ (xs.take d) next (Nat.le_refl _)
    have h2 := HCL.out
    have h3 := SQ.out
    rw [← HL.out] at h2
    rw [L1.out] at h1
    rw [List.length_append]
    omega
  have i2 : Ints w1.drew (Safe p w1.drew) (some (ad.add d)) (n - d) (c - d) (xs.drop d) := by
    have := (HI.out.step ((Step.refl p w).drew.trans hs1.drew)).piece (i := d) (j := n) (c' := c - d) rfl (by omega) (by omega) (by omega) (by unfold maxLen; omega)
    rwa [List.take_of_length_le (by rw [L2.out]; exact Nat.le_refl _)] at this
  have call2 := IH.out w1.drew (n - d) (c - d) (some (ad.add d)) most (next + vars most d) (css ++ (cnt most (xs.take d) next).2) (xs.drop d) (by rw [L2.out]; omega) (by rw [L2.out]; omega) (by rw [L2.out]; omega) hst1.drew i2 S2.out (by omega) hle1'
    (by rw [L2.out]; exact c2l) hm1 hm2
  have CALL2 := Lib.hid call2
  have HIA1 := Lib.hid hia1
  have HLE1 := Lib.hid hle1'
  clear call2 i2 c2l hia1 hst1 hle1 hle1'
  go_region_held3 (fun w' => w'.cell? ⟨p.bq, 0, none⟩ = some (.func (.func 45) #[] #[.pointer (some ⟨p.bf, 0, none⟩), .pointer (some ⟨p.bq, 0, none⟩), .pointer (some ⟨p.bm, 0, none⟩), .pointer (some ⟨p.bn, 0, none⟩), .pointer (some ⟨p.bk, 0, none⟩), .pointer (some ⟨p.bt, 0, none⟩)])) (first | go_keep | (exact hq2) | (exact hq1))
    (first | (go_at_call 45; (with_reducible refine CALL2.out.mono ?_); rintro e w2 ⟨A2, n2, c2, rfl, hs2, hok2, hov2⟩; have hq2 := cell_of_one (Counted.q hok2 hov2)))
  rw [L2.out] at hok2 hov2
  have HOK2 := Lib.hid hok2
  have HOV2 := Lib.hid hov2
  clear hok2 hov2 CALL2 hq1 hq2
  by_cases hle2 : next + vars most d + vars most (n - d) ≤ 65537
  case neg =>
    obtain ⟨next', css', hst2⟩ := HOV2.out (by omega)
    have HST2 := Lib.hid hst2
    clear hst2
    have cf := cell_of_one HST2.out.f
    have ff := free_of_one HST2.out.f
    have cm := cell_of_one HST2.out.m
    go_upto_region 6 with (fail)
    go_cut [12] (fun v wx => v = .int .i64 many ∧ w2 = wx)
    case first =>
      by_cases hmm : n ≤ most
      all_goals
        go_wp2
        go_meet
        case rel => exact ⟨by have := HMANY.out; go_num, rfl⟩
    case rest =>
      obtain ⟨rfl, rfl⟩ := hcut
      go_wp2
      go_ret
      refine ⟨_, _, _, rfl, ?_, fun hle => absurd hle (by have := HV.out; rw [← HL.out]; omega), fun _ => ⟨_, _, HST2.out.setFull hp true⟩⟩
      exact ((Step.refl p w).drew.trans (hs1.drew.trans hs2)).setCell (.inl ⟨by have := hp.m; have := hp.n; have := hp.c; have := hp.k; have := hp.t; have := hp.f; simp; omega, by have := hp.q; have := hp.e; simp; omega⟩) _
  obtain ⟨hst2, hib2⟩ := HOK2.out hle2
  have HST2 := Lib.hid hst2
  have HIB2 := Lib.hid hib2
  have cf := cell_of_one hst2.f
  have ff := free_of_one hst2.f
  have cm := cell_of_one hst2.m
  have cn := cell_of_one hst2.n
  have HV2 := Lib.hid hle2
  obtain ⟨nx, hnx⟩ : ∃ nx : Int, nx = next + vars most d + vars most (n - d) := ⟨_, rfl⟩
  rw [← hnx] at cn
  have hnx1 : 1 ≤ nx := by omega
  have hnx2 : nx ≤ 65537 := by omega
  have HNX := Lib.hid hnx
  clear hst2 hib2 hle2 hnx
  go_upto_region 6 with (fail)
  go_cut [12] (fun v wx => v = .int .i64 many ∧ w2 = wx)
  case first =>
    by_cases hmm : n ≤ most
    all_goals
      go_wp2
      go_meet
      case rel => exact ⟨by have := HMANY.out; go_num, rfl⟩
  obtain ⟨rfl, rfl⟩ := hcut
  by_cases hle3 : nx + many ≤ 65537
  case neg =>
    go_wp2
    go_ret
    refine ⟨_, _, _, rfl, ?_, fun hle => absurd hle (by have := HV.out; have := HNX.out; rw [← HL.out]; omega), fun _ => ⟨_, _, HST2.out.setFull hp true⟩⟩
    exact ((Step.refl p w).drew.trans (hs1.drew.trans hs2)).setCell (.inl ⟨by have := hp.m; have := hp.n; have := hp.c; have := hp.k; have := hp.t; have := hp.f; simp; omega, by have := hp.q; have := hp.e; simp; omega⟩) _
  have hle3' : nx + many ≤ 65537 := hle3
  have hdec : decide (65537 < nx + (many : Int)) = false := by simp; omega
  obtain ⟨i0, hi, hz0, hz1, hz2⟩ := info_parts int_info
  have hszB := HST2.out.size
  obtain ⟨pm, pn, pc, pk, pt, pf, pq, pe⟩ := id hp
  go_wp2_with (first
    | (at_make
       refine wpList_make_full _ rfl _ _ _ rfl p.B1 3 i0 _ 1 Try.underlying22 hi hz0 hz1 .i64 .i64 _ _ many (by rfl) (by rfl) (by rfl) (by rfl) (by rw [hz2]; omega) (by simp only [maxLen]; omega) (by simp; omega) ?_
       intro w3 hown3 hg3))
  have hst3 := HST2.out.setFull hp false
  have hstep3 : Step p w2 (w2.setCell ⟨p.bf, 0, none⟩ (.bool false)) := (Step.refl p w2).setCell (.inl ⟨by simp; omega, by simp; omega⟩) _
  have hblk3 := Blk.of_own hown3
  have hsz3 : (w2.setCell ⟨p.bf, 0, none⟩ (.bool false)).heap.size = w2.heap.size := by simp [World.setCell]
  rw [hsz3] at hblk3
  have hgB : p.B1 ≤ w2.heap.size := hszB
  have hgn : (w2.setCell ⟨p.bf, 0, none⟩ (.bool false)).heap.size ≤ w2.heap.size := by rw [hsz3]; exact Nat.le_refl _
  have hcn3 := (hg3.block p.bn (by rw [hsz3]; omega) (by simp)).trans hst3.n
  have hg3' : (w2.setCell ⟨p.bf, 0, none⟩ (.bool false)).grownBy w3 (some p.bn) := ⟨hg3.os, hg3.tape, hg3.output, hg3.size, fun k hk _ => hg3.block k hk (by simp)⟩
  rw [← HNX.out] at hst3 hcn3
  have HSTEP3 := Lib.hid hstep3
  have HST3 := Lib.hid hst3
  have hb30 : Blk w3 w2.heap.size 3 ((fresh nx 0).map (Value.int .i64) ++ List.replicate (many - 0) (Value.int .i64 0)).toArray := by
    have e : (madeCells (Value.cells (.int .i64 0)) (many * 1)).toList = ((fresh nx 0).map (Value.int .i64) ++ List.replicate (many - 0) (Value.int .i64 0)) := by
      show (madeCells #[.int .i64 0] (many * 1)).toList = _
      rw [toList_madeCells_one]; simp [fresh]
    rw [e] at hblk3
    exact hblk3
  generalize hW3 : w2.setCell ⟨p.bf, 0, none⟩ (.bool false) = W3 at *
  generalize hG : w2.heap.size = g at *
  clear hW3 hstep3 hst3 hown3 hg3 hblk3 hsz3 cf ff cm cn hi hz0 hz1 hz2 hle3 hszB
  go_loopw [55] (fun v wr => ∃ k : Nat, k ≤ many ∧ v = .int .i64 k ∧ Blk wr g 3 ((fresh nx k).map (Value.int .i64) ++ List.replicate (many - k) (Value.int .i64 0)).toArray ∧ W3.grownBy wr (some p.bn) ∧
      wr.heap[p.bn]? = some (.cells #[.int .i64 (nx + k)] 3 (0, 0))) (fun v _ => many - (intOf v).toNat)
  case atStart => exact ⟨0, Nat.zero_le _, rfl, hb30, hg3', by simpa using hcn3⟩
  case round =>
    obtain ⟨k, hk, rfl, hblk, hgr, hnb⟩ := hrel
    have hcn := cell_of_one hnb
    have hcf := free_of_one hnb
    by_cases hlt : k < many
    · have hfz := hblk.frozen k
      obtain ⟨u, hu⟩ : ∃ u, wr.cell? ⟨g, k, none⟩ = some u := by
        rw [hblk.cell k]
        exact ⟨_, Array.getElem?_eq_getElem (by simp [fresh_len]; omega)⟩
      have hne1 : ¬ g = p.bn := by omega
      have hne2 : ¬ p.bn = g := by omega
      have hb' := (hblk.set_ k (.int .i64 (nx + k))).far (q := ⟨p.bn, 0, none⟩) (by exact hne1) (.int .i64 (nx + ((k + 1 : Nat) : Int)))
      rw [fill_snoc nx k many hlt] at hb'
      have hg' := grown_setCell (grown_setCell hgr (q := ⟨g, k, none⟩) (.inr (by simp; omega)) (.int .i64 (nx + k))) (q := ⟨p.bn, 0, none⟩) (.inl rfl) (.int .i64 (nx + ((k + 1 : Nat) : Int)))
      have hn' : ((wr.setCell ⟨g, k, none⟩ (.int .i64 (nx + k))).setCell ⟨p.bn, 0, none⟩ (.int .i64 (nx + ((k + 1 : Nat) : Int)))).heap[p.bn]? = some (.cells #[.int .i64 (nx + ((k + 1 : Nat) : Int))] 3 (0, 0)) :=
        one_setCell ((Below.heap_setCell _ _ _ _ hne2).trans hnb)
      rw [show nx + ((k + 1 : Nat) : Int) = nx + k + 1 by omega] at hb' hg' hn'
      have HB := Lib.hid hb'
      have HG := Lib.hid hg'
      have HN' := Lib.hid hn'
      clear hb' hg' hn' hblk hgr hnb
      go_wp2
      go_roundw
      case rel => exact ⟨k + 1, by omega, by go_num, HB.out, HG.out, by rw [HN'.out]; congr 2; go_num⟩
      case measure => simp [intOf]; omega
    · obtain rfl : many = k := by omega
      have hla := HIA1.out.len
      have hlb := HIB2.out.len
      have hla' := cnt_len most (xs.take d) next
      have hlb' := cnt_len most (xs.drop d) (next + vars most d)
      have hSa : Small (cnt most (xs.take d) next).1 := cnt_small (fun x hx => HS.out x (List.mem_of_mem_take hx)) hn1 (by rw [L1.out]; exact HLE1.out)
      have hSb : Small (cnt most (xs.drop d) (next + vars most d)).1 := cnt_small S2.out (by omega) (by rw [L2.out]; exact HV2.out)
      have hSo := fresh_small hnx1 hle3'
      have hstL := HST3.out.grownNext hp hgr hnb
      have hstep2 : Step p w2 wr := HSTEP3.out.trans (Step.grownNext hp hgr)
      have hstepL : Step p w wr := ((Step.refl p w).drew.trans (hs1.drew.trans hs2)).trans hstep2
      have hIa := (HIA1.out.step ((Step.refl p w1).drew.trans hs2)).step hstep2
      have hIb := HIB2.out.step hstep2
      have hIo : Ints wr (Safe p wr) (some ⟨g, 0, none⟩) many many (fresh nx many) := Ints.of_blk (by simpa using hblk) (by rw [fresh_len]) (by simp only [maxLen]; omega) hgB
      have hbound : (css ++ (cnt most (xs.take d) next).2 ++ (cnt most (xs.drop d) (next + vars most d)).2).length + 2 * (n2 + 1) * (n1 + 1) ≤ 1000000 := by
        have q1 := cnt_many most _ (xs.take d) next (Nat.le_refl _)
        have q2 := cnt_many most _ (xs.drop d) (next + vars most d) (Nat.le_refl _)
        have q3 := HCL.out
        have q4 := SQ.out
        rw [← HL.out] at q3
        rw [L1.out] at q1 hla'
        rw [L2.out] at q2 hlb'
        have q5 : 2 * (n2 + 1) * (n1 + 1) ≤ 2 * (n - d + 1) * (d + 1) := Nat.mul_le_mul (by omega) (by omega)
        simp only [List.length_append]
        omega
      rw [L1.out] at hla'
      rw [L2.out] at hlb'
      have hn1d : n1 ≤ 64 := by omega
      have hn2d : n2 ≤ 64 := by omega
      have hfin : cnt most xs next = (fresh nx many, (cnt most (xs.take d) next).2 ++ (cnt most (xs.drop d) (next + vars most d)).2 ++ allC (cnt most (xs.take d) next).1 (cnt most (xs.drop d) (next + vars most d)).1 (fresh nx many) (n1 + 1)) := by
        have := cnt_two (most := most) (xs := xs) (next := next) (by rw [← HL.out]; omega)
        rwa [← HL.out, ← HH.out, ← HNX.out, ← HMANY.out, ← hla] at this
      have hvn : next + vars most xs.length = nx + many := by rw [← HL.out, HV.out, HNX.out]; omega
      have HFIN := Lib.hid hfin
      have HVN := Lib.hid hvn
      rw [List.append_assoc css] at hstL hbound
      generalize (cnt most (xs.take d) next).2 ++ (cnt most (xs.drop d) (next + vars most d)).2 = cab at *
      have HLA := Lib.hid hla
      have HLB := Lib.hid hlb
      have HSTL := Lib.hid hstL
      have HSTEPL := Lib.hid hstepL
      have HIA := Lib.hid hIa
      have HIB := Lib.hid hIb
      have HIO := Lib.hid hIo
      have HSA := Lib.hid hSa
      have HSB := Lib.hid hSb
      have HSO := Lib.hid hSo
      have HBD := Lib.hid hbound
      clear hla hlb hla' hlb' hSa hSb hSo hstL hstep2 hstepL hIa hIb hIo hbound hfin hvn HOK1 HOV1 HOK2 HOV2 HST2 HST3 HIA1 HIB2 SQ HCL S2 HS HSTEP3 hg3' hcn3 hb30 hblk hgr hnb hcn hcf IH HI HST hs1 hs2 HV HNX HMANY L1 L2 HH HLE1 HV2
      generalize (cnt most (xs.take d) next).1 = a at *
      generalize (cnt most (xs.drop d) (next + vars most d)).1 = b at *
      generalize fresh nx many = outs at *
      obtain ⟨wL, rfl⟩ : ∃ wL : World, wL = wr := ⟨_, rfl⟩
      go_wp2
      go_loopw [68] (fun v wo => ∃ i : Nat, i ≤ n1 + 1 ∧ v = .int .i64 i ∧ St p wo most (nx + many) false (css ++ cab ++ allC a b outs i) ∧ Step p wL wo) (fun v _ => n1 + 1 - (intOf v).toNat)
      case atStart => exact ⟨0, Nat.zero_le _, rfl, by simpa [allC] using HSTL.out, Step.refl _ _⟩
      case round =>
        obtain ⟨i, hi, rfl, hsto, hso⟩ := hrel
        by_cases hilt : i < n1 + 1
        case neg =>
          have HSTO := Lib.hid hsto
          have HSO2 := Lib.hid hso
          clear hsto hso
          obtain rfl : n1 + 1 = i := by omega
          go_wp2
          go_ret
          refine ⟨_, _, _, rfl, HSTEPL.out.trans HSO2.out, fun _ => ?_, fun hh => absurd hh (by rw [HVN.out]; omega)⟩
          rw [HVN.out, HFIN.out]
          exact ⟨by simpa [List.append_assoc] using HSTO.out, HIO.out.step HSO2.out⟩
        case pos =>
          obtain ⟨wo, rfl⟩ : ∃ wo : World, wo = wr := ⟨_, rfl⟩
          have HSTO := Lib.hid hsto
          have HSO2 := Lib.hid hso
          clear hsto hso
          have hdi : decide ((i : Int) < (n1 : Int) + 1) = true := by simp; omega
          go_wp2
          clear hdi
          go_loopw [74] (fun v wi => ∃ k : Nat, k ≤ n2 + 1 ∧ v = .int .i64 k ∧ St p wi most (nx + many) false (css ++ cab ++ allC a b outs i ++ rowC a b outs i k) ∧ Step p wL wi) (fun v _ => n2 + 1 - (intOf v).toNat)
          case atStart => exact ⟨0, Nat.zero_le _, rfl, by simpa [rowC] using HSTO.out, HSO2.out⟩
          case round =>
            obtain ⟨k, hk, rfl, hsti, hsi⟩ := hrel
            have HST9 := Lib.hid hsti
            have HSI := Lib.hid hsi
            clear hsti hsi
            by_cases hklt : k < n2 + 1
            case neg =>
              obtain rfl : n2 + 1 = k := by omega
              have HE : Hid (css ++ cab ++ allC a b outs i ++ rowC a b outs i (n2 + 1) = css ++ cab ++ allC a b outs (i + 1)) := by
                show css ++ cab ++ allC a b outs i ++ rowC a b outs i (n2 + 1) = css ++ cab ++ allC a b outs (i + 1)
                rw [HLB.out]; simp only [allC, List.append_assoc]
              go_wp2
              go_roundw
              case rel => exact ⟨i + 1, by omega, by go_num, by have := HST9.out; rwa [HE.out] at this, HSI.out⟩
              case measure => simp [intOf]; omega
            case pos =>
              have hlen9 : (css ++ cab ++ allC a b outs i ++ rowC a b outs i k).length ≤ 1000000 := by
                have q1 := HBD.out
                have q2 := loop_len a b outs (i := i) (k := k) (by have := HLA.out; omega) (by have := HLB.out; omega)
                rw [← HLA.out, ← HLB.out] at q2
                simp only [List.length_append] at q1 ⊢
                omega
              have HL9 := Lib.hid hlen9
              have HLO : Hid (outs.length = many) := HIO.out.len.symm
              clear hlen9
              by_cases h0 : 0 < i + k
              case neg =>
                have h2 : i + k < many := by omega
                have hk0 := HST9.out.cellK
                have ht0 := HST9.out.cellT
                have hszD : p.B1 ≤ wr.drew.heap.size := HST9.out.size
                have HSTI := Lib.hid HST9.out.drew
                have HIA1 := Lib.hid (HIA.out.step HSI.out.drew)
                have HIB1 := Lib.hid (HIB.out.step HSI.out.drew)
                have HIO1 := Lib.hid (HIO.out.step HSI.out.drew)
                have HLEN : Hid ((css ++ cab ++ allC a b outs i ++ rowC a b outs i k).length ≤ 16777216) := by have := HL9.out; show _ ≤ 16777216; omega
                have HP : Hid (pairC a b outs i k = [downC a b outs i k]) := pairC_down HLO.out h0 h2
                go_wp2
                have ww1 : IntKind.i64.wrap ((i : Int) - 1) = (i : Int) - 1 := IntWalk.i64_in _ (by omega)
                have ww2 : IntKind.i64.wrap ((k : Int) - 1) = (k : Int) - 1 := IntWalk.i64_in _ (by omega)
                have ww3 : IntKind.i64.wrap ((i : Int) + (k : Int) - 1) = (i : Int) + (k : Int) - 1 := IntWalk.i64_in _ (by omega)
                go_region_held3 (fun w' => w'.cell? ⟨p.bk, 0, none⟩ = some (.func (.func 43) #[] #[.pointer (some ⟨p.bc, 0, none⟩)]) ∧ w'.cell? ⟨p.bt, 0, none⟩ = some (.func (.func 44) #[] #[])) (first | (exact ⟨hkG, htG⟩) | (exact ⟨hkD, htD⟩) | (exact ⟨hk0, ht0⟩) | go_keep)
                  (first
                    | (go_at_call 46; (with_reducible refine (at_any _ (Safe p _) n1 c1 A1 a _ HIA1.out).mono ?_); rintro e wA ⟨C1, m1', k1', rfl, hC1, rfl⟩)
                    | (go_at_call 46; (with_reducible refine (at_any _ (Safe p _) n2 c2 A2 b _ HIB1.out).mono ?_); rintro e wC ⟨C2, m2', k2', rfl, hC2, rfl⟩)
                    | (go_at_call 46; (with_reducible refine (at_any _ (Safe p _) many many (some ⟨g, 0, none⟩) outs _ HIO1.out).mono ?_); rintro e wE ⟨B3, m3, k3, rfl, hB3, rfl⟩)
                    | (go_at_call 44; (with_reducible refine (not_st p _ m3 k3 B3 _ hB3 (HSO.out.atL _) hszD).mono ?_); rintro e wD ⟨C3, m3', k3', rfl, hC3, hbD⟩; have hstD := HSTI.out.below hbD; have hkD := hstD.cellK; have htD := hstD.cellT; have hC1D := hC1.step (Step.of_below hbD); have hC2D := hC2.step (Step.of_below hbD); have HSTD := Lib.hid hstD; have HBD2 := Lib.hid hbD; clear hstD hbD)
                    | (go_at_call 43; (with_reducible refine (clause_st p hp _ most (nx + many) false _ m1' k1' m2' k2' m3' k3' C1 C2 C3 _ _ _ HSTD.out HLEN.out hC1D hC2D hC3 (atL_len _ _) (atL_len _ _) (notL_len _)).mono ?_); rintro e wG ⟨rfl, hstG, hstepG⟩; have hkG := hstG.cellK; have htG := hstG.cellT; have HSTG := Lib.hid hstG; have HSG := Lib.hid hstepG; clear hstG hstepG))
                clear ww1 ww2 ww3 hk0 ht0
                go_wp2
                go_roundw
                case rel => exact ⟨k + 1, by omega, by go_num, by have := HSTG.out; rw [rowC, HP.out, ← List.append_assoc]; exact this, HSI.out.drew.trans ((Step.of_below HBD2.out).trans HSG.out)⟩
                case measure => simp [intOf]; omega
              by_cases h1 : i + k ≤ many
              case neg =>
                have HP : Hid (pairC a b outs i k = []) := pairC_none HLO.out h1
                go_wp2
                go_roundw
                case rel => exact ⟨k + 1, by omega, by go_num, by have := HST9.out; rw [rowC, HP.out, List.append_nil]; exact this, HSI.out⟩
                case measure => simp [intOf]; omega
              by_cases h2 : i + k < many
              case neg =>
                have hk0 := HST9.out.cellK
                have ht0 := HST9.out.cellT
                have hszD : p.B1 ≤ wr.drew.heap.size := HST9.out.size
                have HSTI := Lib.hid HST9.out.drew
                have HIA1 := Lib.hid (HIA.out.step HSI.out.drew)
                have HIB1 := Lib.hid (HIB.out.step HSI.out.drew)
                have HIO1 := Lib.hid (HIO.out.step HSI.out.drew)
                have HLEN : Hid ((css ++ cab ++ allC a b outs i ++ rowC a b outs i k).length ≤ 16777216) := by have := HL9.out; show _ ≤ 16777216; omega
                have HP : Hid (pairC a b outs i k = [upC a b outs i k]) := pairC_up HLO.out h0 h1 h2
                go_wp2
                have ww1 : IntKind.i64.wrap ((i : Int) - 1) = (i : Int) - 1 := IntWalk.i64_in _ (by omega)
                have ww2 : IntKind.i64.wrap ((k : Int) - 1) = (k : Int) - 1 := IntWalk.i64_in _ (by omega)
                have ww3 : IntKind.i64.wrap ((i : Int) + (k : Int) - 1) = (i : Int) + (k : Int) - 1 := IntWalk.i64_in _ (by omega)
                go_region_held3 (fun w' => w'.cell? ⟨p.bk, 0, none⟩ = some (.func (.func 43) #[] #[.pointer (some ⟨p.bc, 0, none⟩)]) ∧ w'.cell? ⟨p.bt, 0, none⟩ = some (.func (.func 44) #[] #[])) (first | (exact ⟨hkF, htF⟩) | (exact ⟨hkD, htD⟩) | (exact ⟨hkB, htB⟩) | (exact ⟨hk0, ht0⟩) | go_keep)
                  (first
                    | (go_at_call 46; (with_reducible refine (at_any _ (Safe p _) n1 c1 A1 a _ HIA1.out).mono ?_); rintro e wA ⟨B1, m1, k1, rfl, hB1, rfl⟩)
                    | (go_at_call 44; (with_reducible refine (not_st p _ m1 k1 B1 _ hB1 (HSA.out.atL _) hszD).mono ?_); rintro e wB ⟨C1, m1', k1', rfl, hC1, hbB⟩; have hstB := HSTI.out.below hbB; have hkB := hstB.cellK; have htB := hstB.cellT; have hIbB := HIB1.out.step (Step.of_below hbB); have hIoB := HIO1.out.step (Step.of_below hbB); have HSTB := Lib.hid hstB; have HBB := Lib.hid hbB; clear hstB hbB)
                    | (go_at_call 46; (with_reducible refine (at_any _ (Safe p _) n2 c2 A2 b _ hIbB).mono ?_); rintro e wC ⟨B2, m2, k2, rfl, hB2, rfl⟩)
                    | (go_at_call 44; (with_reducible refine (not_st p _ m2 k2 B2 _ hB2 (HSB.out.atL _) HSTB.out.size).mono ?_); rintro e wD ⟨C2, m2', k2', rfl, hC2, hbD⟩; have hstD := HSTB.out.below hbD; have hkD := hstD.cellK; have htD := hstD.cellT; have hC1D := hC1.step (Step.of_below hbD); have hIoD := hIoB.step (Step.of_below hbD); have HSTD := Lib.hid hstD; have HBD2 := Lib.hid hbD; clear hstD hbD)
                    | (go_at_call 46; (with_reducible refine (at_any _ (Safe p _) many many (some ⟨g, 0, none⟩) outs _ hIoD).mono ?_); rintro e wE ⟨B3, m3, k3, rfl, hB3, rfl⟩)
                    | (go_at_call 43; (with_reducible refine (clause_st p hp _ most (nx + many) false _ m1' k1' m2' k2' m3 k3 C1 C2 B3 _ _ _ HSTD.out HLEN.out hC1D hC2 hB3 (notL_len _) (notL_len _) (atL_len _ _)).mono ?_); rintro e wF ⟨rfl, hstF, hstepF⟩; have hkF := hstF.cellK; have htF := hstF.cellT; have HSTF := Lib.hid hstF; have HSF := Lib.hid hstepF; clear hstF hstepF))
                clear ww1 ww2 ww3 hk0 ht0
                go_wp2
                go_roundw
                case rel => exact ⟨k + 1, by omega, by go_num, by have := HSTF.out; rw [rowC, HP.out, ← List.append_assoc]; exact this, HSI.out.drew.trans ((Step.of_below HBB.out).trans ((Step.of_below HBD2.out).trans HSF.out))⟩
                case measure => simp [intOf]; omega
              case pos =>
                have HP : Hid (pairC a b outs i k = [upC a b outs i k] ++ [downC a b outs i k]) := pairC_both HLO.out h0 h2
                have hk0 := HST9.out.cellK
                have ht0 := HST9.out.cellT
                have hszD : p.B1 ≤ wr.drew.heap.size := HST9.out.size
                have HSTI := Lib.hid HST9.out.drew
                have HIA1 := Lib.hid (HIA.out.step HSI.out.drew)
                have HIB1 := Lib.hid (HIB.out.step HSI.out.drew)
                have HIO1 := Lib.hid (HIO.out.step HSI.out.drew)
                have HLEN : Hid ((css ++ cab ++ allC a b outs i ++ rowC a b outs i k).length ≤ 16777216) := by have := HL9.out; show _ ≤ 16777216; omega
                go_wp2
                have ww1 : IntKind.i64.wrap ((i : Int) - 1) = (i : Int) - 1 := IntWalk.i64_in _ (by omega)
                have ww2 : IntKind.i64.wrap ((k : Int) - 1) = (k : Int) - 1 := IntWalk.i64_in _ (by omega)
                have ww3 : IntKind.i64.wrap ((i : Int) + (k : Int) - 1) = (i : Int) + (k : Int) - 1 := IntWalk.i64_in _ (by omega)
                go_region_held3 (fun w' => w'.cell? ⟨p.bk, 0, none⟩ = some (.func (.func 43) #[] #[.pointer (some ⟨p.bc, 0, none⟩)]) ∧ w'.cell? ⟨p.bt, 0, none⟩ = some (.func (.func 44) #[] #[])) (first | (exact ⟨hkF, htF⟩) | (exact ⟨hkD, htD⟩) | (exact ⟨hkB, htB⟩) | (exact ⟨hk0, ht0⟩) | go_keep)
                  (first
                    | (go_at_call 46; (with_reducible refine (at_any _ (Safe p _) n1 c1 A1 a _ HIA1.out).mono ?_); rintro e wA ⟨B1, m1, k1, rfl, hB1, rfl⟩)
                    | (go_at_call 44; (with_reducible refine (not_st p _ m1 k1 B1 _ hB1 (HSA.out.atL _) hszD).mono ?_); rintro e wB ⟨C1, m1', k1', rfl, hC1, hbB⟩; have hstB := HSTI.out.below hbB; have hkB := hstB.cellK; have htB := hstB.cellT; have hIbB := HIB1.out.step (Step.of_below hbB); have hIoB := HIO1.out.step (Step.of_below hbB); have HSTB := Lib.hid hstB; have HBB := Lib.hid hbB; clear hstB hbB)
                    | (go_at_call 46; (with_reducible refine (at_any _ (Safe p _) n2 c2 A2 b _ hIbB).mono ?_); rintro e wC ⟨B2, m2, k2, rfl, hB2, rfl⟩)
                    | (go_at_call 44; (with_reducible refine (not_st p _ m2 k2 B2 _ hB2 (HSB.out.atL _) HSTB.out.size).mono ?_); rintro e wD ⟨C2, m2', k2', rfl, hC2, hbD⟩; have hstD := HSTB.out.below hbD; have hkD := hstD.cellK; have htD := hstD.cellT; have hC1D := hC1.step (Step.of_below hbD); have hIoD := hIoB.step (Step.of_below hbD); have HSTD := Lib.hid hstD; have HBD2 := Lib.hid hbD; clear hstD hbD)
                    | (go_at_call 46; (with_reducible refine (at_any _ (Safe p _) many many (some ⟨g, 0, none⟩) outs _ hIoD).mono ?_); rintro e wE ⟨B3, m3, k3, rfl, hB3, rfl⟩)
                    | (go_at_call 43; (with_reducible refine (clause_st p hp _ most (nx + many) false _ m1' k1' m2' k2' m3 k3 C1 C2 B3 _ _ _ HSTD.out HLEN.out hC1D hC2 hB3 (notL_len _) (notL_len _) (atL_len _ _)).mono ?_); rintro e wF ⟨rfl, hstF, hstepF⟩; have hkF := hstF.cellK; have htF := hstF.cellT; have HSTF := Lib.hid hstF; have HSF := Lib.hid hstepF; clear hstF hstepF))
                clear ww1 ww2 ww3 hk0 ht0 hkB htB hkD htD hkF htF
                have HSI2 := Lib.hid (HSI.out.drew.trans ((Step.of_below HBB.out).trans ((Step.of_below HBD2.out).trans HSF.out)))
                have HL92 : Hid ((css ++ cab ++ allC a b outs i ++ rowC a b outs i k ++ [upC a b outs i k]).length ≤ 16777216) := by have := HL9.out; show _ ≤ 16777216; rw [List.length_append]; simp only [List.length_cons, List.length_nil]; omega
                have HST92 : Hid (St p wF most (nx + many) false (css ++ cab ++ allC a b outs i ++ rowC a b outs i k ++ [upC a b outs i k])) := HSTF.out
                clear HLEN HSTI HIA1 HIB1 HIO1 hszD HSTB HSTD HSTF HBB HBD2 HSF hC1 hC1D hC2 hB3 hIbB hIoB hIoD hB1 hB2
                have hk0 := HST92.out.cellK
                have ht0 := HST92.out.cellT
                have hszD : p.B1 ≤ wF.drew.heap.size := HST92.out.size
                have HSTI := Lib.hid HST92.out.drew
                have HIA1 := Lib.hid (HIA.out.step HSI2.out.drew)
                have HIB1 := Lib.hid (HIB.out.step HSI2.out.drew)
                have HIO1 := Lib.hid (HIO.out.step HSI2.out.drew)
                have HLEN := HL92
                go_wp2
                have ww1 : IntKind.i64.wrap ((i : Int) - 1) = (i : Int) - 1 := IntWalk.i64_in _ (by omega)
                have ww2 : IntKind.i64.wrap ((k : Int) - 1) = (k : Int) - 1 := IntWalk.i64_in _ (by omega)
                have ww3 : IntKind.i64.wrap ((i : Int) + (k : Int) - 1) = (i : Int) + (k : Int) - 1 := IntWalk.i64_in _ (by omega)
                go_region_held3 (fun w' => w'.cell? ⟨p.bk, 0, none⟩ = some (.func (.func 43) #[] #[.pointer (some ⟨p.bc, 0, none⟩)]) ∧ w'.cell? ⟨p.bt, 0, none⟩ = some (.func (.func 44) #[] #[])) (first | (exact ⟨hkG, htG⟩) | (exact ⟨hkD, htD⟩) | (exact ⟨hk0, ht0⟩) | go_keep)
                  (first
                    | (go_at_call 46; (with_reducible refine (at_any _ (Safe p _) n1 c1 A1 a _ HIA1.out).mono ?_); rintro e wA ⟨C1, m1', k1', rfl, hC1, rfl⟩)
                    | (go_at_call 46; (with_reducible refine (at_any _ (Safe p _) n2 c2 A2 b _ HIB1.out).mono ?_); rintro e wC ⟨C2, m2', k2', rfl, hC2, rfl⟩)
                    | (go_at_call 46; (with_reducible refine (at_any _ (Safe p _) many many (some ⟨g, 0, none⟩) outs _ HIO1.out).mono ?_); rintro e wE ⟨B3, m3, k3, rfl, hB3, rfl⟩)
                    | (go_at_call 44; (with_reducible refine (not_st p _ m3 k3 B3 _ hB3 (HSO.out.atL _) hszD).mono ?_); rintro e wD ⟨C3, m3', k3', rfl, hC3, hbD⟩; have hstD := HSTI.out.below hbD; have hkD := hstD.cellK; have htD := hstD.cellT; have hC1D := hC1.step (Step.of_below hbD); have hC2D := hC2.step (Step.of_below hbD); have HSTD := Lib.hid hstD; have HBD2 := Lib.hid hbD; clear hstD hbD)
                    | (go_at_call 43; (with_reducible refine (clause_st p hp _ most (nx + many) false _ m1' k1' m2' k2' m3' k3' C1 C2 C3 _ _ _ HSTD.out HLEN.out hC1D hC2D hC3 (atL_len _ _) (atL_len _ _) (notL_len _)).mono ?_); rintro e wG ⟨rfl, hstG, hstepG⟩; have hkG := hstG.cellK; have htG := hstG.cellT; have HSTG := Lib.hid hstG; have HSG := Lib.hid hstepG; clear hstG hstepG))
                clear ww1 ww2 ww3 hk0 ht0
                go_wp2
                go_roundw
                case rel => exact ⟨k + 1, by omega, by go_num, by have := HSTG.out; rw [rowC, HP.out, ← List.append_assoc, ← List.append_assoc]; exact this, HSI2.out.drew.trans ((Step.of_below HBD2.out).trans HSG.out)⟩
                case measure => simp [intOf]; omega

theorem count_any (p : Places) (hp : p.Ok) : ∀ (N : Nat) (w : World) (n c : Nat) (A : Option Addr) (most : Nat) (next : Int) (css : List (List Int)) (xs : List Int), xs.length ≤ N → 1 ≤ xs.length → xs.length ≤ 64 → St p w most next false css → Ints w (Safe p w) A n c xs →
      Small xs → 1 ≤ next → next ≤ 65537 → css.length + 4 * xs.length * xs.length ≤ 1000000 → 1 ≤ most → most ≤ 1099511627776 →
      Calls Try.prog 45 (cargs p (.slice A n c)) w (Counted p w most next css xs) := by
  intro N
  induction N with
  | zero => intro w n c A most next css xs h1 h2; omega
  | succ N ih =>
    intro w n c A most next css xs hN h1 h64 hst hI hs hn1 hn2 hcl hm1 hm2
    by_cases h2 : 2 ≤ xs.length
    · exact count_two p hp N ih w n c A most next css xs hN h2 h64 hst hI hs hn1 hn2 hcl hm1 hm2
    · match xs, h1, h2 with
      | [x], _, _ =>
        have hl := hI.len
        simp at hl
        subst hl
        exact count_one p w c A most next css x hst hI hn2
      | _ :: _ :: _, _, h2 => simp at h2
end Go.Proofs.Ytanbkdfffojpnaa
