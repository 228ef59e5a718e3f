/-
  A part of the proof of TopCrashRecovery: walks of the functions that the law calls.
-/
import Derived.Test.YtpncejdamjbnlaaGreatDoorJf
set_option linter.all false
section
namespace Go.Proofs.YtpncejdamjbnlaaGreatDoor
open Go.RowKit Jour
set_option maxRecDepth 100000 in
theorem fwithin_any (n a b : Int) (w : World) : Calls Tryz.prog 30 #[.int .i64 n, .int .i64 a, .int .i64 b] w (RetBoolSame w (decide (a ≤ n) && decide (n ≤ b))) := by
  go_enter Tryz.func30, Tryz.ntmps30
  by_cases h : a ≤ n
  · have hb : decide (a ≤ n) = true := by simpa using h
    go_wp2
    go_ret
    exact ⟨by simp [h], rfl⟩
  · have hb : decide (a ≤ n) = false := by simpa using h
    go_wp2
    go_ret
    exact ⟨by simp [h], rfl⟩
def okPl (p : Pl) : Bool := (decide (0 ≤ p.1) && decide (p.1 ≤ 49)) && (decide (0 ≤ p.2) && decide (p.2 ≤ 31))
set_option maxHeartbeats 1000000 in
set_option maxRecDepth 100000 in
theorem place_any (i : Int) (p : Pl) (w : World) : Calls Tryz.prog 32 #[.int .i64 i, .agg #[.int .i64 p.1, .int .i64 p.2]] w (RetBoolBelow w (okPl p)) := by
  obtain ⟨p1, p2⟩ := p
  have C1 : ∀ W, Hid (Calls Tryz.prog 30 #[.int .i64 p1, .int .i64 0, .int .i64 49] W (RetBoolSame W (decide (0 ≤ p1) && decide (p1 ≤ 49)))) := fun W => Lib.hid (fwithin_any p1 0 49 W)
  have C2 : ∀ W, Hid (Calls Tryz.prog 30 #[.int .i64 p2, .int .i64 0, .int .i64 31] W (RetBoolSame W (decide (0 ≤ p2) && decide (p2 ≤ 31)))) := fun W => Lib.hid (fwithin_any p2 0 31 W)
  have HE : Hid (okPl (p1, p2) = ((decide (0 ≤ p1) && decide (p1 ≤ 49)) && (decide (0 ≤ p2) && decide (p2 ≤ 31)))) := Lib.hid rfl
  dsimp only
  generalize okPl (p1, p2) = ok at *
  generalize (decide (0 ≤ p1) && decide (p1 ≤ 49)) = b1 at *
  generalize (decide (0 ≤ p2) && decide (p2 ≤ 31)) = b2 at *
  have hal : Below w.heap.size w (w.alloc (Obj.cells #[Value.int IntKind.i64 p1, Value.int IntKind.i64 p2] 104)) := alloc_lt _
  have HAL := Lib.hid hal
  clear hal
  cases b1
  · go_enter Tryz.func32, Tryz.ntmps32
    go_wp2_with (fail)
    (with_reducible refine (C1 _).out.mono ?_)
    rintro e w1 ⟨rfl, rfl⟩
    go_wp2_with (fail)
    go_ret
    exact ⟨by rw [HE.out]; rfl, HAL.out⟩
  · go_enter Tryz.func32, Tryz.ntmps32
    go_wp2_with (fail)
    (with_reducible refine (C1 _).out.mono ?_)
    rintro e w1 ⟨rfl, rfl⟩
    go_wp2_with (fail)
    (with_reducible refine (C2 _).out.mono ?_)
    rintro e w1 ⟨rfl, rfl⟩
    go_wp2_with (fail)
    go_ret
    exact ⟨by rw [HE.out]; rfl, HAL.out⟩
theorem all_take {α : Type} {xs : List α} {f : α → Bool} {k : Nat} {x : α} (h : xs[k]? = some x) (ha : (xs.take k).all f = true) : (xs.take (k + 1)).all f = f x := by
  rw [List.take_succ, h, List.all_append, ha]; simp
theorem all_false {α : Type} {xs : List α} {f : α → Bool} {k : Nat} {x : α} (h : xs[k]? = some x) (hf : f x = false) : xs.all f = false := by
  rw [List.all_eq_false]
  exact ⟨x, List.mem_of_getElem? h, by simp [hf]⟩
set_option maxHeartbeats 1000000 in
set_option maxRecDepth 100000 in
theorem allPl_any (w : World) (n c : Nat) (A : Option Addr) (ps : List Pl) (hP : Arr w A n c ps) (hn : n ≤ 64) :
    Calls Tryz.prog 31 #[.slice A n c, .func (.func 32) #[] #[]] w (RetBoolBelow w (ps.all okPl)) := by
  have HP := Lib.hid hP
  have HL := Lib.hid hP.len
  have cap1 := hP.cap
  have max1 := hP.max
  unfold maxLen at max1
  clear hP
  go_enter Tryz.func31, Tryz.ntmps31
  go_wp2_with (fail)
  go_loopw [5, 6, 9] (fun _ _ i wr => ∃ k : Nat, k ≤ n ∧ i = .int .i64 k ∧ (ps.take k).all okPl = true ∧ Below w.heap.size w wr) (fun _ _ i _ => n - (intOf i).toNat)
  case atStart => exact ⟨0, Nat.zero_le _, rfl, rfl, Below.refl _ _⟩
  case round =>
    obtain ⟨k, hk, rfl, hall, hb⟩ := hrel
    by_cases hlt : k < n
    · obtain ⟨⟨p1, p2⟩, hp⟩ : ∃ p, ps[k]? = some p := ⟨_, List.getElem?_eq_getElem (by have := HL.out; omega)⟩
      obtain ⟨ad, rfl, hadS, hc1, hc2⟩ := HP.out.pl hp
      have e1 := (hb.cell (p := ad.add (k * 2)) (by rw [block_of_add]; exact hadS)).trans hc1
      have e2 := (hb.cell (p := ⟨(ad.add (k * 2)).block, (ad.add (k * 2)).off + 1, none⟩) (by show (ad.add (k * 2)).block < _; rw [block_of_add]; exact hadS)).trans hc2
      dsimp only at e1 e2
      have HT := Lib.hid (all_take (f := okPl) hp hall)
      have HPk := Lib.hid hp
      have HB := Lib.hid hb
      clear hp hadS hc1 hc2 hall hb
      have C1 : Hid (Calls Tryz.prog 32 #[.int .i64 k, .agg #[.int .i64 p1, .int .i64 p2]] (wr.alloc (Obj.cells #[Value.int IntKind.i64 p1, Value.int IntKind.i64 p2] 104)) (RetBoolBelow (wr.alloc (Obj.cells #[Value.int IntKind.i64 p1, Value.int IntKind.i64 p2] 104)) (okPl (p1, p2)))) := Lib.hid (place_any k (p1, p2) _)
      have HA := Lib.hid (alloc_lt (w := wr) (Obj.cells #[Value.int IntKind.i64 p1, Value.int IntKind.i64 p2] 104))
      cases hok : okPl (p1, p2)
      · rw [hok] at C1
        have HN := Lib.hid (all_false HPk.out hok)
        clear hok
        go_wp2_with (fail)
        (with_reducible refine C1.out.mono ?_)
        rintro e w3 ⟨rfl, hb3⟩
        have HB3 := Lib.hid hb3
        clear hb3
        go_wp2_with (fail)
        go_ret
        exact ⟨by rw [HN.out]; rfl, HB.out.trans ((below_then HA.out HB3.out).mono HB.out.size)⟩
      · rw [hok] at C1 HT
        clear hok
        go_wp2_with (fail)
        (with_reducible refine C1.out.mono ?_)
        rintro e w3 ⟨rfl, hb3⟩
        have HB3 := Lib.hid hb3
        clear hb3
        go_wp2_with (fail)
        go_roundw
        case rel => exact ⟨k + 1, by omega, by go_num, HT.out, HB.out.trans ((below_then HA.out HB3.out).mono HB.out.size)⟩
        case measure => simp [intOf]; omega
    · obtain rfl : n = k := by omega
      rw [List.take_of_length_le (by have := HL.out; omega)] at hall
      have HA := Lib.hid hall
      have HB := Lib.hid hb
      clear hall hb
      go_wp2_with (fail)
      go_ret
      exact ⟨by rw [HA.out]; rfl, HB.out⟩
set_option maxHeartbeats 1000000 in
set_option maxRecDepth 100000 in
theorem ver_any (w : World) (k n c : Nat) (A : Option Addr) (cost : Int) (best : Bool) (ps : List Pl) (hP : Arr w A n c ps) (hn : n ≤ 64) (hk : k ≤ 100) (hc : 0 ≤ cost ∧ cost ≤ 1099511627776) :
    Calls Tryz.prog 29 #[.int .i64 k, .agg #[.int .i64 ((k : Int) + 1), .slice A n c, .int .i64 cost, .bool best]] w (RetBoolBelow w (ps.all okPl)) := by
  obtain ⟨W0, hW0⟩ : ∃ W0, W0 = (w.alloc (Obj.cells #[Value.int IntKind.i64 ((k : Int) + 1), Value.slice A n c, Value.int IntKind.i64 cost, Value.bool best] 34)) := ⟨_, rfl⟩
  have hal : Below w.heap.size w W0 := by rw [hW0]; exact alloc_lt _
  have C1 : ∀ W, Hid (Calls Tryz.prog 30 #[.int .i64 cost, .int .i64 0, .int .i64 1099511627776] W (RetBoolSame W true)) := fun W => Lib.hid (by
    have := fwithin_any cost 0 1099511627776 W
    rwa [show (decide ((0 : Int) ≤ cost) && decide (cost ≤ 1099511627776)) = true by simp; omega] at this)
  have C2 := Lib.hid (allPl_any W0 n c A ps (hP.belowLt hal) hn)
  have HAL := Lib.hid hal
  rw [hW0] at C2
  clear hP hal hc
  go_enter Tryz.func29, Tryz.ntmps29
  go_wp2_with (fail)
  (with_reducible refine (C1 _).out.mono ?_)
  rintro e w1 ⟨rfl, rfl⟩
  go_wp2_with (fail)
  (with_reducible refine C2.out.mono ?_)
  rintro e w1 ⟨rfl, hb1⟩
  have HB1 := Lib.hid hb1
  clear hb1 C2
  go_wp2_with (fail)
  go_ret
  rw [← hW0] at HB1
  refine ⟨?_, below_then HAL.out HB1.out⟩
  rfl
def OkV (s : Nat) (vs : List Ver) : Prop := ∀ (i : Nat) (v : Ver), vs[i]? = some v → v.no = (i : Int) + 1 ∧ 0 ≤ v.cost ∧ v.cost ≤ 1099511627776 ∧ v.week.length ≤ 64
set_option maxHeartbeats 1000000 in
set_option maxRecDepth 100000 in
theorem allV_any (w : World) (n c : Nat) (A : Option Addr) (vs : List Ver) (hV : VersOf w A n c vs) (hn : n ≤ 64) (hok : OkV 0 vs) :
    Calls Tryz.prog 28 #[.slice A n c, .func (.func 29) #[] #[]] w (RetBoolBelow w (vs.all fun v => v.week.all okPl)) := by
  have HV := Lib.hid hV
  have HL := Lib.hid hV.len
  have HOK := Lib.hid hok
  have cap1 := hV.cap
  have max1 := hV.max
  unfold maxLen at max1
  clear hV hok
  go_enter Tryz.func28, Tryz.ntmps28
  go_wp2_with (fail)
  go_loopw [5, 6, 9] (fun _ _ i wr => ∃ k : Nat, k ≤ n ∧ i = .int .i64 k ∧ ((vs.take k).all fun v => v.week.all okPl) = true ∧ Below w.heap.size w wr) (fun _ _ i _ => n - (intOf i).toNat)
  case atStart => exact ⟨0, Nat.zero_le _, rfl, rfl, Below.refl _ _⟩
  case round =>
    obtain ⟨k, hk, rfl, hall, hb⟩ := hrel
    by_cases hlt : k < n
    · obtain ⟨⟨no, week, cost, best⟩, hp⟩ : ∃ p, vs[k]? = some p := ⟨_, List.getElem?_eq_getElem (by have := HL.out; omega)⟩
      obtain ⟨ad, A', n', c', rfl, hadS, hc1, hc2, hc3, hc4, hP⟩ := HV.out.at_ hp
      obtain ⟨hno, hco1, hco2, hwl⟩ := HOK.out k _ hp
      dsimp only at hc1 hc2 hc3 hc4 hP hno hco1 hco2 hwl
      subst hno
      have e1 := (hb.cell (p := ad.add (k * 4)) (by rw [block_of_add]; exact hadS)).trans hc1
      have e2 := (hb.cell (p := ⟨(ad.add (k * 4)).block, (ad.add (k * 4)).off + 1, none⟩) (by show (ad.add (k * 4)).block < _; rw [block_of_add]; exact hadS)).trans hc2
      have e3 := (hb.cell (p := ⟨(ad.add (k * 4)).block, (ad.add (k * 4)).off + 2, none⟩) (by show (ad.add (k * 4)).block < _; rw [block_of_add]; exact hadS)).trans hc3
      have e4 := (hb.cell (p := ⟨(ad.add (k * 4)).block, (ad.add (k * 4)).off + 3, none⟩) (by show (ad.add (k * 4)).block < _; rw [block_of_add]; exact hadS)).trans hc4
      have HT := Lib.hid (all_take (f := fun v : Ver => v.week.all okPl) hp hall)
      dsimp only at HT
      have HPk := Lib.hid hp
      have HB := Lib.hid hb
      have hA : Below w.heap.size w (wr.alloc (Obj.cells #[Value.int IntKind.i64 ((k : Int) + 1), Value.slice A' n' c', Value.int IntKind.i64 cost, Value.bool best] 34)) := hb.alloc hb.size _
      have C1 := Lib.hid (ver_any _ k n' c' A' cost best week (hP.belowLt hA) (by have := hP.len; omega) (by omega) ⟨hco1, hco2⟩)
      have HA := Lib.hid hA
      have HS := Lib.hid (show w.heap.size ≤ (wr.alloc (Obj.cells #[Value.int IntKind.i64 ((k : Int) + 1), Value.slice A' n' c', Value.int IntKind.i64 cost, Value.bool best] 34)).heap.size from hA.size)
      clear hp hadS hc1 hc2 hc3 hc4 hall hb hP hco1 hco2 hwl hA
      cases hok : week.all okPl
      · rw [hok] at C1
        have HN := Lib.hid (all_false (f := fun v : Ver => v.week.all okPl) HPk.out hok)
        clear hok
        go_wp2_with (fail)
        (with_reducible refine C1.out.mono ?_)
        rintro e w3 ⟨rfl, hb3⟩
        have HB3 := Lib.hid hb3
        clear hb3
        go_wp2_with (fail)
        go_ret
        exact ⟨by rw [HN.out]; rfl, HA.out.trans (HB3.out.mono HS.out)⟩
      · rw [hok] at C1 HT
        clear hok
        go_wp2_with (fail)
        (with_reducible refine C1.out.mono ?_)
        rintro e w3 ⟨rfl, hb3⟩
        have HB3 := Lib.hid hb3
        clear hb3
        go_wp2_with (fail)
        go_roundw
        case rel => exact ⟨k + 1, by omega, by go_num, HT.out, HA.out.trans (HB3.out.mono HS.out)⟩
        case measure => simp [intOf]; omega
    · obtain rfl : n = k := by omega
      rw [List.take_of_length_le (by have := HL.out; omega)] at hall
      have HA := Lib.hid hall
      have HB := Lib.hid hb
      clear hall hb
      go_wp2_with (fail)
      go_ret
      exact ⟨by rw [HA.out]; rfl, HB.out⟩
def chk (vs : List Ver) : Bool := vs.all fun v => v.week.all okPl
set_option maxHeartbeats 1000000 in
set_option maxRecDepth 100000 in
theorem check_any (w : World) (n c : Nat) (A : Option Addr) (vs : List Ver) (hV : VersOf w A n c vs) (hn : n ≤ 64) (hok : OkV 0 vs) :
    Calls Tryz.prog 10 #[.slice A n c] w (fun e w' => e = .returned (.int .i64 (if chk vs then 0 else 1)) ∧ Below w.heap.size w w') := by
  have C1 : Hid (Calls Tryz.prog 28 #[.slice A n c, .func (.func 29) #[] #[]] w (RetBoolBelow w (chk vs))) := Lib.hid (allV_any w n c A vs hV hn hok)
  generalize chk vs = b at *
  clear hV hok
  cases b
  all_goals
    go_enter Tryz.func10, Tryz.ntmps10
    go_wp2_with (fail)
    (with_reducible refine C1.out.mono ?_)
    rintro e w3 ⟨rfl, hb3⟩
    have HB3 := Lib.hid hb3
    clear hb3
    go_wp2_with (fail)
    go_ret
    exact ⟨rfl, HB3.out⟩
end Go.Proofs.YtpncejdamjbnlaaGreatDoor
end
section
namespace Go.Proofs.YtpncejdamjbnlaaGreatDoor
open Go.RowKit Jour
abbrev msgV (kind to_ from_ no : Int) (wk ms : Value) : Array Value := #[.int .i64 kind, .int .i64 to_, .int .i64 from_, .int .i64 no, wk, ms]
theorem six_cells {w : World} {b : Nat} {v0 v1 v2 v3 v4 v5 : Value} {t : TypeId} (h : w.heap[b]? = some (.cells #[v0, v1, v2, v3, v4, v5] t (0, 0))) :
    (w.cell? ⟨b, 0, none⟩ = some v0 ∧ w.cell? ⟨b, 1, none⟩ = some v1 ∧ w.cell? ⟨b, 2, none⟩ = some v2 ∧ w.cell? ⟨b, 3, none⟩ = some v3 ∧ w.cell? ⟨b, 4, none⟩ = some v4 ∧ w.cell? ⟨b, 5, none⟩ = some v5) ∧ ∀ o, w.frozen? ⟨b, o, none⟩ = false := by
  refine ⟨⟨?_, ?_, ?_, ?_, ?_, ?_⟩, fun o => ?_⟩
  iterate 6 (rw [cell_of_row _ _ _ _ _ _ h]; rfl)
  simp [World.frozen?, h]
theorem results_row2 {P : Program} {fn : Func} {p u : Tmp} {ty : TypeId} {v : Value} (h : fn.results = #[.cell p ty, .tmp u]) (tmps : Array Value) (w : World) (g : Nat) (t : TypeId) (cs : Array Value) (fr : Nat × Nat) (d : TypeDesc)
    (hp : tmps.getD p undef = .pointer (some ⟨g, 0, none⟩)) (hv : tmps.getD u undef = v) (hg : w.heap[g]? = some (.cells cs t fr))
    (hu : P.underlying ty = some d) (hd : (match d with | .struct _ | .array _ _ => true | _ => false) = true) (hi : (P.info? ty).map (·.size) = some cs.size) :
    (results fn tmps).run P w = .ok (.tuple #[.agg cs, v]) w := by
  rw [results_cell_tmp h, hp, hv]
  have e : (asAddr (.pointer (some ⟨g, 0, none⟩))).run P w = .ok ⟨g, 0, none⟩ w := by simp [asAddr]
  rw [e, Result.andThen_ok, run_loadVar_row w g t ty cs fr d hg hu hd hi, Result.andThen_ok]
theorem info46 : (Tryz.prog.info? 46).map (·.size) = some 6 := by kernel_rfl
abbrev six (w : World) (b : Nat) (u0 u1 u2 u3 u4 u5 : Value) : World := (((((w.setCell ⟨b, 0, none⟩ u0).setCell ⟨b, 1, none⟩ u1).setCell ⟨b, 2, none⟩ u2).setCell ⟨b, 3, none⟩ u3).setCell ⟨b, 4, none⟩ u4).setCell ⟨b, 5, none⟩ u5
theorem six_fin {w : World} {b : Nat} {v0 v1 v2 v3 v4 v5 : Value} {t : TypeId} (u0 u1 u2 u3 u4 u5 : Value) (h : w.heap[b]? = some (.cells #[v0, v1, v2, v3, v4, v5] t (0, 0))) :
    (six w b u0 u1 u2 u3 u4 u5).heap[b]? = some (.cells #[u0, u1, u2, u3, u4, u5] t (0, 0)) ∧ w.grownBy (six w b u0 u1 u2 u3 u4 u5) (some b) ∧ ∀ (B : Nat) (a : World), Below B a w → B ≤ b → Below B a (six w b u0 u1 u2 u3 u4 u5) :=
  by
  have a1 := one_put (i := 0) (u := u0) h
  have a2 := one_put (i := 1) (u := u1) a1
  have a3 := one_put (i := 2) (u := u2) a2
  have a4 := one_put (i := 3) (u := u3) a3
  have a5 := one_put (i := 4) (u := u4) a4
  have a6 := one_put (i := 5) (u := u5) a5
  refine ⟨a6, ?_, fun B a hb hB => ?_⟩
  · have b1 := setCell_grown w b 0 u0
    have b2 := b1.trans (setCell_grown _ b 1 u1)
    have b3 := b2.trans (setCell_grown _ b 2 u2)
    have b4 := b3.trans (setCell_grown _ b 3 u3)
    have b5 := b4.trans (setCell_grown _ b 4 u4)
    exact b5.trans (setCell_grown _ b 5 u5)
  · have b1 := hb.setCell (p := ⟨b, 0, none⟩) hB u0
    have b2 := b1.setCell (p := ⟨b, 1, none⟩) hB u1
    have b3 := b2.setCell (p := ⟨b, 2, none⟩) hB u2
    have b4 := b3.setCell (p := ⟨b, 3, none⟩) hB u3
    have b5 := b4.setCell (p := ⟨b, 4, none⟩) hB u4
    exact b5.setCell (p := ⟨b, 5, none⟩) hB u5
set_option maxHeartbeats 1000000 in
set_option maxRecDepth 100000 in
theorem reply_old (w : World) (n c : Nat) (A : Option Addr) (vs : List Ver) (hV : VersOf w A n c vs) (hn : n ≤ 64) (hok : OkV 0 vs) (hch : chk vs = true) :
    Calls Tryz.prog 11 #[.slice A n c, .int .i64 n, .int .i64 0] w (fun e w' => e = .returned (.tuple #[.agg (msgV 0 0 0 0 (.slice none 0 0) (.slice none 0 0)), .int .i64 341]) ∧ Below w.heap.size w w') := by
  obtain ⟨W0, hW0⟩ : ∃ W0, W0 = (w.alloc (Obj.cells (msgV 0 0 0 0 (.slice none 0 0) (.slice none 0 0)) 46)) := ⟨_, rfl⟩
  have hal : Below w.heap.size w W0 := by rw [hW0]; exact alloc_lt _
  have hb0 : W0.heap[w.heap.size]? = some (.cells (msgV 0 0 0 0 (.slice none 0 0) (.slice none 0 0)) 46 (0, 0)) := by rw [hW0]; exact heap_alloc_new _ _
  have C1 : Hid (Calls Tryz.prog 10 #[.slice A n c] W0 (fun e w' => e = .returned (.int .i64 0) ∧ Below W0.heap.size W0 w')) := Lib.hid (by
    have := check_any W0 n c A vs (hV.belowLt hal) hn hok
    rw [hch, if_pos rfl] at this
    exact this)
  have C2 : ∀ W, Hid (Calls Tryz.prog 30 #[.int .i64 n, .int .i64 0, .int .i64 1099511627776] W (RetBoolSame W true)) := fun W => Lib.hid (by
    have := fwithin_any n 0 1099511627776 W
    rwa [show (decide ((0 : Int) ≤ n) && decide ((n : Int) ≤ 1099511627776)) = true by simp; omega] at this)
  have C3 : ∀ W, Hid (Calls Tryz.prog 30 #[.int .i64 0, .int .i64 0, .int .i64 7] W (RetBoolSame W true)) := fun W => Lib.hid (fwithin_any 0 0 7 W)
  have HAL := Lib.hid hal
  have HB0 := Lib.hid hb0
  have cap1 := hV.cap
  have max1 := hV.max
  unfold maxLen at max1
  rw [hW0] at C1
  clear hV hok hch hal hb0
  go_enter Tryz.func11, Tryz.ntmps11
  go_wp2_with (fail)
  (with_reducible refine C1.out.mono ?_)
  rintro e w1 ⟨rfl, hb1⟩
  rw [show (w.alloc (Obj.cells #[Value.int IntKind.i64 0, Value.int IntKind.i64 0, Value.int IntKind.i64 0, Value.int IntKind.i64 0, Value.slice none 0 0, Value.slice none 0 0] 46)) = W0 from hW0.symm] at hb1
  have hbx := (hb1.block w.heap.size (Array.getElem?_eq_some_iff.1 HB0.out).1).trans HB0.out
  have HBX := Lib.hid hbx
  obtain ⟨⟨z0, z1, z2, z3, z4, z5⟩, hf⟩ := six_cells hbx
  have f0 := hf 0
  have f1 := hf 1
  have f2 := hf 2
  have f3 := hf 3
  have f4 := hf 4
  have f5 := hf 5
  have HB1 := Lib.hid hb1
  clear hf hb1 C1 hW0 hbx
  go_wp2_with (fail)
  (with_reducible refine (C2 _).out.mono ?_)
  rintro e w2 ⟨rfl, rfl⟩
  go_wp2_with (fail)
  (with_reducible refine (C3 _).out.mono ?_)
  rintro e w2 ⟨rfl, rfl⟩
  obtain ⟨g1, _, g3⟩ := six_fin (.int .i64 0) (.int .i64 0) (.int .i64 0) (.int .i64 0) (.slice none 0 0) (.slice none 0 0) HBX.out
  have FIN := Lib.hid (g3 _ _ (below_then HAL.out HB1.out) (Nat.le_refl _))
  obtain ⟨F, hF⟩ : ∃ F, F = six w1 w.heap.size (.int .i64 0) (.int .i64 0) (.int .i64 0) (.int .i64 0) (.slice none 0 0) (.slice none 0 0) := ⟨_, rfl⟩
  rw [← hF] at g1 FIN
  have G1 := Lib.hid g1
  have HF := Lib.hid hF
  clear hF g1 g3
  go_wp2_with (fail)
  rw [show (((((w1.setCell ⟨w.heap.size, 0, none⟩ (.int .i64 0)).setCell ⟨w.heap.size, 1, none⟩ (.int .i64 0)).setCell ⟨w.heap.size, 2, none⟩ (.int .i64 0)).setCell ⟨w.heap.size, 3, none⟩ (.int .i64 0)).setCell ⟨w.heap.size, 4, none⟩ (.slice none 0 0)).setCell ⟨w.heap.size, 5, none⟩ (.slice none 0 0) = F from HF.out.symm]
  exact bodyPost_ret (v := .tuple #[.agg #[.int .i64 0, .int .i64 0, .int .i64 0, .int .i64 0, .slice none 0 0, .slice none 0 0], .int .i64 341]) (results_row2 (p := 6) (u := 7) rfl _ _ w.heap.size 46 _ (0, 0) _ rfl rfl G1.out Tryz.underlying46 rfl info46) rfl ⟨rfl, FIN.out⟩
end Go.Proofs.YtpncejdamjbnlaaGreatDoor
end
section
namespace Go.Proofs.YtpncejdamjbnlaaGreatDoor
open Go.RowKit Jour
def RetWhole (w : World) (no : Int) (ps : List Pl) (e : Ending) (w' : World) : Prop := ∃ A n c, e = .returned (.tuple #[.agg (msgV 1 0 0 no (.slice A n c) (.slice none 0 0)), .int .i64 0]) ∧ Arr w' A n c ps ∧ Below w.heap.size w w'
set_option maxHeartbeats 1000000 in
set_option maxRecDepth 100000 in
theorem reply_first (w : World) (k c : Nat) (A : Option Addr) (vs : List Ver) (v : Ver) (hV : VersOf w A (k + 1) c vs) (hn : k + 1 ≤ 64) (hok : OkV 0 vs) (hch : chk vs = true) (hv : vs[k]? = some v) :
    Calls Tryz.prog 11 #[.slice A ((k + 1 : Nat) : Nat) c, .int .i64 0, .int .i64 0] w (RetWhole w v.no v.week) := by
  obtain ⟨W0, hW0⟩ : ∃ W0, W0 = (w.alloc (Obj.cells (msgV 0 0 0 0 (.slice none 0 0) (.slice none 0 0)) 46)) := ⟨_, rfl⟩
  have hal : Below w.heap.size w W0 := by rw [hW0]; exact alloc_lt _
  have hb0 : W0.heap[w.heap.size]? = some (.cells (msgV 0 0 0 0 (.slice none 0 0) (.slice none 0 0)) 46 (0, 0)) := by rw [hW0]; exact heap_alloc_new _ _
  have C1 : Hid (Calls Tryz.prog 10 #[.slice A (k + 1) c] W0 (fun e w' => e = .returned (.int .i64 0) ∧ Below W0.heap.size W0 w')) := Lib.hid (by
    have := check_any W0 (k + 1) c A vs (hV.belowLt hal) hn hok
    rw [hch, if_pos rfl] at this
    exact this)
  have C3 : ∀ W, Hid (Calls Tryz.prog 30 #[.int .i64 0, .int .i64 0, .int .i64 7] W (RetBoolSame W true)) := fun W => Lib.hid (fwithin_any 0 0 7 W)
  have C2 : ∀ W, Hid (Calls Tryz.prog 30 #[.int .i64 0, .int .i64 0, .int .i64 1099511627776] W (RetBoolSame W true)) := fun W => Lib.hid (fwithin_any 0 0 1099511627776 W)
  have HAL := Lib.hid hal
  have HB0 := Lib.hid hb0
  have cap1 := hV.cap
  have max1 := hV.max
  unfold maxLen at max1
  obtain ⟨ad, A', n', c', rfl, hadS, hc1, hc2, hc3, hc4, hP⟩ := hV.at_ hv
  obtain ⟨no, week, cost, best⟩ := v
  dsimp only at hc1 hc2 hc3 hc4 hP ⊢
  have HP := Lib.hid hP
  have HWL : Hid (week.length ≤ 64) := Lib.hid (hok k _ hv).2.2.2
  have HC := Lib.hid (And.intro hadS (And.intro hc1 (And.intro hc2 (And.intro hc3 hc4))))
  rw [hW0] at C1
  clear hV hok hch hal hb0 hadS hc1 hc2 hc3 hc4 hP hv
  go_enter Tryz.func11, Tryz.ntmps11
  go_wp2_with (fail)
  (with_reducible refine C1.out.mono ?_)
  rintro e w1 ⟨rfl, hb1⟩
  rw [show (w.alloc (Obj.cells #[Value.int IntKind.i64 0, Value.int IntKind.i64 0, Value.int IntKind.i64 0, Value.int IntKind.i64 0, Value.slice none 0 0, Value.slice none 0 0] 46)) = W0 from hW0.symm] at hb1
  have hbx := (hb1.block w.heap.size (Array.getElem?_eq_some_iff.1 HB0.out).1).trans HB0.out
  have HBX := Lib.hid hbx
  have hbw := below_then HAL.out hb1
  obtain ⟨hadS, hc1, hc2, hc3, hc4⟩ := HC.out
  have e1 := (hbw.cell (p := ad.add (k * 4)) (by rw [block_of_add]; exact hadS)).trans hc1
  have e2 := (hbw.cell (p := ⟨(ad.add (k * 4)).block, (ad.add (k * 4)).off + 1, none⟩) (by show (ad.add (k * 4)).block < _; rw [block_of_add]; exact hadS)).trans hc2
  have e3 := (hbw.cell (p := ⟨(ad.add (k * 4)).block, (ad.add (k * 4)).off + 2, none⟩) (by show (ad.add (k * 4)).block < _; rw [block_of_add]; exact hadS)).trans hc3
  have e4 := (hbw.cell (p := ⟨(ad.add (k * 4)).block, (ad.add (k * 4)).off + 3, none⟩) (by show (ad.add (k * 4)).block < _; rw [block_of_add]; exact hadS)).trans hc4
  have HBW := Lib.hid hbw
  have hd1 : decide ((k : Int) + 1 ≤ 0) = false := by simp
  have hS1 : w.heap.size < w1.heap.size := (Array.getElem?_eq_some_iff.1 hbx).1
  have hal2 : Below w1.heap.size w1 (w1.alloc (Obj.cells #[Value.int IntKind.i64 no, Value.slice A' n' c', Value.int IntKind.i64 cost, Value.bool best] 34)) := alloc_lt _
  have hbx2 := (hal2.block w.heap.size hS1).trans hbx
  have hl2 := heap_alloc_new w1 (Obj.cells #[Value.int IntKind.i64 no, Value.slice A' n' c', Value.int IntKind.i64 cost, Value.bool best] 34)
  have HBX2 := Lib.hid hbx2
  have HL2 := Lib.hid hl2
  have HBW2 := Lib.hid (below_then hbw hal2)
  have HS1 := Lib.hid hS1
  clear hb1 C1 hW0 hbx hadS hc1 hc2 hc3 hc4 hbw hal2 hbx2 hl2 hS1
  go_wp2_with (fail)
  (with_reducible refine (C2 _).out.mono ?_)
  rintro e w2 ⟨rfl, rfl⟩
  go_wp2_with (fail)
  (with_reducible refine (C3 _).out.mono ?_)
  rintro e w2 ⟨rfl, rfl⟩
  go_upto_region 8 with (fail)
  obtain ⟨L, hL⟩ : ∃ L, L = w1.heap.size := ⟨_, rfl⟩
  rw [← hL] at HL2 HS1 ⊢
  generalize (w1.alloc (Obj.cells #[Value.int IntKind.i64 no, Value.slice A' n' c', Value.int IntKind.i64 cost, Value.bool best] 34)) = W2 at *
  have hSL := HS1.out
  obtain ⟨⟨z0, z1, z2, z3, z4, z5⟩, hf⟩ := six_cells HBX2.out
  have f0 := hf 0
  have f1 := hf 1
  have f2 := hf 2
  have f3 := hf 3
  have f4 := hf 4
  have f5 := hf 5
  have l0 : W2.cell? ⟨L, 0, none⟩ = some (.int .i64 no) := by rw [cell_of_row _ _ _ _ _ _ HL2.out]; rfl
  clear hf e1 e2 e3 e4 hL
  go_upto_region 9 with (fail)
  obtain ⟨g1, _, g3⟩ := six_fin (.int .i64 1) (.int .i64 0) (.int .i64 0) (.int .i64 no) (.slice none 0 0) (.slice none 0 0) HBX2.out
  have FIN := Lib.hid (g3 _ _ HBW2.out (Nat.le_refl _))
  obtain ⟨F, hF⟩ : ∃ F, F = six W2 w.heap.size (.int .i64 1) (.int .i64 0) (.int .i64 0) (.int .i64 no) (.slice none 0 0) (.slice none 0 0) := ⟨_, rfl⟩
  have hFL : F.heap[L]? = some (.cells #[Value.int IntKind.i64 no, Value.slice A' n' c', Value.int IntKind.i64 cost, Value.bool best] 34 (0, 0)) := by
    rw [hF]
    have ne : L ≠ w.heap.size := by omega
    exact (heap_setCell_other _ _ _ _ ne).trans ((heap_setCell_other _ _ _ _ ne).trans ((heap_setCell_other _ _ _ _ ne).trans ((heap_setCell_other _ _ _ _ ne).trans ((heap_setCell_other _ _ _ _ ne).trans ((heap_setCell_other _ _ _ _ ne).trans HL2.out)))))
  rw [← hF] at g1 FIN
  rw [show (((((W2.setCell ⟨w.heap.size, 0, none⟩ (.int .i64 1)).setCell ⟨w.heap.size, 1, none⟩ (.int .i64 0)).setCell ⟨w.heap.size, 2, none⟩ (.int .i64 0)).setCell ⟨w.heap.size, 3, none⟩ (.int .i64 no)).setCell ⟨w.heap.size, 4, none⟩ (.slice none 0 0)).setCell ⟨w.heap.size, 5, none⟩ (.slice none 0 0) = F from hF.symm]
  have l1 : F.cell? ⟨L, 1, none⟩ = some (.slice A' n' c') := by rw [cell_of_row _ _ _ _ _ _ hFL]; rfl
  have C34 := Lib.hid (clone_places F n' c' A' week (HP.out.belowLt FIN.out) (by have := HP.out.len; have := HWL.out; omega))
  have G1 := Lib.hid g1
  clear g1 g3 hF hFL z0 z1 z2 z3 z4 z5 f0 f1 f2 f3 f4 f5 l0
  go_wp2_with (fail)
  (with_reducible refine C34.out.mono ?_)
  rintro e w3 ⟨A3, n3, c3, rfl, ho3, hb3⟩
  have hl3 := (hb3.block w.heap.size (Array.getElem?_eq_some_iff.1 G1.out).1).trans G1.out
  obtain ⟨⟨z0, z1, z2, z3, z4, z5⟩, hf⟩ := six_cells hl3
  have f4 := hf 4
  have HL3 := Lib.hid hl3
  have HB3 := Lib.hid (below_then FIN.out hb3)
  have HO3 := Lib.hid ho3
  clear hf hl3 hb3 ho3 C34
  go_upto_region 15 with (fail)
  have hl4 : (w3.setCell ⟨w.heap.size, 4, none⟩ (.slice A3 n3 c3)).heap[w.heap.size]? = some (.cells (msgV 1 0 0 no (.slice A3 n3 c3) (.slice none 0 0)) 46 (0, 0)) := one_put (i := 4) HL3.out
  have hb4 : Below w.heap.size w (w3.setCell ⟨w.heap.size, 4, none⟩ (.slice A3 n3 c3)) := HB3.out.setCell (Nat.le_refl _) _
  have n46 : ∀ (x : Array Value) cs, Obj.cells x 46 (0, 0) ≠ .cells cs 104 (0, 0) := fun x cs e => by injection e; rename_i e1 e2 e3; exact absurd e2 (by decide)
  have ho4 : (w3.setCell ⟨w.heap.size, 4, none⟩ (.slice A3 n3 c3)).ownsRow F.heap.size 104 2 (.slice A3 n3 c3) n3 (flat week) := ownsRow_setCell_other HO3.out (own_other HO3.out HL3.out (n46 _)) _
  generalize (w3.setCell ⟨w.heap.size, 4, none⟩ (.slice A3 n3 c3)) = W4 at *
  clear z0 z1 z2 z3 z4 z5 f4
  obtain ⟨⟨z0, z1, z2, z3, z4, z5⟩, hf⟩ := six_cells hl4
  have f0 := hf 0
  have f1 := hf 1
  have f2 := hf 2
  have f3 := hf 3
  have f4 := hf 4
  have f5 := hf 5
  obtain ⟨g1, g2, g3⟩ := six_fin (.int .i64 1) (.int .i64 0) (.int .i64 0) (.int .i64 no) (.slice A3 n3 c3) (.slice none 0 0) hl4
  have FIN2 := Lib.hid (g3 _ _ hb4 (Nat.le_refl _))
  obtain ⟨F2, hF2⟩ : ∃ F2, F2 = six W4 w.heap.size (.int .i64 1) (.int .i64 0) (.int .i64 0) (.int .i64 no) (.slice A3 n3 c3) (.slice none 0 0) := ⟨_, rfl⟩
  rw [← hF2] at g1 g2 FIN2
  have ha4 : Arr F2 A3 n3 c3 week := Arr.of_own (ho4.kept g2 (by
    have := own_other ho4 hl4 (n46 _)
    exact .inr this))
  have HA4 := Lib.hid ha4
  have G1' := Lib.hid g1
  have HF2 := Lib.hid hF2
  clear hf hF2 g1 g2 g3 ho4 hb4 hl4 n46 ha4
  go_wp2_with (fail)
  rw [show (((((W4.setCell ⟨w.heap.size, 0, none⟩ (.int .i64 1)).setCell ⟨w.heap.size, 1, none⟩ (.int .i64 0)).setCell ⟨w.heap.size, 2, none⟩ (.int .i64 0)).setCell ⟨w.heap.size, 3, none⟩ (.int .i64 no)).setCell ⟨w.heap.size, 4, none⟩ (.slice A3 n3 c3)).setCell ⟨w.heap.size, 5, none⟩ (.slice none 0 0) = F2 from HF2.out.symm]
  exact bodyPost_ret (v := .tuple #[.agg #[.int .i64 1, .int .i64 0, .int .i64 0, .int .i64 no, .slice A3 n3 c3, .slice none 0 0], .int .i64 0]) (results_row2 (p := 6) (u := 7) rfl _ _ w.heap.size 46 _ (0, 0) _ rfl rfl G1'.out Tryz.underlying46 rfl info46) rfl ⟨A3, n3, c3, rfl, HA4.out, FIN2.out⟩
end Go.Proofs.YtpncejdamjbnlaaGreatDoor
end
section
namespace Go.Proofs.YtpncejdamjbnlaaGreatDoor
open Go.RowKit Jour
set_option maxRecDepth 100000 in
theorem diff_ne (w : World) (n c n' c' : Nat) (A A' : Option Addr) (hn : n ≤ 64) (hn' : n' ≤ 64) (hne : n ≠ n') :
    Calls Tryz.prog 33 #[.agg #[.slice A n c], .agg #[.slice A' n' c']] w (fun e w' => e = .returned (.tuple #[.slice none 0 0, .int .i64 1]) ∧ Below w.heap.size w w') := by
  have hbb : Below w.heap.size w ((w.alloc (.cells #[.slice A n c] 32)).alloc (.cells #[.slice A' n' c'] 32)) := below_then (alloc_lt _) (alloc_lt _)
  obtain ⟨hx, hy⟩ := two_boxes w (.slice A n c) (.slice A' n' c') 32
  have HBB := Lib.hid hbb
  have k1 := cell_of_one hx
  have k2 := cell_of_one hy
  clear hx hy hbb
  go_enter Tryz.func33, Tryz.ntmps33
  go_wp2_with (fail)
  go_ret2
  exact ⟨rfl, HBB.out⟩
theorem two_of_block {w : World} {b : Nat} {u0 u1 u2 u3 : Value} {t : TypeId} (h : w.heap[b]? = some (.cells #[u0, u1, u2, u3] t (0, 0))) : w.cell? ⟨b, 0, none⟩ = some u0 ∧ w.cell? ⟨b, 1, none⟩ = some u1 := by
  constructor <;> (rw [cell_of_row _ _ _ _ _ _ h]; rfl)
end Go.Proofs.YtpncejdamjbnlaaGreatDoor
end
section
namespace Go.Proofs.YtpncejdamjbnlaaGreatDoor
open Go.RowKit Jour
set_option maxHeartbeats 1000000 in
set_option maxRecDepth 100000 in
theorem reply_ne (w : World) (k m c : Nat) (A : Option Addr) (vs : List Ver) (v : Ver) (hV : VersOf w A (k + 1) c vs) (hn : k + 1 ≤ 64) (hok : OkV 0 vs) (hch : chk vs = true) (hv : vs[k]? = some v) (u : Ver) (hu : vs[m]? = some u) (hmk : m < k) (hlen : u.week.length ≠ v.week.length) :
    Calls Tryz.prog 11 #[.slice A ((k + 1 : Nat) : Nat) c, .int .i64 ((m : Int) + 1), .int .i64 0] w (RetWhole w v.no v.week) := by
  obtain ⟨W0, hW0⟩ : ∃ W0, W0 = (w.alloc (Obj.cells (msgV 0 0 0 0 (.slice none 0 0) (.slice none 0 0)) 46)) := ⟨_, rfl⟩
  have hal : Below w.heap.size w W0 := by rw [hW0]; exact alloc_lt _
  have hb0 : W0.heap[w.heap.size]? = some (.cells (msgV 0 0 0 0 (.slice none 0 0) (.slice none 0 0)) 46 (0, 0)) := by rw [hW0]; exact heap_alloc_new _ _
  have C1 : Hid (Calls Tryz.prog 10 #[.slice A (k + 1) c] W0 (fun e w' => e = .returned (.int .i64 0) ∧ Below W0.heap.size W0 w')) := Lib.hid (by
    have := check_any W0 (k + 1) c A vs (hV.belowLt hal) hn hok
    rw [hch, if_pos rfl] at this
    exact this)
  have C3 : ∀ W, Hid (Calls Tryz.prog 30 #[.int .i64 0, .int .i64 0, .int .i64 7] W (RetBoolSame W true)) := fun W => Lib.hid (fwithin_any 0 0 7 W)
  have C2 : ∀ W, Hid (Calls Tryz.prog 30 #[.int .i64 ((m : Int) + 1), .int .i64 0, .int .i64 1099511627776] W (RetBoolSame W true)) := fun W => Lib.hid (by
    have := fwithin_any ((m : Int) + 1) 0 1099511627776 W
    rwa [show (decide ((0 : Int) ≤ (m : Int) + 1) && decide ((m : Int) + 1 ≤ 1099511627776)) = true by simp; omega] at this)
  have HAL := Lib.hid hal
  have HB0 := Lib.hid hb0
  have cap1 := hV.cap
  have max1 := hV.max
  unfold maxLen at max1
  obtain ⟨ad, A', n', c', rfl, hadS, hc1, hc2, hc3, hc4, hP⟩ := hV.at_ hv
  obtain ⟨ad1, A0, n0, c0, ead, hadS0, hu1, hu2, hu3, hu4, hP0⟩ := hV.at_ hu
  injection ead with ead
  subst ead
  obtain ⟨no, week, cost, best⟩ := v
  obtain ⟨no0, week0, cost0, best0⟩ := u
  dsimp only at hc1 hc2 hc3 hc4 hP hu1 hu2 hu3 hu4 hP0 hlen ⊢
  have HU := Lib.hid hu2
  have HP0 := Lib.hid hP0
  have HWL0 : Hid (week0.length ≤ 64) := Lib.hid (hok m _ hu).2.2.2
  have HLEN := Lib.hid hlen
  have HMK := Lib.hid hmk
  have HP := Lib.hid hP
  have HWL : Hid (week.length ≤ 64) := Lib.hid (hok k _ hv).2.2.2
  have HC := Lib.hid (And.intro hadS (And.intro hc1 (And.intro hc2 (And.intro hc3 hc4))))
  rw [hW0] at C1
  clear hV hok hch hal hb0 hadS hc1 hc2 hc3 hc4 hP hv hadS0 hu1 hu2 hu3 hu4 hP0 hu hlen
  go_enter Tryz.func11, Tryz.ntmps11
  go_wp2_with (fail)
  (with_reducible refine C1.out.mono ?_)
  rintro e w1 ⟨rfl, hb1⟩
  rw [show (w.alloc (Obj.cells #[Value.int IntKind.i64 0, Value.int IntKind.i64 0, Value.int IntKind.i64 0, Value.int IntKind.i64 0, Value.slice none 0 0, Value.slice none 0 0] 46)) = W0 from hW0.symm] at hb1
  have hbx := (hb1.block w.heap.size (Array.getElem?_eq_some_iff.1 HB0.out).1).trans HB0.out
  have HBX := Lib.hid hbx
  have hbw := below_then HAL.out hb1
  obtain ⟨hadS, hc1, hc2, hc3, hc4⟩ := HC.out
  have e1 := (hbw.cell (p := ad.add (k * 4)) (by rw [block_of_add]; exact hadS)).trans hc1
  have e2 := (hbw.cell (p := ⟨(ad.add (k * 4)).block, (ad.add (k * 4)).off + 1, none⟩) (by show (ad.add (k * 4)).block < _; rw [block_of_add]; exact hadS)).trans hc2
  have e3 := (hbw.cell (p := ⟨(ad.add (k * 4)).block, (ad.add (k * 4)).off + 2, none⟩) (by show (ad.add (k * 4)).block < _; rw [block_of_add]; exact hadS)).trans hc3
  have e4 := (hbw.cell (p := ⟨(ad.add (k * 4)).block, (ad.add (k * 4)).off + 3, none⟩) (by show (ad.add (k * 4)).block < _; rw [block_of_add]; exact hadS)).trans hc4
  have HBW := Lib.hid hbw
  have hd1 : decide ((k : Int) + 1 ≤ (m : Int) + 1) = false := by simp; omega
  have hd2 : decide (k ≤ m) = false := by simp; omega
  have hd3 : decide ((k : Int) ≤ (m : Int)) = false := by simp; omega
  have hd4 : decide ((0 : Int) < (m : Int) + 1) = true := by simpa using (by omega : (0 : Int) < (m : Int) + 1)
  have HM : Hid (w1.cell? ⟨(ad.add (m * 4)).block, (ad.add (m * 4)).off + 1, none⟩ = some (.slice A0 n0 c0) ∧ ad.block < w.heap.size) := Lib.hid ⟨(hbw.cell (p := ⟨(ad.add (m * 4)).block, (ad.add (m * 4)).off + 1, none⟩) (by show (ad.add (m * 4)).block < _; rw [block_of_add]; exact hadS)).trans HU.out, hadS⟩
  have hS1 : w.heap.size < w1.heap.size := (Array.getElem?_eq_some_iff.1 hbx).1
  have hal2 : Below w1.heap.size w1 (w1.alloc (Obj.cells #[Value.int IntKind.i64 no, Value.slice A' n' c', Value.int IntKind.i64 cost, Value.bool best] 34)) := alloc_lt _
  have hbx2 := (hal2.block w.heap.size hS1).trans hbx
  have hl2 := heap_alloc_new w1 (Obj.cells #[Value.int IntKind.i64 no, Value.slice A' n' c', Value.int IntKind.i64 cost, Value.bool best] 34)
  have HBX2 := Lib.hid hbx2
  have HL2 := Lib.hid hl2
  have HBW2 := Lib.hid (below_then hbw hal2)
  have HS1 := Lib.hid hS1
  clear hb1 C1 hW0 hbx hadS hc1 hc2 hc3 hc4 hbw hal2 hbx2 hl2 hS1
  go_wp2_with (fail)
  (with_reducible refine (C2 _).out.mono ?_)
  rintro e w2 ⟨rfl, rfl⟩
  go_wp2_with (fail)
  (with_reducible refine (C3 _).out.mono ?_)
  rintro e w2 ⟨rfl, rfl⟩
  go_upto_region 8 with (fail)
  obtain ⟨L, hL⟩ : ∃ L, L = w1.heap.size := ⟨_, rfl⟩
  rw [← hL] at HL2 HS1 ⊢
  generalize (w1.alloc (Obj.cells #[Value.int IntKind.i64 no, Value.slice A' n' c', Value.int IntKind.i64 cost, Value.bool best] 34)) = W2 at *
  have hSL := HS1.out
  obtain ⟨⟨z0, z1, z2, z3, z4, z5⟩, hf⟩ := six_cells HBX2.out
  have f0 := hf 0
  have f1 := hf 1
  have f2 := hf 2
  have f3 := hf 3
  have f4 := hf 4
  have f5 := hf 5
  have l0 : W2.cell? ⟨L, 0, none⟩ = some (.int .i64 no) := by rw [cell_of_row _ _ _ _ _ _ HL2.out]; rfl
  clear hf e1 e2 e3 e4 hL
  go_upto_region 9 with (fail)
  obtain ⟨g1, _, g3⟩ := six_fin (.int .i64 1) (.int .i64 0) (.int .i64 0) (.int .i64 no) (.slice none 0 0) (.slice none 0 0) HBX2.out
  have FIN := Lib.hid (g3 _ _ HBW2.out (Nat.le_refl _))
  obtain ⟨F, hF⟩ : ∃ F, F = six W2 w.heap.size (.int .i64 1) (.int .i64 0) (.int .i64 0) (.int .i64 no) (.slice none 0 0) (.slice none 0 0) := ⟨_, rfl⟩
  have hFL : F.heap[L]? = some (.cells #[Value.int IntKind.i64 no, Value.slice A' n' c', Value.int IntKind.i64 cost, Value.bool best] 34 (0, 0)) := by
    rw [hF]
    have ne : L ≠ w.heap.size := by omega
    exact (heap_setCell_other _ _ _ _ ne).trans ((heap_setCell_other _ _ _ _ ne).trans ((heap_setCell_other _ _ _ _ ne).trans ((heap_setCell_other _ _ _ _ ne).trans ((heap_setCell_other _ _ _ _ ne).trans ((heap_setCell_other _ _ _ _ ne).trans HL2.out)))))
  rw [← hF] at g1 FIN
  rw [show (((((W2.setCell ⟨w.heap.size, 0, none⟩ (.int .i64 1)).setCell ⟨w.heap.size, 1, none⟩ (.int .i64 0)).setCell ⟨w.heap.size, 2, none⟩ (.int .i64 0)).setCell ⟨w.heap.size, 3, none⟩ (.int .i64 no)).setCell ⟨w.heap.size, 4, none⟩ (.slice none 0 0)).setCell ⟨w.heap.size, 5, none⟩ (.slice none 0 0) = F from hF.symm]
  have l1 : F.cell? ⟨L, 1, none⟩ = some (.slice A' n' c') := by rw [cell_of_row _ _ _ _ _ _ hFL]; rfl
  have hFm : F.cell? ⟨(ad.add (m * 4)).block, (ad.add (m * 4)).off + 1, none⟩ = some (.slice A0 n0 c0) := by
    have hb9 := FIN.out
    exact (hb9.cell (p := ⟨(ad.add (m * 4)).block, (ad.add (m * 4)).off + 1, none⟩) (by show (ad.add (m * 4)).block < _; rw [block_of_add]; exact HM.out.2)).trans HU.out
  have G1 := Lib.hid g1
  have HFL := Lib.hid hFL
  clear g1 g3 hF z0 z1 z2 z3 z4 z5 f0 f1 f2 f3 f4 f5 l0
  have C33 : Hid (∀ W, Below F.heap.size F W → Calls Tryz.prog 33 #[.agg #[.slice A0 n0 c0], .agg #[.slice A' n' c']] W (fun e w' => e = .returned (.tuple #[.slice none 0 0, .int .i64 1]) ∧ Below W.heap.size W w')) := Lib.hid (fun W _ => diff_ne W n0 c0 n' c' A0 A' (by have := HP0.out.len; have := HWL0.out; omega) (by have := HP.out.len; have := HWL.out; omega) (by have h1 := HP0.out.len; have h2 := HP.out.len; have := HLEN.out; omega))
  have hmk1 : decide (m < k + 1) = true := by simp; omega
  have hmi0 : (0 : Int) ≤ (m : Int) := by omega
  have hmi1 : (m : Int) < (k : Int) + 1 := by omega
  have hmi2 : m < k + 1 := by omega
  have hmi3 : m ≤ k := by omega
  have hmi4 : (m : Int) ≤ (k : Int) := by omega
  have hmw : IntKind.i64.wrap ((m : Int) + 1 - 1) = (m : Int) := by rw [show (m : Int) + 1 - 1 = m by omega]; exact IntWalk.i64_in _ (by omega)
  have hmw2 : IntKind.i64.wrap (m : Int) = (m : Int) := IntWalk.i64_in _ (by omega)
  clear hmk
  go_upto_region 10 with (fail)
  go_region_held3 (fun w' => w'.cell? ⟨(ad.add (m * 4)).block, (ad.add (m * 4)).off + 1, none⟩ = some (.slice A0 n0 c0) ∧ w'.cell? ⟨L, 1, none⟩ = some (.slice A' n' c')) (first | (exact ⟨hFm, l1⟩) | (exact ⟨y0, y1⟩) | go_keep)
    (first
      | (go_at_call 33
         (with_reducible refine (C33.out _ (Below.refl _ _).drew).mono ?_)
         rintro e w5 ⟨rfl, hb5⟩
         have hb6 := below_then (Below.refl F.heap.size F).drew hb5
         have j5 := (hb6.block L (Array.getElem?_eq_some_iff.1 HFL.out).1).trans HFL.out
         have y0 : w5.cell? ⟨(ad.add (m * 4)).block, (ad.add (m * 4)).off + 1, none⟩ = some (.slice A0 n0 c0) := by rw [hb6.cell (p := ⟨(ad.add (m * 4)).block, (ad.add (m * 4)).off + 1, none⟩) (by show (ad.add (m * 4)).block < _; rw [block_of_add]; exact Nat.lt_of_lt_of_le HM.out.2 FIN.out.size)]; exact hFm
         have y1 : w5.cell? ⟨L, 1, none⟩ = some (.slice A' n' c') := by rw [cell_of_row _ _ _ _ _ _ j5]; rfl
         have FIN5 := Lib.hid (below_then FIN.out hb6)
         have G5 := Lib.hid ((hb6.block w.heap.size (Array.getElem?_eq_some_iff.1 G1.out).1).trans G1.out)
         clear hb5 hb6 j5))
  have C34 := Lib.hid (clone_places w5 n' c' A' week (HP.out.belowLt FIN5.out) (by have := HP.out.len; have := HWL.out; omega))
  go_wp2_with (fail)
  (with_reducible refine C34.out.mono ?_)
  rintro e w3 ⟨A3, n3, c3, rfl, ho3, hb3⟩
  have hl3 := (hb3.block w.heap.size (Array.getElem?_eq_some_iff.1 G5.out).1).trans G5.out
  obtain ⟨⟨z0, z1, z2, z3, z4, z5⟩, hf⟩ := six_cells hl3
  have f4 := hf 4
  have HL3 := Lib.hid hl3
  have HB3 := Lib.hid (below_then FIN5.out hb3)
  have HO3 := Lib.hid ho3
  clear hf hl3 hb3 ho3 C34
  go_upto_region 15 with (fail)
  have hl4 : (w3.setCell ⟨w.heap.size, 4, none⟩ (.slice A3 n3 c3)).heap[w.heap.size]? = some (.cells (msgV 1 0 0 no (.slice A3 n3 c3) (.slice none 0 0)) 46 (0, 0)) := one_put (i := 4) HL3.out
  have hb4 : Below w.heap.size w (w3.setCell ⟨w.heap.size, 4, none⟩ (.slice A3 n3 c3)) := HB3.out.setCell (Nat.le_refl _) _
  have n46 : ∀ (x : Array Value) cs, Obj.cells x 46 (0, 0) ≠ .cells cs 104 (0, 0) := fun x cs e => by injection e; rename_i e1 e2 e3; exact absurd e2 (by decide)
  have ho4 : (w3.setCell ⟨w.heap.size, 4, none⟩ (.slice A3 n3 c3)).ownsRow w5.heap.size 104 2 (.slice A3 n3 c3) n3 (flat week) := ownsRow_setCell_other HO3.out (own_other HO3.out HL3.out (n46 _)) _
  generalize (w3.setCell ⟨w.heap.size, 4, none⟩ (.slice A3 n3 c3)) = W4 at *
  clear z0 z1 z2 z3 z4 z5 f4
  obtain ⟨⟨z0, z1, z2, z3, z4, z5⟩, hf⟩ := six_cells hl4
  have f0 := hf 0
  have f1 := hf 1
  have f2 := hf 2
  have f3 := hf 3
  have f4 := hf 4
  have f5 := hf 5
  obtain ⟨g1, g2, g3⟩ := six_fin (.int .i64 1) (.int .i64 0) (.int .i64 0) (.int .i64 no) (.slice A3 n3 c3) (.slice none 0 0) hl4
  have FIN2 := Lib.hid (g3 _ _ hb4 (Nat.le_refl _))
  obtain ⟨F2, hF2⟩ : ∃ F2, F2 = six W4 w.heap.size (.int .i64 1) (.int .i64 0) (.int .i64 0) (.int .i64 no) (.slice A3 n3 c3) (.slice none 0 0) := ⟨_, rfl⟩
  rw [← hF2] at g1 g2 FIN2
  have ha4 : Arr F2 A3 n3 c3 week := Arr.of_own (ho4.kept g2 (by
    have := own_other ho4 hl4 (n46 _)
    exact .inr this))
  have HA4 := Lib.hid ha4
  have G1' := Lib.hid g1
  have HF2 := Lib.hid hF2
  clear hf hF2 g1 g2 g3 ho4 hb4 hl4 n46 ha4
  go_wp2_with (fail)
  rw [show (((((W4.setCell ⟨w.heap.size, 0, none⟩ (.int .i64 1)).setCell ⟨w.heap.size, 1, none⟩ (.int .i64 0)).setCell ⟨w.heap.size, 2, none⟩ (.int .i64 0)).setCell ⟨w.heap.size, 3, none⟩ (.int .i64 no)).setCell ⟨w.heap.size, 4, none⟩ (.slice A3 n3 c3)).setCell ⟨w.heap.size, 5, none⟩ (.slice none 0 0) = F2 from HF2.out.symm]
  exact bodyPost_ret (v := .tuple #[.agg #[.int .i64 1, .int .i64 0, .int .i64 0, .int .i64 no, .slice A3 n3 c3, .slice none 0 0], .int .i64 0]) (results_row2 (p := 6) (u := 7) rfl _ _ w.heap.size 46 _ (0, 0) _ rfl rfl G1'.out Tryz.underlying46 rfl info46) rfl ⟨A3, n3, c3, rfl, HA4.out, FIN2.out⟩
end Go.Proofs.YtpncejdamjbnlaaGreatDoor
end
section
namespace Go.Proofs.YtpncejdamjbnlaaGreatDoor
open Go.RowKit Jour
def RetMoves (w : World) (m : Nat) (no : Int) (ms : List Mv) (e : Ending) (w' : World) : Prop := ∃ A n c, e = .returned (.tuple #[.agg (msgV 2 0 ((m : Int) + 1) no (.slice none 0 0) (.slice A n c)), .int .i64 0]) ∧ Arr w' A n c ms ∧ Below w.heap.size w w'
set_option maxHeartbeats 1000000 in
set_option maxRecDepth 100000 in
theorem reply_diff (w : World) (k m c : Nat) (A : Option Addr) (vs : List Ver) (v : Ver) (hV : VersOf w A (k + 1) c vs) (hn : k + 1 ≤ 64) (hok : OkV 0 vs) (hch : chk vs = true) (hv : vs[k]? = some v) (u : Ver) (hu : vs[m]? = some u) (hmk : m < k) (hlen : u.week.length = v.week.length) :
    Calls Tryz.prog 11 #[.slice A ((k + 1 : Nat) : Nat) c, .int .i64 ((m : Int) + 1), .int .i64 0] w (RetMoves w m v.no (Feed.diff 0 u.week v.week)) := by
  obtain ⟨W0, hW0⟩ : ∃ W0, W0 = (w.alloc (Obj.cells (msgV 0 0 0 0 (.slice none 0 0) (.slice none 0 0)) 46)) := ⟨_, rfl⟩
  have hal : Below w.heap.size w W0 := by rw [hW0]; exact alloc_lt _
  have hb0 : W0.heap[w.heap.size]? = some (.cells (msgV 0 0 0 0 (.slice none 0 0) (.slice none 0 0)) 46 (0, 0)) := by rw [hW0]; exact heap_alloc_new _ _
  have C1 : Hid (Calls Tryz.prog 10 #[.slice A (k + 1) c] W0 (fun e w' => e = .returned (.int .i64 0) ∧ Below W0.heap.size W0 w')) := Lib.hid (by
    have := check_any W0 (k + 1) c A vs (hV.belowLt hal) hn hok
    rw [hch, if_pos rfl] at this
    exact this)
  have C3 : ∀ W, Hid (Calls Tryz.prog 30 #[.int .i64 0, .int .i64 0, .int .i64 7] W (RetBoolSame W true)) := fun W => Lib.hid (fwithin_any 0 0 7 W)
  have C2 : ∀ W, Hid (Calls Tryz.prog 30 #[.int .i64 ((m : Int) + 1), .int .i64 0, .int .i64 1099511627776] W (RetBoolSame W true)) := fun W => Lib.hid (by
    have := fwithin_any ((m : Int) + 1) 0 1099511627776 W
    rwa [show (decide ((0 : Int) ≤ (m : Int) + 1) && decide ((m : Int) + 1 ≤ 1099511627776)) = true by simp; omega] at this)
  have HAL := Lib.hid hal
  have HB0 := Lib.hid hb0
  have cap1 := hV.cap
  have max1 := hV.max
  unfold maxLen at max1
  obtain ⟨ad, A', n', c', rfl, hadS, hc1, hc2, hc3, hc4, hP⟩ := hV.at_ hv
  obtain ⟨ad1, A0, n0, c0, ead, hadS0, hu1, hu2, hu3, hu4, hP0⟩ := hV.at_ hu
  injection ead with ead
  subst ead
  obtain ⟨no, week, cost, best⟩ := v
  obtain ⟨no0, week0, cost0, best0⟩ := u
  dsimp only at hc1 hc2 hc3 hc4 hP hu1 hu2 hu3 hu4 hP0 hlen ⊢
  have HU := Lib.hid hu2
  have HP0 := Lib.hid hP0
  have HWL0 : Hid (week0.length ≤ 64) := Lib.hid (hok m _ hu).2.2.2
  have HLEN := Lib.hid hlen
  have HMK := Lib.hid hmk
  have HP := Lib.hid hP
  have HWL : Hid (week.length ≤ 64) := Lib.hid (hok k _ hv).2.2.2
  have HC := Lib.hid (And.intro hadS (And.intro hc1 (And.intro hc2 (And.intro hc3 hc4))))
  rw [hW0] at C1
  clear hV hok hch hal hb0 hadS hc1 hc2 hc3 hc4 hP hv hadS0 hu1 hu2 hu3 hu4 hP0 hu hlen
  go_enter Tryz.func11, Tryz.ntmps11
  go_wp2_with (fail)
  (with_reducible refine C1.out.mono ?_)
  rintro e w1 ⟨rfl, hb1⟩
  rw [show (w.alloc (Obj.cells #[Value.int IntKind.i64 0, Value.int IntKind.i64 0, Value.int IntKind.i64 0, Value.int IntKind.i64 0, Value.slice none 0 0, Value.slice none 0 0] 46)) = W0 from hW0.symm] at hb1
  have hbx := (hb1.block w.heap.size (Array.getElem?_eq_some_iff.1 HB0.out).1).trans HB0.out
  have HBX := Lib.hid hbx
  have hbw := below_then HAL.out hb1
  obtain ⟨hadS, hc1, hc2, hc3, hc4⟩ := HC.out
  have e1 := (hbw.cell (p := ad.add (k * 4)) (by rw [block_of_add]; exact hadS)).trans hc1
  have e2 := (hbw.cell (p := ⟨(ad.add (k * 4)).block, (ad.add (k * 4)).off + 1, none⟩) (by show (ad.add (k * 4)).block < _; rw [block_of_add]; exact hadS)).trans hc2
  have e3 := (hbw.cell (p := ⟨(ad.add (k * 4)).block, (ad.add (k * 4)).off + 2, none⟩) (by show (ad.add (k * 4)).block < _; rw [block_of_add]; exact hadS)).trans hc3
  have e4 := (hbw.cell (p := ⟨(ad.add (k * 4)).block, (ad.add (k * 4)).off + 3, none⟩) (by show (ad.add (k * 4)).block < _; rw [block_of_add]; exact hadS)).trans hc4
  have HBW := Lib.hid hbw
  have hd1 : decide ((k : Int) + 1 ≤ (m : Int) + 1) = false := by simp; omega
  have hd2 : decide (k ≤ m) = false := by simp; omega
  have hd3 : decide ((k : Int) ≤ (m : Int)) = false := by simp; omega
  have hd4 : decide ((0 : Int) < (m : Int) + 1) = true := by simpa using (by omega : (0 : Int) < (m : Int) + 1)
  have HM : Hid (w1.cell? ⟨(ad.add (m * 4)).block, (ad.add (m * 4)).off + 1, none⟩ = some (.slice A0 n0 c0) ∧ ad.block < w.heap.size) := Lib.hid ⟨(hbw.cell (p := ⟨(ad.add (m * 4)).block, (ad.add (m * 4)).off + 1, none⟩) (by show (ad.add (m * 4)).block < _; rw [block_of_add]; exact hadS)).trans HU.out, hadS⟩
  have hS1 : w.heap.size < w1.heap.size := (Array.getElem?_eq_some_iff.1 hbx).1
  have hal2 : Below w1.heap.size w1 (w1.alloc (Obj.cells #[Value.int IntKind.i64 no, Value.slice A' n' c', Value.int IntKind.i64 cost, Value.bool best] 34)) := alloc_lt _
  have hbx2 := (hal2.block w.heap.size hS1).trans hbx
  have hl2 := heap_alloc_new w1 (Obj.cells #[Value.int IntKind.i64 no, Value.slice A' n' c', Value.int IntKind.i64 cost, Value.bool best] 34)
  have HBX2 := Lib.hid hbx2
  have HL2 := Lib.hid hl2
  have HBW2 := Lib.hid (below_then hbw hal2)
  have HS1 := Lib.hid hS1
  clear hb1 C1 hW0 hbx hadS hc1 hc2 hc3 hc4 hbw hal2 hbx2 hl2 hS1
  go_wp2_with (fail)
  (with_reducible refine (C2 _).out.mono ?_)
  rintro e w2 ⟨rfl, rfl⟩
  go_wp2_with (fail)
  (with_reducible refine (C3 _).out.mono ?_)
  rintro e w2 ⟨rfl, rfl⟩
  go_upto_region 8 with (fail)
  obtain ⟨L, hL⟩ : ∃ L, L = w1.heap.size := ⟨_, rfl⟩
  rw [← hL] at HL2 HS1 ⊢
  generalize (w1.alloc (Obj.cells #[Value.int IntKind.i64 no, Value.slice A' n' c', Value.int IntKind.i64 cost, Value.bool best] 34)) = W2 at *
  have hSL := HS1.out
  obtain ⟨⟨z0, z1, z2, z3, z4, z5⟩, hf⟩ := six_cells HBX2.out
  have f0 := hf 0
  have f1 := hf 1
  have f2 := hf 2
  have f3 := hf 3
  have f4 := hf 4
  have f5 := hf 5
  have l0 : W2.cell? ⟨L, 0, none⟩ = some (.int .i64 no) := by rw [cell_of_row _ _ _ _ _ _ HL2.out]; rfl
  clear hf e1 e2 e3 e4 hL
  go_upto_region 9 with (fail)
  obtain ⟨g1, _, g3⟩ := six_fin (.int .i64 1) (.int .i64 0) (.int .i64 0) (.int .i64 no) (.slice none 0 0) (.slice none 0 0) HBX2.out
  have FIN := Lib.hid (g3 _ _ HBW2.out (Nat.le_refl _))
  obtain ⟨F, hF⟩ : ∃ F, F = six W2 w.heap.size (.int .i64 1) (.int .i64 0) (.int .i64 0) (.int .i64 no) (.slice none 0 0) (.slice none 0 0) := ⟨_, rfl⟩
  have hFL : F.heap[L]? = some (.cells #[Value.int IntKind.i64 no, Value.slice A' n' c', Value.int IntKind.i64 cost, Value.bool best] 34 (0, 0)) := by
    rw [hF]
    have ne : L ≠ w.heap.size := by omega
    exact (heap_setCell_other _ _ _ _ ne).trans ((heap_setCell_other _ _ _ _ ne).trans ((heap_setCell_other _ _ _ _ ne).trans ((heap_setCell_other _ _ _ _ ne).trans ((heap_setCell_other _ _ _ _ ne).trans ((heap_setCell_other _ _ _ _ ne).trans HL2.out)))))
  rw [← hF] at g1 FIN
  rw [show (((((W2.setCell ⟨w.heap.size, 0, none⟩ (.int .i64 1)).setCell ⟨w.heap.size, 1, none⟩ (.int .i64 0)).setCell ⟨w.heap.size, 2, none⟩ (.int .i64 0)).setCell ⟨w.heap.size, 3, none⟩ (.int .i64 no)).setCell ⟨w.heap.size, 4, none⟩ (.slice none 0 0)).setCell ⟨w.heap.size, 5, none⟩ (.slice none 0 0) = F from hF.symm]
  have l1 : F.cell? ⟨L, 1, none⟩ = some (.slice A' n' c') := by rw [cell_of_row _ _ _ _ _ _ hFL]; rfl
  have hFm : F.cell? ⟨(ad.add (m * 4)).block, (ad.add (m * 4)).off + 1, none⟩ = some (.slice A0 n0 c0) := by
    have hb9 := FIN.out
    exact (hb9.cell (p := ⟨(ad.add (m * 4)).block, (ad.add (m * 4)).off + 1, none⟩) (by show (ad.add (m * 4)).block < _; rw [block_of_add]; exact HM.out.2)).trans HU.out
  have G1 := Lib.hid g1
  have HFL := Lib.hid hFL
  clear g1 g3 hF z0 z1 z2 z3 z4 z5 f0 f1 f2 f3 f4 f5 l0
  have C33 : Hid (∀ W, Below F.heap.size F W → Calls Tryz.prog 33 #[.agg #[.slice A0 n0 c0], .agg #[.slice A' n' c']] W (RetDiff W (Feed.diff 0 week0 week))) := Lib.hid (fun W hW => by
    have e : n0 = n' := by have h1 := HP0.out.len; have h2 := HP.out.len; have := HLEN.out; omega
    subst e
    exact diff_any W n0 c0 c' A0 A' week0 week (HP0.out.belowLt (FIN.out.trans (hW.mono FIN.out.size))) (HP.out.belowLt (FIN.out.trans (hW.mono FIN.out.size))) (by have := HP0.out.len; have := HWL0.out; omega))
  have hmk1 : decide (m < k + 1) = true := by simp; omega
  have hmi0 : (0 : Int) ≤ (m : Int) := by omega
  have hmi1 : (m : Int) < (k : Int) + 1 := by omega
  have hmi2 : m < k + 1 := by omega
  have hmi3 : m ≤ k := by omega
  have hmi4 : (m : Int) ≤ (k : Int) := by omega
  have hmw : IntKind.i64.wrap ((m : Int) + 1 - 1) = (m : Int) := by rw [show (m : Int) + 1 - 1 = m by omega]; exact IntWalk.i64_in _ (by omega)
  have hmw2 : IntKind.i64.wrap (m : Int) = (m : Int) := IntWalk.i64_in _ (by omega)
  clear hmk
  go_upto_region 10 with (fail)
  go_region_held3 (fun w' => w'.cell? ⟨(ad.add (m * 4)).block, (ad.add (m * 4)).off + 1, none⟩ = some (.slice A0 n0 c0) ∧ w'.cell? ⟨L, 1, none⟩ = some (.slice A' n' c')) (first | (exact ⟨hFm, l1⟩) | (exact ⟨y0, y1⟩) | go_keep)
    (first
      | (go_at_call 33
         (with_reducible refine (C33.out _ (Below.refl _ _).drew).mono ?_)
         rintro e w5 ⟨A5, n5, c5, rfl, ho5, hb5⟩
         have hb6 := below_then (Below.refl F.heap.size F).drew hb5
         have j5 := (hb6.block L (Array.getElem?_eq_some_iff.1 HFL.out).1).trans HFL.out
         have y0 : w5.cell? ⟨(ad.add (m * 4)).block, (ad.add (m * 4)).off + 1, none⟩ = some (.slice A0 n0 c0) := by rw [hb6.cell (p := ⟨(ad.add (m * 4)).block, (ad.add (m * 4)).off + 1, none⟩) (by show (ad.add (m * 4)).block < _; rw [block_of_add]; exact Nat.lt_of_lt_of_le HM.out.2 FIN.out.size)]; exact hFm
         have y1 : w5.cell? ⟨L, 1, none⟩ = some (.slice A' n' c') := by rw [cell_of_row _ _ _ _ _ _ j5]; rfl
         have FIN5 := Lib.hid (below_then FIN.out hb6)
         have G5 := Lib.hid ((hb6.block w.heap.size (Array.getElem?_eq_some_iff.1 G1.out).1).trans G1.out)
         have HO5 := Lib.hid ho5
         clear hb5 hb6 j5 ho5))
  obtain ⟨⟨z0, z1, z2, z3, z4, z5⟩, hf⟩ := six_cells G5.out
  have f0 := hf 0
  have f2 := hf 2
  have f5 := hf 5
  go_upto_region 13 with (fail)
  obtain ⟨W4, hW4⟩ : ∃ W4, W4 = (((w5.setCell ⟨w.heap.size, 0, none⟩ (.int .i64 2)).setCell ⟨w.heap.size, 2, none⟩ (.int .i64 ((m : Int) + 1))).setCell ⟨w.heap.size, 5, none⟩ (.slice A5 n5 c5)) := ⟨_, rfl⟩
  have hl4 : W4.heap[w.heap.size]? = some (.cells (msgV 2 0 ((m : Int) + 1) no (.slice none 0 0) (.slice A5 n5 c5)) 46 (0, 0)) := by rw [hW4]; exact one_put (i := 5) (one_put (i := 2) (one_put (i := 0) G5.out))
  have hb4 : Below w.heap.size w W4 := by rw [hW4]; exact ((FIN5.out.setCell (Nat.le_refl _) _).setCell (Nat.le_refl _) _).setCell (Nat.le_refl _) _
  have n46 : ∀ (x : Array Value) cs, Obj.cells x 46 (0, 0) ≠ .cells cs 158 (0, 0) := fun x cs e => by injection e; rename_i e1 e2 e3; exact absurd e2 (by decide)
  have hx5 := own_other HO5.out G5.out (n46 _)
  have ho4 : W4.ownsRow F.drew.heap.size 158 3 (.slice A5 n5 c5) n5 (flat (Feed.diff 0 week0 week)) := by rw [hW4]; exact ownsRow_setCell_other (ownsRow_setCell_other (ownsRow_setCell_other HO5.out hx5 _) hx5 _) hx5 _
  rw [← hW4]
  clear hW4 z0 z1 z2 z3 z4 z5 f0 f2 f5 hx5 hf
  obtain ⟨⟨z0, z1, z2, z3, z4, z5⟩, hf⟩ := six_cells hl4
  have f0 := hf 0
  have f1 := hf 1
  have f2 := hf 2
  have f3 := hf 3
  have f4 := hf 4
  have f5 := hf 5
  obtain ⟨g1, g2, g3⟩ := six_fin (.int .i64 2) (.int .i64 0) (.int .i64 ((m : Int) + 1)) (.int .i64 no) (.slice none 0 0) (.slice A5 n5 c5) hl4
  have FIN2 := Lib.hid (g3 _ _ hb4 (Nat.le_refl _))
  obtain ⟨F2, hF2⟩ : ∃ F2, F2 = six W4 w.heap.size (.int .i64 2) (.int .i64 0) (.int .i64 ((m : Int) + 1)) (.int .i64 no) (.slice none 0 0) (.slice A5 n5 c5) := ⟨_, rfl⟩
  rw [← hF2] at g1 g2 FIN2
  have ha4 : Arr F2 A5 n5 c5 (Feed.diff 0 week0 week) := Arr.of_own (ho4.kept g2 (by
    have := own_other ho4 hl4 (n46 _)
    exact .inr this))
  have HA4 := Lib.hid ha4
  have G1' := Lib.hid g1
  have HF2 := Lib.hid hF2
  clear hf hF2 g1 g2 g3 ho4 hb4 hl4 n46 ha4
  go_wp2_with (fail)
  rw [show (((((W4.setCell ⟨w.heap.size, 0, none⟩ (.int .i64 2)).setCell ⟨w.heap.size, 1, none⟩ (.int .i64 0)).setCell ⟨w.heap.size, 2, none⟩ (.int .i64 ((m : Int) + 1))).setCell ⟨w.heap.size, 3, none⟩ (.int .i64 no)).setCell ⟨w.heap.size, 4, none⟩ (.slice none 0 0)).setCell ⟨w.heap.size, 5, none⟩ (.slice A5 n5 c5) = F2 from HF2.out.symm]
  exact bodyPost_ret (v := .tuple #[.agg #[.int .i64 2, .int .i64 0, .int .i64 ((m : Int) + 1), .int .i64 no, .slice none 0 0, .slice A5 n5 c5], .int .i64 0]) (results_row2 (p := 6) (u := 7) rfl _ _ w.heap.size 46 _ (0, 0) _ rfl rfl G1'.out Tryz.underlying46 rfl info46) rfl ⟨A5, n5, c5, rfl, HA4.out, FIN2.out⟩
end Go.Proofs.YtpncejdamjbnlaaGreatDoor
end
