/-
  lin.fold and lin.Value at unit coefficients.
-/
import Derived.Test.YtanbkdfffojpnaaLin
namespace Go.Proofs.Ytanbkdfffojpnaa
open Go.RowKit

theorem litC_snoc {l : List Int} {a : List Bool} {k : Nat} (hk : k < l.length) : (l.take (k + 1)).countP (litT · a) = (l.take k).countP (litT · a) + if litT (l.getD k 0) a = true then 1 else 0 := by
  rw [List.take_succ_eq_append_getElem hk, List.countP_append, List.getD_eq_getElem?_getD, List.getElem?_eq_getElem hk]
  simp [List.countP_cons]

set_option maxHeartbeats 2000000 in
set_option maxRecDepth 100000 in
theorem fold_any (w : World) (b : Nat) (n c c' : Nat) (A A' : Option Addr) (xs ones : List Int) (k : Int) (Ab : Option Addr) (nb cb : Nat) (a : List Bool) (hL : Ints w (Lt w) A n c xs) (hC : Ints w (Lt w) A' n c' ones) (h1 : ∀ x ∈ ones, x = 1) (hx : ∀ x ∈ xs, x ≠ 0 ∧ -65536 ≤ x ∧ x ≤ 65536)
    (hb : w.heap[b]? = some (.cells #[.slice Ab nb cb] 30 (0, 0))) (hB : Bools w Ab nb cb a) (hn : n ≤ 100) :
    Calls Try.prog 39 #[.agg #[.slice A' n c', .slice A n c, .int .i64 k], .int .i64 0, .func (.func 40) #[] #[.pointer (some ⟨b, 0, none⟩)]] w (RetIntBelow w (xs.countP (litT · a) : Nat)) := by
  obtain ⟨W, hW⟩ : ∃ W, W = w.alloc (.cells #[.slice A' n c', .slice A n c, .int .i64 k] 43) := ⟨_, rfl⟩
  have hbw : Below w.heap.size w W := by rw [hW]; exact alloc_lt _
  have b1 : W.heap[w.heap.size]? = some (.cells #[.slice A' n c', .slice A n c, .int .i64 k] 43 (0, 0)) := by rw [hW]; exact heap_alloc_new w _
  have hE40 : ∀ (a : Array Value) (w : World), (callFunc 40 a).run Try.prog w = .ok (.enter 40 a) w := fun _ _ => by kernel_rfl
  have c1 : W.cell? ⟨w.heap.size, 1, none⟩ = some (.slice A n c) := by rw [cell_of_row _ _ _ _ _ _ b1]; rfl
  have hcn := hL.cap
  have hmx := hL.max
  have hcn' := hC.cap
  unfold maxLen at hmx
  have HL := Lib.hid (hL.belowLt hbw)
  have HC := Lib.hid (hC.belowLt hbw)
  have HBX := Lib.hid ((hbw.block _ (lt_of_block hb)).trans hb)
  have HBB := Lib.hid (hB.belowLt hbw)
  have H1 := Lib.hid h1
  have HX := Lib.hid hx
  have HW := Lib.hid hbw
  have B1 := Lib.hid b1
  clear hL hC h1 hx hb hB hbw b1
  go_enter Try.func39, Try.ntmps39
  go_upto_region 1 with (fail)
  rw [← hW]
  clear hW
  go_wp2
  go_loopw [1, 12] (fun v1 v12 wr => ∃ i : Nat, i ≤ n ∧ v12 = .int .i64 i ∧ v1 = .int .i64 ((xs.take i).countP (litT · a) : Nat) ∧ Below W.heap.size W wr) (fun _ v12 _ => n - (intOf v12).toNat)
  case atStart => exact ⟨0, Nat.zero_le _, rfl, rfl, Below.refl _ _⟩
  case round =>
    obtain ⟨i, hi, rfl, rfl, hb2⟩ := hrel
    have hle : (xs.take i).countP (litT · a) ≤ i := by
      refine Nat.le_trans List.countP_le_length ?_
      simp; omega
    by_cases hlt : i < n
    · obtain ⟨ad, rfl, hadS, hcell⟩ := HL.out.at_ hlt
      obtain ⟨ad', rfl, hadS', hcell'⟩ := HC.out.at_ hlt
      have e1 := (hb2.cell (p := ad.add i) (by rw [block_of_add]; exact hadS)).trans hcell
      have e2 := (hb2.cell (p := ad'.add i) (by rw [block_of_add]; exact hadS')).trans hcell'
      have bb := (hb2.block _ (lt_of_block B1.out)).trans B1.out
      have e3 : wr.cell? ⟨w.heap.size, 0, none⟩ = some (.slice (some ad') n c') := by rw [cell_of_row _ _ _ _ _ _ bb]; rfl
      have ho1 : ones.getD i 0 = 1 := H1.out _ (by rw [List.getD_eq_getElem?_getD, List.getElem?_eq_getElem (by have := HC.out.len; omega)]; exact List.getElem_mem _)
      rw [ho1] at e2
      have hxx := HX.out (xs.getD i 0) (by rw [List.getD_eq_getElem?_getD, List.getElem?_eq_getElem (by have := HL.out.len; omega)]; exact List.getElem_mem _)
      have HSN := Lib.hid (litC_snoc (a := a) (show i < xs.length by have := HL.out.len; omega))
      have call := linStep_any wr b Ab nb cb a ((xs.take i).countP (litT · a) : Nat) (xs.getD i 0) ((hb2.block _ (lt_of_block HBX.out)).trans HBX.out) (HBB.out.belowLt hb2) hxx.1 hxx.2.1 hxx.2.2 (by omega) (by omega)
      generalize (xs.take i).countP (litT · a) = q at *
      generalize hit : (if litT (xs.getD i 0) a = true then 1 else 0) = it at *
      have hcast : (if litT (xs.getD i 0) a = true then (1 : Int) else 0) = ((it : Nat) : Int) := by rw [← hit]; split <;> rfl
      rw [hcast] at call
      have CALL := Lib.hid call
      have HB2 := Lib.hid hb2
      clear hcell hcell' hadS hadS' ho1 hxx call bb hit hcast hb2
      generalize xs.getD i 0 = x at *
      go_wp2_with (fail)
      (with_reducible refine CALL.out.mono ?_)
      rintro e w3 ⟨rfl, hb3⟩
      have HB3 := Lib.hid (below_then HB2.out hb3)
      clear hb3
      go_wp2_with (fail)
      go_roundw
      case rel => exact ⟨i + 1, by omega, by go_num, by rw [HSN.out]; go_num, HB3.out⟩
      case measure => simp [intOf]; omega
    · have hfull : xs.take i = xs := List.take_of_length_le (by have := HL.out.len; omega)
      rw [hfull] at hle ⊢
      have HB2 := Lib.hid hb2
      clear hb2 hfull
      generalize hq : xs.countP (litT · a) = q at *
      have HQ := Lib.hid hq
      clear hq
      go_wp2
      go_ret
      exact ⟨by rw [HQ.out]; rfl, below_then HW.out HB2.out⟩

set_option maxHeartbeats 2000000 in
set_option maxRecDepth 100000 in
theorem linValue_any (w : World) (n c c' : Nat) (A A' : Option Addr) (xs ones : List Int) (k : Int) (Ab : Option Addr) (nb cb : Nat) (a : List Bool) (hL : Ints w (Lt w) A n c xs) (hC : Ints w (Lt w) A' n c' ones) (h1 : ∀ x ∈ ones, x = 1) (hx : ∀ x ∈ xs, x ≠ 0 ∧ -65536 ≤ x ∧ x ≤ 65536)
    (hB : Bools w Ab nb cb a) (hn : n ≤ 100) (hk0 : -100 ≤ k) (hk1 : k ≤ 100) :
    Calls Try.prog 25 #[.agg #[.slice A' n c', .slice A n c, .int .i64 k], .slice Ab nb cb] w (RetBoolBelow w (decide (k ≤ (xs.countP (litT · a) : Nat)))) := by
  obtain ⟨W, hW⟩ : ∃ W, W = (w.alloc (.cells #[.slice A' n c', .slice A n c, .int .i64 k] 43)).alloc (.cells #[.slice Ab nb cb] 30) := ⟨_, rfl⟩
  have hbw : Below w.heap.size w W := by rw [hW]; exact below_then (alloc_lt _) (alloc_lt _)
  have b1 : W.heap[w.heap.size]? = some (.cells #[.slice A' n c', .slice A n c, .int .i64 k] 43 (0, 0)) := by
    rw [hW, Below.heap_alloc _ _ _ (by simp)]; exact heap_alloc_new w _
  have b2 : W.heap[w.heap.size + 1]? = some (.cells #[.slice Ab nb cb] 30 (0, 0)) := by
    rw [hW]
    have := heap_alloc_new (w.alloc (.cells #[.slice A' n c', .slice A n c, .int .i64 k] 43)) (.cells #[.slice Ab nb cb] 30)
    simpa using this
  have c0 : W.cell? ⟨w.heap.size, 0, none⟩ = some (.slice A' n c') := by rw [cell_of_row _ _ _ _ _ _ b1]; rfl
  have c1 : W.cell? ⟨w.heap.size, 1, none⟩ = some (.slice A n c) := by rw [cell_of_row _ _ _ _ _ _ b1]; rfl
  have c2 : W.cell? ⟨w.heap.size, 2, none⟩ = some (.int .i64 k) := by rw [cell_of_row _ _ _ _ _ _ b1]; rfl
  have hL' := hL.belowLt hbw
  have hC' := hC.belowLt hbw
  have cr : Calls Try.prog 38 #[.agg #[.slice A' n c', .slice A n c, .int .i64 k]] W (RetIntBelow W 0) := by
    obtain ⟨V, hV⟩ : ∃ V, V = W.alloc (.cells #[.slice A' n c', .slice A n c, .int .i64 k] 43) := ⟨_, rfl⟩
    have hbv : Below W.heap.size W V := by rw [hV]; exact alloc_lt _
    have v1 : V.heap[W.heap.size]? = some (.cells #[.slice A' n c', .slice A n c, .int .i64 k] 43 (0, 0)) := by rw [hV]; exact heap_alloc_new W _
    have z0 : V.cell? ⟨W.heap.size, 0, none⟩ = some (.slice A' n c') := by rw [cell_of_row _ _ _ _ _ _ v1]; rfl
    have z1 : V.cell? ⟨W.heap.size, 1, none⟩ = some (.slice A n c) := by rw [cell_of_row _ _ _ _ _ _ v1]; rfl
    have z2 : V.cell? ⟨W.heap.size, 2, none⟩ = some (.int .i64 k) := by rw [cell_of_row _ _ _ _ _ _ v1]; rfl
    have CC := Lib.hid (linCheck_any V n c c' A A' xs ones k (hL'.belowLt hbv) (hC'.belowLt hbv) h1 hx hk0 hk1 hn)
    have HBV := Lib.hid hbv
    clear hL hC h1 hx hB b1 b2 c0 c1 c2 hL' hC' v1 hbv hbw hW
    go_enter Try.func38, Try.ntmps38
    go_upto_region 1 with (fail)
    rw [← hV]
    clear hV
    go_wp2_with (fail)
    (with_reducible refine CC.out.mono ?_)
    rintro e w1 ⟨rfl, hb1⟩
    go_wp2_with (fail)
    go_ret
    exact ⟨rfl, below_then HBV.out hb1⟩
  have cf := fun w1 (hb1 : Below W.heap.size W w1) => fold_any w1.drew (w.heap.size + 1) n c c' A A' xs ones k Ab nb cb a ((hL'.belowLt hb1).belowLt (Below.refl _ _).drew) ((hC'.belowLt hb1).belowLt (Below.refl _ _).drew) h1 hx ((hb1.block _ (lt_of_block b2)).trans b2) (((hB.belowLt hbw).belowLt hb1).belowLt (Below.refl _ _).drew) hn
  have CR := Lib.hid cr
  have CF := Lib.hid cf
  have HW := Lib.hid hbw
  have B1 := Lib.hid b1
  have hle : xs.countP (litT · a) ≤ 100 := by
    refine Nat.le_trans List.countP_le_length ?_
    have := hL.len; omega
  clear hL hC h1 hx hB b1 b2 hL' hC' cr cf hbw
  generalize xs.countP (litT · a) = q at *
  go_enter Try.func25, Try.ntmps25
  go_upto_region 1 with (fail)
  rw [← hW]
  clear hW
  go_wp2_with (fail)
  (with_reducible refine CR.out.mono ?_)
  rintro e w1 ⟨rfl, hb1⟩
  have bb := (hb1.block _ (lt_of_block B1.out)).trans B1.out
  have d0 : w1.cell? ⟨w.heap.size, 0, none⟩ = some (.slice A' n c') := by rw [cell_of_row _ _ _ _ _ _ bb]; rfl
  have d1 : w1.cell? ⟨w.heap.size, 1, none⟩ = some (.slice A n c) := by rw [cell_of_row _ _ _ _ _ _ bb]; rfl
  have d2 : w1.cell? ⟨w.heap.size, 2, none⟩ = some (.int .i64 k) := by rw [cell_of_row _ _ _ _ _ _ bb]; rfl
  have CFF := Lib.hid (CF.out w1 hb1)
  have HB1 := Lib.hid hb1
  have hlt1 := lt_of_block bb
  clear hb1 CF CR c0 c1 c2
  go_wp2_with (fail)
  go_region_held3 (fun w' => w'.cell? ⟨w.heap.size, 0, none⟩ = some (.slice A' n c') ∧ w'.cell? ⟨w.heap.size, 1, none⟩ = some (.slice A n c) ∧ w'.cell? ⟨w.heap.size, 2, none⟩ = some (.int .i64 k)) (first | (exact ⟨d0, d1, d2⟩) | (exact ⟨f0, f1, f2⟩) | go_keep)
    (first
      | (go_at_call 39
         (with_reducible refine CFF.out.mono ?_)
         rintro e w3 ⟨rfl, hb3⟩
         have f0 := (hb3.cell (p := ⟨w.heap.size, 0, none⟩) hlt1).trans d0
         have f1 := (hb3.cell (p := ⟨w.heap.size, 1, none⟩) hlt1).trans d1
         have f2 := (hb3.cell (p := ⟨w.heap.size, 2, none⟩) hlt1).trans d2))
  go_wp2
  go_ret
  exact ⟨rfl, below_then (below_then HW.out HB1.out).drew hb3⟩
end Go.Proofs.Ytanbkdfffojpnaa
