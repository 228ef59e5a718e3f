/-
  A part of the proof of TopCrashRecovery: the run of awake: tables, contracts, joining.
-/
import Derived.Test.YtpncejdamjbnlaaGreatDoorProg
import Derived.WalkKit
import Derived.Lib.Hide
import Derived.Below
import Derived.Lib.Builder
import Derived.Lib.UnsafeStr
import Derived.Lib.MakeNoZero
import Derived.Laws.Externs
import Derived.Laws.IdiomCopy
import Derived.Laws.BitsLemmas
import Derived.KernelRfl
set_option linter.all false
section
namespace Go.Proofs
open Go.RowKit
theorem T.sizeB : (Tryz.prog.info? 175).map (·.size) = some 2 := by kernel_rfl
theorem T.liesB : liesAt Tryz.prog Tryz.prog.depth 175 (2 / Tryz.prog.cellsOf 175) 0 175 1 = true := by kernel_rfl
theorem T.liesW : liesAt Tryz.prog Tryz.prog.depth 177 (2 / Tryz.prog.cellsOf 177) 0 175 1 = true := by kernel_rfl
set_option maxHeartbeats 1000000 in
set_option maxRecDepth 100000 in
theorem T.copyCheck_used (b : Nat) (w : World) (h0 : w.cell? ⟨b, 0, none⟩ = some (.pointer (some ⟨b, 0, none⟩))) :
    Calls Tryz.prog 267 #[.pointer (some ⟨b, 0, none⟩)] w fun e w' => e = .returned (.tuple #[]) ∧ w' = w := by
  obtain ⟨j, hj, _⟩ := Option.map_eq_some_iff.1 T.sizeB
  go_enter Tryz.func267, Tryz.ntmps267
  go_wp2
  rw [Lib.run_neq_ptr_same w _ Tryz.underlying173 hj]
  go_wp2
  go_end0
  exact ⟨rfl, rfl⟩
set_option maxHeartbeats 1000000 in
set_option maxRecDepth 100000 in
theorem T.copyCheck_fresh (b : Nat) (tb : TypeId) (hT : liesAt Tryz.prog Tryz.prog.depth tb (2 / Tryz.prog.cellsOf tb) 0 175 1 = true) (w : World) (h0 : w.cell? ⟨b, 0, none⟩ = some (.pointer none)) (hsh : w.shape? b = some (tb, 2)) (hfz : w.frozen? ⟨b, 0, none⟩ = false) :
    Calls Tryz.prog 267 #[.pointer (some ⟨b, 0, none⟩)] w fun e w' => e = .returned (.tuple #[]) ∧ w' = w.setCell ⟨b, 0, none⟩ (.pointer (some ⟨b, 0, none⟩)) := by
  obtain ⟨j, hj, hjs⟩ := Option.map_eq_some_iff.1 T.sizeB
  go_enter Tryz.func267, Tryz.ntmps267
  go_wp2
  rw [Lib.run_to_unsafe w ⟨b, 0, none⟩ Tryz.underlying173 Tryz.underlying446 hj (by rw [hjs]; decide) hsh (Nat.zero_lt_succ 1)]
  simp only [Result.andThen]
  rw [Oper.upon_value]
  go_wp2
  rw [run_callFunc_extern Tryz.func324 (by kernel_rfl) (by kernel_rfl) (by kernel_rfl) (e := Extern.AbiNoEscape.same) (by kernel_rfl)]
  rw [Lib.run_noEscape]
  simp only [Result.andThen]
  rw [Oper.upon_value]
  go_wp2
  rw [Lib.run_from_unsafe w ⟨b, 0, none⟩ Tryz.underlying446 Tryz.underlying173 hj hsh hT]
  simp only [Result.andThen]
  rw [Oper.upon_value]
  go_wp2
  go_end0
  exact ⟨rfl, rfl⟩
theorem T.liesAt_bytes {e : TypeId} (hc : Tryz.prog.cellsOf e = 1) (count off n : Nat) (hn : off + n ≤ count) : liesAt Tryz.prog Tryz.prog.depth e count off e n = true := by
  have hd : Tryz.prog.depth = (2 * (Tryz.prog.types.size + Made.depth) + 1) + 1 := rfl
  rw [hd]
  simp only [liesAt, Bool.or_eq_true]
  left
  rw [hd]
  have hm : off % 1 = 0 := Nat.mod_one off
  simp [rowAt, hc, hn, sameLayout, hm]
theorem T.run_unsafeString (w : World) (pt it ty e : TypeId) (hp : Tryz.prog.underlying pt = some (.pointer e)) (hc : Tryz.prog.cellsOf e = 1) (g off cells : Nat) (hsh : w.shape? g = some (e, cells)) (l : List UInt8) (h0 : l ≠ []) (hn : off + l.length ≤ cells) (h63 : l.length ≤ 9223372036854775807)
    (hcell : ∀ j x, l[j]? = some x → w.cell? ((⟨g, off, none⟩ : Addr).add j) = some (.int .u8 x.toNat)) :
    (Builtin.unsafeString_ #[pt, it] ty #[.pointer (some ⟨g, off, none⟩), .int .i64 l.length]).run Tryz.prog w = .ok (.string ⟨l.toArray⟩) (w.freeze ⟨g, off, none⟩ l.length) := by
  have hl : l.length ≠ 0 := by simpa using h0
  have hlb := Lib.run_loadBytes (P := Tryz.prog) w l ⟨g, off, none⟩ .empty hcell
  have hlies := T.liesAt_bytes hc (cells / Tryz.prog.cellsOf e) off l.length (by rw [hc]; simpa using hn)
  have h63' : ¬ (9223372036854775807 : Int) < (l.length : Int) := by omega
  obtain ⟨m1, m2, m3, hdef⟩ : ∃ m1 m2 m3, Builtin.unsafeString_ #[pt, it] ty #[.pointer (some ⟨g, off, none⟩), .int .i64 l.length] =
      (do
        let n ← asInt (.int .i64 l.length)
        if n < 0 then runtimePanic (.error m1)
        if n > IntKind.i64.max then unsupported (.unsafePointer m2)
        if n = 0 then pure (.string .empty)
        else if ← variablesAt ⟨g, off, none⟩ (← elemOf pt) n.toNat then do
          let s ← loadBytes ⟨g, off, none⟩ .empty n.toNat
          freeze ⟨g, off, none⟩ n.toNat
          pure (.string s)
        else unsupported (.unsafePointer m3)) := ⟨_, _, _, rfl⟩
  rw [hdef]
  have hmax : IntKind.i64.max = 9223372036854775807 := rfl
  have hneg : ¬ (l.length : Int) < 0 := by omega
  simp [asInt, asIntOf, hmax, h63', hneg, hl, variablesAt, hsh, elemOf, run_underlying hp, hlies, hlb]
theorem T.cells5 : Tryz.prog.cellsOf 5 = 1 := by kernel_rfl
theorem T.size5 : (Tryz.prog.info? 5).map (·.size) = some 1 := by kernel_rfl
set_option maxHeartbeats 2000000 in
set_option maxRecDepth 100000 in
theorem T.String_some (b g off cap : Nat) (l : List UInt8) (cells : Nat) (w : World) (h0 : l ≠ []) (hcap : cap ≠ 0) (hlen : l.length ≤ 1048576)
    (c0 : w.cell? ⟨b, 1, none⟩ = some (.slice (some ⟨g, off, none⟩) l.length cap)) (hsh : w.shape? g = some (5, cells)) (hn : off + l.length ≤ cells) (hcell : ∀ j x, l[j]? = some x → w.cell? ((⟨g, off, none⟩ : Addr).add j) = some (.int .u8 x.toNat)) :
    Calls Tryz.prog 133 #[.pointer (some ⟨b, 0, none⟩)] w fun e w' => e = .returned (.string ⟨l.toArray⟩) ∧ w' = w.drew.freeze ⟨g, off, none⟩ l.length := by
  have c1 : w.drew.cell? ⟨b, 1, none⟩ = some (.slice (some ⟨g, off, none⟩) l.length cap) := c0
  have hSD : (Builtin.unsafeSliceData_ #[24] 358 #[.slice (some ⟨g, off, none⟩) l.length cap]).run Tryz.prog w.drew = .ok (.pointer (some ⟨g, off, none⟩)) w.drew :=
    Lib.run_unsafeSliceData_row _ _ _ _ _ _ hcap
  have hUS : (Builtin.unsafeString_ #[358, 3] 9 #[.pointer (some ⟨g, off, none⟩), .int .i64 l.length]).run Tryz.prog w.drew = .ok (.string ⟨l.toArray⟩) (w.drew.freeze ⟨g, off, none⟩ l.length) := by
    refine T.run_unsafeString w.drew 358 3 9 5 Tryz.underlying358 T.cells5 g off cells hsh l h0 hn (by omega) hcell
  clear c0
  go_enter Tryz.func133, Tryz.ntmps133
  go_wp2
  go_region
  all_goals (go_wp2; go_ret; exact ⟨rfl, rfl⟩)
end Go.Proofs
end
section
namespace Go.Proofs
open Go.RowKit
set_option maxHeartbeats 2000000 in
set_option maxRecDepth 1000000 in
theorem T.grow_fresh (b n : Nat) (w : World) (hlt : b < w.heap.size) (c0 : w.cell? ⟨b, 1, none⟩ = some (.slice none 0 0)) (hfz : w.frozen? ⟨b, 1, none⟩ = false) (hn : n ≤ 1048576) :
    Calls Tryz.prog 268 #[.pointer (some ⟨b, 0, none⟩), .int .i64 n] w fun e w' => e = .returned (.tuple #[]) ∧ ∃ cs : Array Value, n ≤ cs.size ∧
      w' = ((w.setCell ⟨b, 1, none⟩ (.slice (some ⟨w.heap.size, 0, none⟩) 0 cs.size)).alloc (.cells cs 5)).drew.drew.drew := by
  obtain ⟨cs, hrun, hle, hmax⟩ := Lib.run_makeNoZero (P := Tryz.prog) w.drew #[3] 24 5 Tryz.underlying24 n (by omega)
  have hw : IntKind.i64.wrap (IntKind.i64.wrap 0 + (n : Int)) = n := by
    rw [IntKind.wrap_i64, IntKind.wrap_i64]
    omega
  have hcall : (callFunc 325 #[.int .i64 (IntKind.i64.wrap (IntKind.i64.wrap 0 + (n : Int)))]).run Tryz.prog w.drew = .ok (.value (.slice (some ⟨w.drew.heap.size, 0, none⟩) n cs.size)) (w.drew.drew.drew.alloc (.cells cs 5)) := by
    rw [hw, run_callFunc_extern Tryz.func325 (by kernel_rfl) (by kernel_rfl) (by kernel_rfl) (e := Extern.BytealgMakeNoZero.makeNoZero #[3] #[24]) (by kernel_rfl), hrun]
    rfl
  have c1 : w.drew.cell? ⟨b, 1, none⟩ = some (.slice none 0 0) := c0
  have hcell : ∀ o : Obj, (w.alloc o).cell? ⟨b, 1, none⟩ = some (.slice none 0 0) := fun o => by
    have e : (w.alloc o).heap[b]? = w.heap[b]? := Lib.alloc_old w o b hlt
    simp only [World.cell?, e] at c0 ⊢; exact c0
  have hfroz : ∀ o : Obj, (w.alloc o).frozen? ⟨b, 1, none⟩ = false := fun o => by
    have e : (w.alloc o).heap[b]? = w.heap[b]? := Lib.alloc_old w o b hlt
    simp only [World.frozen?, e] at hfz ⊢; exact hfz
  have c2 := hcell (.cells cs 5)
  have f2 := hfroz (.cells cs 5)
  have hcopy : ∀ W : World, (Builtin.copy_ #[24, 24] 3 #[.slice (some ⟨w.heap.size, 0, none⟩) 0 cs.size, .slice none 0 0]).run Tryz.prog W = .ok (goInt 0) W :=
    fun W => run_copy_none W 24 24 3 5 _ _ 0 cs.size 0 0 Tryz.underlying24 T.size5 rfl
  clear hw hcell hfroz c0
  go_enter Tryz.func268, Tryz.ntmps268
  go_wp2
  go_region
  all_goals (go_wp2; go_end0; exact ⟨rfl, cs, hle, rfl⟩)
end Go.Proofs
end
section
namespace Go.Proofs
open Go.RowKit
set_option maxHeartbeats 2000000 in
set_option maxRecDepth 1000000 in
theorem T.Grow_fresh (b n : Nat) (fz : Nat × Nat) (tb : TypeId) (w : World) (hT : liesAt Tryz.prog Tryz.prog.depth tb (2 / Tryz.prog.cellsOf tb) 0 175 1 = true) (hbk : w.heap[b]? = some (.cells #[.pointer none, .slice none 0 0] tb fz)) (hfz : fz.1 = fz.2 ∨ 2 ≤ fz.1) (hn : n ≤ 1048576) (hn0 : 1 ≤ n) :
    Calls Tryz.prog 189 #[.pointer (some ⟨b, 0, none⟩), .int .i64 n] w fun e w' => e = .returned (.tuple #[]) ∧ ∃ cs : Array Value, n ≤ cs.size ∧
      w' = (((w.setCell ⟨b, 0, none⟩ (.pointer (some ⟨b, 0, none⟩))).drew.setCell ⟨b, 1, none⟩ (.slice (some ⟨w.heap.size, 0, none⟩) 0 cs.size)).alloc (.cells cs 5)).drew.drew.drew := by
  have hnf : ∀ i, i < 2 → (decide (fz.1 ≤ i) && decide (i < fz.2)) = false := fun i hi => by
    rcases hfz with h | h
    · rw [h]; simp <;> omega
    · simp <;> omega
  have hlt : b < w.heap.size := by
    rcases Nat.lt_or_ge b w.heap.size with h' | h'
    · exact h'
    · simp [Array.getElem?_eq_none h'] at hbk
  have hbk1 : (w.setCell ⟨b, 0, none⟩ (.pointer (some ⟨b, 0, none⟩))).heap[b]? = some (.cells #[.pointer (some ⟨b, 0, none⟩), .slice none 0 0] tb fz) := by
    simp [World.setCell, Array.getElem?_modify, hbk]
  have c1 : (w.setCell ⟨b, 0, none⟩ (.pointer (some ⟨b, 0, none⟩))).cell? ⟨b, 1, none⟩ = some (.slice none 0 0) := by rw [Lib.cell_of_heap hbk1]; rfl
  have c1' : (w.setCell ⟨b, 0, none⟩ (.pointer (some ⟨b, 0, none⟩))).drew.cell? ⟨b, 1, none⟩ = some (.slice none 0 0) := c1
  have f1 : (w.setCell ⟨b, 0, none⟩ (.pointer (some ⟨b, 0, none⟩))).drew.frozen? ⟨b, 1, none⟩ = false := by simp only [World.frozen?, World.drew, hbk1]; exact hnf 1 (by decide)
  have hs1 : (w.setCell ⟨b, 0, none⟩ (.pointer (some ⟨b, 0, none⟩))).drew.heap.size = w.heap.size := by simp [World.setCell]
  have hlt1 : b < (w.setCell ⟨b, 0, none⟩ (.pointer (some ⟨b, 0, none⟩))).drew.heap.size := by rw [hs1]; exact hlt
  have hg := T.grow_fresh b n (w.setCell ⟨b, 0, none⟩ (.pointer (some ⟨b, 0, none⟩))).drew hlt1 c1' f1 hn
  rw [hs1] at hg
  go_enter Tryz.func189, Tryz.ntmps189
  go_wp2_with (go_at_call 267; refine (T.copyCheck_fresh b tb hT w (by rw [Lib.cell_of_heap hbk]; rfl) (by simp [World.shape?, hbk]) (by simp only [World.frozen?, hbk]; exact hnf 0 (by decide))).mono ?_; rintro e w' ⟨rfl, rfl⟩)
  go_region
  all_goals go_wp2_with (go_at_call 268; refine hg.mono ?_; rintro e w' ⟨rfl, cs, h1, rfl⟩)
  all_goals first
    | (go_end0; exact ⟨rfl, cs, h1, rfl⟩)
    | (exfalso; omega)
end Go.Proofs
end
