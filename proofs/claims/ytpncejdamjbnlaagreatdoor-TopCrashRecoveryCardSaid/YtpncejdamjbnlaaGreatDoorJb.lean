/-
  A part of the proof of TopCrashRecovery: walks of the functions that the law calls.
-/
import Derived.Test.YtpncejdamjbnlaaGreatDoorJa
import Derived.RangeFuncNested
import Derived.RangeFuncBound
import Derived.RangeFuncCalls
import Derived.RangeFuncLeaves
import Derived.Shelf.Abstract
import Derived.Shelf.RegionOpen
import Derived.OwnWalkIn
import Derived.TacticsInMore
import Derived.LoopNIn
import Derived.LoopIn
import Derived.LoadGo3
set_option linter.all false
section
namespace Go.Proofs.YtpncejdamjbnlaaGreatDoor
open Go.RowKit Go.Shelf
attribute [local go_sem] Oper.semAt_some
set_option maxHeartbeats 1000000 in
theorem groups_any (w : World) (n : Int) (h1 : -9223372036854775808 ≤ n) (h2 : n ≤ 9223372036854775807) : Calls Tryz.prog 107 #[.int .i64 n] w fun e w' =>
    e = .returned (.func (.func 191) #[] #[.pointer (some ⟨w.heap.size, 0, none⟩)]) ∧ w.alloc (.cells #[.int .u64 (Oct.zig n : Int)] 334) = w' := by
  have HZ := Lib.hid (zig_bits n h1 h2)
  go_enter Tryz.func107, Tryz.ntmps107
  go_wp2
  rw [HZ.out]
  go_ret
  exact ⟨rfl, rfl⟩
theorem enc_byte (u : Nat) : ∀ c ∈ Oct.enc u, c < 256 := Oct.enc_bytes u
def encB (u : Nat) : List Byte := (Oct.enc u).attach.map fun c => ⟨c.1, Oct.enc_bytes u c.1 c.2⟩
def lastB (u : Nat) (h : u < 128) : Byte := ⟨u, by omega⟩
def moreB (u : Nat) : Byte := ⟨u % 128 + 128, by omega⟩
theorem byte_ext {a b : Byte} (h : a.n = b.n) : a = b := by cases a; cases b; simp at h; subst h; rfl
theorem nat8_inj {a b : List Byte} (h : nat8 a = nat8 b) : a = b := by
  induction a generalizing b with
  | nil => cases b with
    | nil => rfl
    | cons y b => simp [nat8] at h
  | cons x a ih => cases b with
    | nil => simp [nat8] at h
    | cons y b =>
      simp [nat8] at h
      rw [byte_ext h.1, ih (by simpa [nat8] using h.2)]
theorem nat8_encB (u : Nat) : nat8 (encB u) = Oct.enc u := by
  simp [nat8, encB, List.map_map, Function.comp_def]
theorem encB_last (u : Nat) (h : u < 128) : encB u = [lastB u h] := nat8_inj (by rw [nat8_encB, Oct.enc]; simp [h, nat8, lastB])
theorem encB_more (u : Nat) (h : ¬ u < 128) : encB u = moreB u :: encB (u / 128) := nat8_inj (by
  show nat8 (encB u) = (u % 128 + 128) :: nat8 (encB (u / 128))
  rw [nat8_encB, nat8_encB, Oct.enc]; simp [h])
theorem encB_len (u : Nat) (h : u < 18446744073709551616) : (encB u).length ≤ 10 := by
  have e : (encB u).length = (Oct.enc u).length := by rw [← nat8_encB]; simp [nat8]
  rw [e]
  exact Jour.enc_length 9 u (Nat.lt_of_lt_of_le h (by decide))
def uOf (b : Nat) (w : World) : Nat := match w.cell? ⟨b, 0, none⟩ with | some (.int _ n) => n.toNat | _ => 0
set_option maxRecDepth 20000 in
theorem or128 (x : Nat) : bits BinOp.or IntKind.u8 ((x : Int) % 256) 128 = ((x % 128 + 128 : Nat) : Int) := by
  have e : ((x : Int) % 256) = ((x % 256 : Nat) : Int) := by omega
  have e2 : (128 : Int) = ((128 : Nat) : Int) := rfl
  rw [e, e2, u8_or_nat _ _ (by omega) (by omega)]
  congr 1
  have h : ∀ y, y < 256 → y ||| 128 = y % 128 + 128 := by decide
  rw [h _ (by omega)]
  omega
set_option maxHeartbeats 1000000 in
set_option maxRecDepth 100000 in
theorem groups1_any (l U n : Nat) (J : List Byte → World → Prop)
    (hU : ∀ pre W v, J pre W → J pre (W.setCell ⟨U, 0, none⟩ v))
    (N : Nat) (hY : ∀ (pre : List Byte) (c : Byte) (x : Nat) (W : World), J pre W → pre.length < N → W.heap[U]? = some (.cells #[.int .u64 (x : Int)] 334 (0, 0)) → YieldAt Fence.wide (n - 1) Tryz.prog l #[.int .u8 (c.n : Int)] W fun e W' =>
      e = .returned (.bool true) ∧ J (pre ++ [c]) W' ∧ W'.heap[U]? = some (.cells #[.int .u64 (x : Int)] 334 (0, 0)))
    (x : Nat) (hN : (encB x).length ≤ N) (hx : x < 18446744073709551616) (W : World) (h0 : J [] W) (hc : W.heap[U]? = some (.cells #[.int .u64 (x : Int)] 334 (0, 0))) :
    CallsIn Fence.wide n Tryz.prog 191 #[.func (.yield l) #[] #[], .pointer (some ⟨U, 0, none⟩)] W fun e W' => (∃ v, e = .returned v) ∧ J (encB x) W' := by
  have HY := Lib.hid hY
  have HU := Lib.hid hU
  have HN := Lib.hid hN
  clear hY hU hN
  refine callsIn_of_wp Tryz.func191 rfl trivial ?_ rfl
  simp only [Tryz.ntmps191, List.size_toArray, List.length_cons, List.length_nil, Nat.reduceAdd, Nat.reduceSub, Array.replicate_succ, Array.replicate_zero, List.push_toArray, List.append_toArray, List.nil_append, List.cons_append]
  gi_wp2
  gi_loopw [3] (fun _ wr => ∃ (pre : List Byte) (y : Nat), y < 18446744073709551616 ∧ pre ++ encB y = encB x ∧ J pre wr ∧ wr.heap[U]? = some (.cells #[.int .u64 (y : Int)] 334 (0, 0))) (fun _ wr => uOf U wr)
  case atStart => exact ⟨[], x, hx, rfl, h0, hc⟩
  case round =>
    obtain ⟨pre, y, hy, hpre, hJ, hcell⟩ := hrel
    have c1 := cell_of_one hcell
    have HPRE := Lib.hid hpre
    have HC := Lib.hid hcell
    have hlen : pre.length + (encB y).length ≤ N := by rw [← List.length_append, hpre]; exact HN.out
    clear hpre hcell h0 hc
    by_cases hlt : y < 128
    · have hg : decide ((127 : Int) < (y : Int)) = false := by simp; omega
      obtain ⟨fn, tmps, assign, body, hyy, hR⟩ := HY.out pre (lastB y hlt) y wr hJ (by rw [encB_last y hlt] at hlen; simp at hlen; omega) HC.out
      clear hlen
      have hyy' : (Instr.yield l #[Value.int IntKind.u8 (y : Int)]).run Tryz.prog wr = .ok (.round l fn tmps assign body) wr := hyy
      have HR := Lib.hid hR
      have HE := Lib.hid (encB_last y hlt)
      clear hyy hR
      gi_wp2
      refine ⟨fun _ h => (by cases h), ?_⟩
      gi_wp2
      refine ⟨fun h => (by cases h), HR.out.mono ?_⟩
      rintro e W' ⟨rfl, hJ', _⟩
      rw [← HE.out, HPRE.out] at hJ'
      gi_wp2
      go_end0
      exact ⟨⟨_, rfl⟩, hJ'⟩
    · have hg : decide ((127 : Int) < (y : Int)) = true := by simp; omega
      obtain ⟨fn, tmps, assign, body, hyy, hR⟩ := HY.out pre (moreB y) y wr hJ (by rw [encB_more y hlt] at hlen; simp at hlen; omega) HC.out
      clear hlen
      have hyy' : (Instr.yield l #[Value.int IntKind.u8 (bits BinOp.or IntKind.u8 ((y : Int) % 256) 128)]).run Tryz.prog wr = .ok (.round l fn tmps assign body) wr := by rw [or128]; exact hyy
      have HR := Lib.hid hR
      have HE := Lib.hid (encB_more y hlt)
      clear hyy hR
      gi_wp2
      refine ⟨fun h => (by cases h), HR.out.mono ?_⟩
      rintro e W' ⟨rfl, hJ', hc'⟩
      have c2 := cell_of_one hc'
      have f2 := free_of_one hc'
      have HC' := Lib.hid hc'
      have HJ' := Lib.hid hJ'
      clear hc' hJ'
      gi_wp2
      refine ⟨⟨pre ++ [moreB y], y / 128, by omega, ?_, HU.out _ _ _ HJ'.out, ?_⟩, ?_⟩
      · rw [← HPRE.out, HE.out]; simp
      · exact one_setCell HC'.out
      · have e2 := cell_of_one (one_setCell (u := Value.int IntKind.u64 ((y : Int) / 128)) HC'.out)
        unfold uOf
        rw [e2, c1]
        show ((y : Int) / 128).toNat < (y : Int).toNat
        omega
end Go.Proofs.YtpncejdamjbnlaaGreatDoor
end
section
namespace Go.Proofs.YtpncejdamjbnlaaGreatDoor
open Go.RowKit Go.Shelf
def leftBy {β : Type} (l D : Nat) (Inv : β → World → Prop) (Ix : Code → World → Prop) (s : β) (W : World) : Exit → Act → World → Prop
  | .normal, _, W' => (W'.heap[l]? = W.heap[l]? ∧ W'.heap[D]? = W.heap[D]?) ∧ Inv s W'
  | .ret, _, W' => (W'.heap[l]? = W.heap[l]? ∧ W'.heap[D]? = W.heap[D]?) ∧ Ix .ret W'
  | .exit id, _, W' => (W'.heap[l]? = W.heap[l]? ∧ W'.heap[D]? = W.heap[D]?) ∧ Ix (.exit id) W'
  | .goto t, _, W' => (W'.heap[l]? = W.heap[l]? ∧ W'.heap[D]? = W.heap[D]?) ∧ Ix (.goto t) W'
  | .panic _, _, _ => False
  | .outgrown, _, _ => False
def OfTwo (l D : Nat) (B : World → Prop) : Prop := ∀ W W' : World, B W → W'.heap[l]? = W.heap[l]? → W'.heap[D]? = W.heap[D]? → B W'
structure Abides2 (l D : Nat) (I : World → Prop) : Prop where
  put : ∀ W k o o', I W → (k = l ∨ k = D) → W.heap[k]? = some o → o.isCells = false → I (W.putObj k o')
theorem wpIn_rangeFunc_two {β : Type} {F : Fence} {n : Nat} {P : Program} {g : Operand} {ps : Array Tmp} {assign body : Code} {Q : Exit → Act → World → Prop} {a : Act} {w : World}
    (hro : F.round = none) (h1 : 1 ≤ n) {gf : Nat} {lb : Array Value} (hg : a.eval g = .func (.func gf) #[] lb) (hFg : F.fn gf) (eg : ∀ args w, (callFunc gf args).run P w = .ok (.enter gf args) w)
    (Inv : β → World → Prop) (Ix : Code → World → Prop) (Ok : β → Array Value → β → Prop) (End : β → Prop) (s0 : β)
    (hI : ∀ s, Abides2 (w.heap.size + 1) w.heap.size (Inv s)) (hIx : ∀ c, Abides2 (w.heap.size + 1) w.heap.size (Ix c))
    (h0 : ∀ o o', Inv s0 ((w.alloc o).alloc o'))
    (hps : ∀ s args s', Ok s args s' → args.size = ps.size)
    (hbody : ∀ s args s' W, Ok s args s' → Inv s W →
      assign.wpIn (F.inRound (w.heap.size + 1)) (n - 1 - 1) P (Exit.then (fun a₁ W₁ => (W₁.heap[w.heap.size + 1]? = W.heap[w.heap.size + 1]? ∧ W₁.heap[w.heap.size]? = W.heap[w.heap.size]?) ∧ Inv s W₁ ∧
        ∀ W₂, Inv s W₂ → (∃ rec : Loop, W₂.heap[w.heap.size + 1]? = some (.loop rec)) → (∃ ds, W₂.heap[w.heap.size]? = some (.deferred ds)) → body.wpIn (F.inRound (w.heap.size + 1)) (n - 1 - 1) P (leftBy (w.heap.size + 1) w.heap.size Inv Ix s' W₂) a₁ W₂) (fun _ _ _ => False))
        { tmps := (ps.zip args).foldl (fun t (p, v) => t.setIfInBounds p v) a.tmps, defers := [] } W)
    (hiter : ∀ (Book : World → Prop) (BookX : Code → World → Prop), OfTwo (w.heap.size + 1) w.heap.size Book → (∀ c, OfTwo (w.heap.size + 1) w.heap.size (BookX c)) →
      (∀ W, Book W → (∃ rec : Loop, W.heap[w.heap.size + 1]? = some (.loop rec)) ∧ (∃ ds, W.heap[w.heap.size]? = some (.deferred ds))) →
      (∀ s args s' W, Inv s W → Book W → Ok s args s' → YieldAt F (n - 1 - 1) P (w.heap.size + 1) args W fun e W' =>
        (e = .returned (.bool true) ∧ Inv s' W' ∧ Book W') ∨ (e = .returned (.bool false) ∧ ∃ c, Ix c W' ∧ BookX c W')) →
      ∀ W, Inv s0 W → Book W → CallsIn F (n - 1) P gf (#[.func (.yield (w.heap.size + 1)) #[] #[]] ++ lb) W fun e W' =>
        (∃ v, e = .returned v) ∧ ((∃ s, End s ∧ Inv s W' ∧ Book W') ∨ (∃ c, Ix c W' ∧ BookX c W')))
    (hdone : ∀ s W, End s → Inv s W → W.heap[w.heap.size]? = some (.deferred (some [])) → (∃ rec : Loop, W.heap[w.heap.size + 1]? = some (.loop rec)) → Q .normal { a with defers := { target := .collected w.heap.size, args := #[] } :: a.defers } W)
    (hstop : ∀ c W, Ix c W → W.heap[w.heap.size]? = some (.deferred (some [])) → (∃ rec : Loop, W.heap[w.heap.size + 1]? = some (.loop rec)) → c.wpIn F n P Q { a with defers := { target := .collected w.heap.size, args := #[] } :: a.defers } W) :
    (Code.rangeFunc g ps assign body).wpIn F n P Q a w := by
  refine wpIn_rangeFunc ?_
  intro fn hfn
  rw [hro]
  obtain ⟨rec, hrec⟩ : ∃ rec : LoopState → Option Code → Loop, rec = fun st pe => { state := st, pending := pe, fn, tmps := a.tmps, params := ps, assign, body, defers := w.heap.size } := ⟨_, rfl⟩
  obtain ⟨W1, hW1⟩ : ∃ W1, (w.alloc (.deferred (some []))).alloc (.loop (rec .ready none)) = W1 := ⟨_, rfl⟩
  have hl1 : W1.heap[w.heap.size + 1]? = some (.loop (rec .ready none)) := by
    rw [← hW1]
    have := heap_alloc_new (w.alloc (.deferred (some []))) (.loop (rec .ready none))
    simpa using this
  have hd1 : W1.heap[w.heap.size]? = some (.deferred (some [])) := by
    rw [← hW1]
    exact (heap_alloc_old (w.alloc (.deferred (some []))) _ (by simp)).trans (heap_alloc_new w _)
  refine ⟨w.heap.size + 1, [{ target := .collected w.heap.size, args := #[] }], W1, { target := .fn (.func gf) lb, args := #[.func (.yield (w.heap.size + 1)) #[] #[]] }, W1, gf,
    #[.func (.yield (w.heap.size + 1)) #[] #[]] ++ lb, W1, ?_, ?_, ?_, ?_, fun _ => h1, ?_⟩
  · rw [← hW1, hrec]; exact run_enterLoop_outer _ _ _ _ _
  · simp only [resolve, hg]
    simp [go_sem]
  · intro f' hf'
    simp [Target.leads] at hf'
    subst hf'
    exact hFg
  · simp [invoke, go_sem, eg]
  have ne : w.heap.size + 1 ≠ w.heap.size := by omega
  have putL : ∀ (W : World) (o o' : Obj), W.heap[w.heap.size + 1]? = some o → (W.putObj (w.heap.size + 1) o').heap[w.heap.size + 1]? = some o' ∧ (W.putObj (w.heap.size + 1) o').heap[w.heap.size]? = W.heap[w.heap.size]? := fun W o o' h =>
    ⟨World.putObj_heap_same (Array.getElem?_eq_some_iff.1 h).1, World.putObj_heap_other (fun e => ne e.symm)⟩
  refine (hiter (fun W => W.heap[w.heap.size + 1]? = some (.loop (rec .ready none)) ∧ W.heap[w.heap.size]? = some (.deferred (some [])))
    (fun c W => W.heap[w.heap.size + 1]? = some (.loop (rec .done (some c))) ∧ W.heap[w.heap.size]? = some (.deferred (some [])))
    (fun W W' h e1 e2 => ⟨e1.trans h.1, e2.trans h.2⟩) (fun c W W' h e1 e2 => ⟨e1.trans h.1, e2.trans h.2⟩) (fun W h => ⟨⟨_, h.1⟩, ⟨_, h.2⟩⟩) ?_ W1 (by rw [← hW1]; exact h0 _ _) ⟨hl1, hd1⟩).mono ?_
  · rintro s args s' W hi ⟨hl, hd⟩ hok
    have hy := run_yield (P := P) (args := args) hl (by rw [hrec]; exact hps _ _ _ hok)
    rw [hrec] at hy
    refine ⟨fn, _, assign, body, hy, roundIn_of_wpIn hfn ?_⟩
    refine wpIn_mono (hbody s args s' W hok hi) ?_
    rintro e a₁ W₁ hp
    cases e with
    | normal =>
      obtain ⟨⟨e1, e2⟩, hi1, hb⟩ := hp
      have hl1 := e1.trans hl
      have hd1 := e2.trans hd
      refine ⟨_, run_beginRound hl1 (by rw [hrec]), ?_⟩
      obtain ⟨p1, p2⟩ := putL W₁ _ (.loop { rec .ready none with state := .busy }) hl1
      have hd2 := p2.trans hd1
      refine wpIn_mono (hb _ ((hI s).put _ _ _ _ hi1 (.inl rfl) hl1 rfl) ⟨_, p1⟩ ⟨_, hd2⟩) ?_
      have fin : ∀ (jump : Option Code) (W3 : World), W3.heap[w.heap.size + 1]? = some (.loop { rec .ready none with state := .busy }) → W3.heap[w.heap.size]? = some (.deferred (some [])) →
          (Instr.endRound (w.heap.size + 1) jump).run P W3 = .ok (.bool jump.isNone) (W3.putObj (w.heap.size + 1) (.loop (rec (if jump.isNone then .ready else .done) jump))) ∧
          (W3.putObj (w.heap.size + 1) (.loop (rec (if jump.isNone then .ready else .done) jump))).heap[w.heap.size + 1]? = some (.loop (rec (if jump.isNone then .ready else .done) jump)) ∧
          (W3.putObj (w.heap.size + 1) (.loop (rec (if jump.isNone then .ready else .done) jump))).heap[w.heap.size]? = some (.deferred (some [])) := fun jump W3 hl3 hd3 => by
        have h := run_endRound (P := P) jump hl3
        rw [hrec] at h ⊢
        obtain ⟨q1, q2⟩ := putL W3 _ (.loop ({ state := if jump.isNone then .ready else .done, pending := jump, fn, tmps := a.tmps, params := ps, assign, body, defers := w.heap.size })) hl3
        exact ⟨h, q1, q2.trans hd3⟩
      rintro e a3 W3 hp
      cases e with
      | normal =>
        obtain ⟨⟨k1, k2⟩, hi3⟩ := hp
        obtain ⟨f1, f2, f3⟩ := fin none W3 (k1.trans p1) (k2.trans hd2)
        exact ⟨_, _, f1, .inl ⟨rfl, (hI s').put _ _ _ _ hi3 (.inl rfl) (k1.trans p1) rfl, f2, f3⟩⟩
      | ret =>
        obtain ⟨⟨k1, k2⟩, hi3⟩ := hp
        obtain ⟨f1, f2, f3⟩ := fin (some .ret) W3 (k1.trans p1) (k2.trans hd2)
        exact ⟨_, _, f1, .inr ⟨rfl, .ret, (hIx _).put _ _ _ _ hi3 (.inl rfl) (k1.trans p1) rfl, f2, f3⟩⟩
      | exit id =>
        obtain ⟨⟨k1, k2⟩, hi3⟩ := hp
        obtain ⟨f1, f2, f3⟩ := fin (some (.exit id)) W3 (k1.trans p1) (k2.trans hd2)
        exact ⟨_, _, f1, .inr ⟨rfl, .exit id, (hIx _).put _ _ _ _ hi3 (.inl rfl) (k1.trans p1) rfl, f2, f3⟩⟩
      | goto t =>
        obtain ⟨⟨k1, k2⟩, hi3⟩ := hp
        obtain ⟨f1, f2, f3⟩ := fin (some (.goto t)) W3 (k1.trans p1) (k2.trans hd2)
        exact ⟨_, _, f1, .inr ⟨rfl, .goto t, (hIx _).put _ _ _ _ hi3 (.inl rfl) (k1.trans p1) rfl, f2, f3⟩⟩
      | panic ch => exact hp.elim
      | outgrown => exact hp.elim
    | ret => exact hp.elim
    | exit id => exact hp.elim
    | goto t => exact hp.elim
    | panic ch => exact hp.elim
    | outgrown => exact hp.elim
  · rintro e W2 ⟨⟨v, rfl⟩, (⟨s, hE, hi, hl, hd⟩ | ⟨c, hi, hl, hd⟩)⟩
    · refine ⟨none, _, by have := run_endLoop (P := P) hl (by rw [hrec]; simp); rw [hrec] at this; exact this, ?_⟩
      obtain ⟨p1, p2⟩ := putL W2 _ (.loop { rec .ready none with state := .exhausted }) hl
      rw [hrec] at p1 p2
      refine hdone s _ hE ((hI s).put _ _ _ _ hi (.inl rfl) hl rfl) (p2.trans hd) ⟨_, p1⟩
    · refine ⟨some c, _, by have := run_endLoop (P := P) hl (by rw [hrec]; simp); rw [hrec] at this; exact this, ?_⟩
      obtain ⟨p1, p2⟩ := putL W2 _ (.loop { rec .done (some c) with state := .exhausted }) hl
      rw [hrec] at p1 p2
      refine hstop c _ ((hIx c).put _ _ _ _ hi (.inl rfl) hl rfl) (p2.trans hd) ⟨_, p1⟩
end Go.Proofs.YtpncejdamjbnlaaGreatDoor
end
section
namespace Go.Proofs.YtpncejdamjbnlaaGreatDoor
open Go.RowKit Go.Shelf
attribute [local go_sem] Oper.semAt_some
def PJ (w : World) (U : Nat) (bs : List Byte) (s : List Byte × Value) (W : World) : Prop :=
  W.heap[U]? = some (.cells #[s.2] 334 (0, 0)) ∧
  (∃ A2 c2, W.heap[w.heap.size]? = some (.cells #[.slice A2 (bs ++ s.1).length c2] 24 (0, 0)) ∧ W.ownsRow w.heap.size 5 1 (.slice A2 (bs ++ s.1).length c2) (bs ++ s.1).length (flat (bs ++ s.1))) ∧ Below w.heap.size w W
theorem own_other {w : World} {base size n k : Nat} {e : TypeId} {v : Value} {xs : List Value} {o : Obj} (h : w.ownsRow base e size v n xs) (hk : w.heap[k]? = some o) (ho : ∀ cs, o ≠ .cells cs e (0, 0)) : v.ownBlock ≠ some k := by
  rcases h.2 with ⟨rfl, _⟩ | ⟨g, cap, cur, rfl, _, hh, _⟩
  · simp [Value.ownBlock]
  · intro he
    simp [Value.ownBlock] at he
    subst he
    rw [hh] at hk
    cases hk
    exact ho cur rfl
theorem ownsRow_putObj {w : World} {base size n k : Nat} {e : TypeId} {v : Value} {xs : List Value} {o : Obj} (h : w.ownsRow base e size v n xs) (hk : w.heap[k]? = some o) (ho : ∀ cs, o ≠ .cells cs e (0, 0)) (o' : Obj) : (w.putObj k o').ownsRow base e size v n xs :=
  h.kept (grownBy_putObj' w k o') (.inr (own_other h hk ho))
theorem grown_keep {w w' : World} {row : Option Nat} {k : Nat} {o : Obj} (hg : w.grownBy w' row) (hk : w.heap[k]? = some o) (hne : row ≠ some k) : w'.heap[k]? = some o :=
  (hg.block k (Array.getElem?_eq_some_iff.1 hk).1 (fun e => hne e.symm)).trans hk
theorem alloc_keep {w : World} {k : Nat} {o : Obj} (hk : w.heap[k]? = some o) (o' : Obj) : (w.alloc o').heap[k]? = some o := (heap_alloc_old _ _ (Array.getElem?_eq_some_iff.1 hk).1).trans hk
theorem not24 (u : Value) : ∀ cs, Obj.cells #[u] 24 (0, 0) ≠ .cells cs 5 (0, 0) := fun cs e => by injection e; rename_i e1 e2 e3; exact absurd e2 (by decide)
theorem not334 (u : Value) : ∀ cs, Obj.cells #[u] 334 (0, 0) ≠ .cells cs 5 (0, 0) := fun cs e => by injection e; rename_i e1 e2 e3; exact absurd e2 (by decide)
theorem PJ.step {w W2 w9 : World} {U l D M c2 c9 : Nat} {A2 A9 : Option Addr} {o1 oL oD : Obj} {cur : List Byte} {cc : Byte} {u : Value} (h4 : W2.heap[w.heap.size]? = some (.cells #[.slice A2 M c2] 24 (0, 0))) (h3 : W2.heap[U]? = some (.cells #[u] 334 (0, 0)))
    (hl : W2.heap[l]? = some oL) (hL : oL.isCells = false) (hd : W2.heap[D]? = some oD) (hD : oD.isCells = false) (h6 : Below w.heap.size w W2) (hown : W2.ownsRow w.heap.size 5 1 (.slice A2 M c2) M (flat cur))
    (ho9 : w9.ownsRow w.heap.size 5 1 (.slice A9 (M + 1) c9) (M + 1) (flat cur ++ [.int .u8 (cc.n : Int)])) (hg9 : (W2.alloc o1).grownBy w9 (Value.slice A2 M c2).ownBlock) :
    w9.cell? ⟨w.heap.size, 0, none⟩ = some (.slice A2 M c2) ∧ w9.frozen? ⟨w.heap.size, 0, none⟩ = false ∧
    (∀ v, ((w9.setCell ⟨w.heap.size, 0, none⟩ v).heap[l]? = W2.heap[l]? ∧ (w9.setCell ⟨w.heap.size, 0, none⟩ v).heap[D]? = W2.heap[D]?) ∧ ((w.heap.size < U → (w9.setCell ⟨w.heap.size, 0, none⟩ v).heap[U]? = some (.cells #[u] 334 (0, 0))) ∧
      ((w9.setCell ⟨w.heap.size, 0, none⟩ v).heap[w.heap.size]? = some (.cells #[v] 24 (0, 0)) ∧ (w9.setCell ⟨w.heap.size, 0, none⟩ v).ownsRow w.heap.size 5 1 (.slice A9 (M + 1) c9) (M + 1) (flat (cur ++ [cc]))) ∧ Below w.heap.size w (w9.setCell ⟨w.heap.size, 0, none⟩ v))) := by
  have no : ∀ {k : Nat} {o : Obj}, W2.heap[k]? = some o → (∀ cs, o ≠ .cells cs 5 (0, 0)) → w9.heap[k]? = some o := fun hk hne => grown_keep hg9 (alloc_keep hk _) (own_other (hown.alloc o1) (alloc_keep hk o1) hne)
  have g4 := no h4 (not24 _)
  have g3 := no h3 (not334 _)
  have gl := no hl (fun cs e => by subst e; cases hL)
  have gd := no hd (fun cs e => by subst e; cases hD)
  have ne : ∀ {k : Nat} {o : Obj}, w9.heap[k]? = some o → o.isCells = false → k ≠ w.heap.size := fun hk hc e => by subst e; rw [g4] at hk; cases hk; cases hc
  refine ⟨cell_of_one g4, free_of_one g4, fun v => ⟨⟨?_, ?_⟩, fun hU => ?_, ⟨one_setCell g4, ?_⟩, ?_⟩⟩
  · exact (heap_setCell_other _ _ _ _ (ne gl hL)).trans (gl.trans hl.symm)
  · exact (heap_setCell_other _ _ _ _ (ne gd hD)).trans (gd.trans hd.symm)
  · exact (heap_setCell_other _ _ _ _ (by show U ≠ w.heap.size; omega)).trans g3
  · rw [flat_append]; exact ownsRow_setCell_other ho9 (own_other ho9 g4 (not24 _)) v
  · exact ((h6.alloc h6.size _).grown hg9 (by have := h6.size; simp; omega) (fun g hg => (hown.lt g hg).1)).setCell (Nat.le_refl _) v
theorem PJ.setU {w : World} {U : Nat} {bs pre : List Byte} {u : Value} {W : World} (h : PJ w U bs (pre, u) W) (hU : w.heap.size < U) (v : Value) : PJ w U bs (pre, v) (W.setCell ⟨U, 0, none⟩ v) := by
  obtain ⟨h3, ⟨A2, c2, h4, h5⟩, h6⟩ := h
  exact ⟨one_setCell h3, ⟨A2, c2, (heap_setCell_other _ _ _ _ (by show w.heap.size ≠ U; omega)).trans h4, ownsRow_setCell_other h5 (own_other h5 h3 (fun cs e => by injection e; rename_i e1 e2 e3; exact absurd e2 (by decide))) v⟩, h6.setCell (by show w.heap.size ≤ U; omega) v⟩
theorem PJ.abides {w : World} {U l D : Nat} {bs : List Byte} {s : List Byte × Value} (hl : w.heap.size ≤ l) (hD : w.heap.size ≤ D) : Abides2 l D (PJ w U bs s) := ⟨fun W k o o' h hk ho hc => by
  obtain ⟨h3, ⟨A2, c2, h4, h5⟩, h6⟩ := h
  have ne : ∀ {j : Nat} {cs : Array Value} {t : TypeId}, W.heap[j]? = some (Obj.cells cs t (0, 0)) → (W.putObj k o').heap[j]? = some (Obj.cells cs t (0, 0)) := fun {j cs t} hj => by
    rw [World.putObj_heap_other]; exact hj
    rintro rfl
    rw [ho] at hj; cases hj; cases hc
  exact ⟨ne h3, ⟨A2, c2, ne h4, ownsRow_putObj h5 ho (fun cs e => by subst e; cases hc) o'⟩, h6.grown (grownBy_putObj' W k o') h6.size (fun j e => by cases e; rcases hk with rfl | rfl <;> assumption)⟩⟩
set_option maxHeartbeats 2000000 in
set_option maxRecDepth 100000 in
theorem putInt_any (w : World) (n c : Nat) (A : Option Addr) (bs : List Byte) (x : Int) (hI : Arr w A n c bs) (hn : n ≤ 1048576) (h1 : -9223372036854775808 ≤ x) (h2 : x ≤ 9223372036854775807) :
    Calls Tryz.prog 55 #[.slice A n c, .int .i64 x] w (RetArr 5 w (bs ++ encB (Oct.zig x))) := by
  obtain ⟨i0, hi0, hz0, hz1, hz2⟩ := info_parts' byte_info
  have CL := Lib.hid (fun W => callsIn_wide (n := 2).2 (clone_bytes (w.alloc W) n c A bs (hI.belowLt (alloc_lt _)) (by omega)))
  refine (callsIn_wide (n := 3)).1 ?_
  refine callsIn_of_wp_marks Tryz.func55 rfl trivial ?_ rfl
  simp only [Tryz.ntmps55, List.size_toArray, List.length_cons, List.length_nil, Nat.reduceAdd, Nat.reduceSub, Array.replicate_succ, Array.replicate_zero, List.push_toArray, List.append_toArray, List.nil_append, List.cons_append]
  have CG := Lib.hid (fun W => callsIn_wide (n := 2).2 (groups_any W x h1 h2))
  have HNB := Lib.hid hI.len
  have HZ := Lib.hid (Oct.zig_lt h1 h2)
  clear hI h1 h2
  gi_wp2_with (fail)
  refine ⟨trivial, (CL.out _).mono ?_⟩
  rintro e w1 ⟨A1, n1, c1, rfl, ho1, hb1⟩
  have hB0 : w1.heap[w.heap.size]? = some (.cells #[.slice A n c] 24 (0, 0)) := (hb1.block _ (by simp)).trans (heap_alloc_new w _)
  have k1 := cell_of_one hB0
  have k2 := free_of_one hB0
  have HB0 := Lib.hid hB0
  have HO1 := Lib.hid ho1
  have HB1 := Lib.hid hb1
  clear hB0 ho1 hb1 CL
  gi_wp2_with (fail)
  refine ⟨trivial, (CG.out _).mono ?_⟩
  rintro e w2 ⟨rfl, rfl⟩
  gi_wp2_with (fail)
  obtain ⟨Wl, hWl⟩ : ∃ Wl, Wl = ((w1.setCell ⟨w.heap.size, 0, none⟩ (.slice A1 n1 c1)).alloc (.cells #[.int .u64 (Oct.zig x : Int)] 334)) := ⟨_, rfl⟩
  rw [← hWl]
  have hn1 : n1 = bs.length := (Arr.of_own HO1.out).len
  have hU : w.heap.size < w1.heap.size := by have := HB1.out.size; simp at this; omega
  have hBw : Below w.heap.size w Wl := by
    rw [hWl]
    exact (((alloc_lt _).trans (HB1.out.mono (by simp))).setCell (Nat.le_refl _) _).alloc (by simp; omega) _
  have fB : Wl.heap[w.heap.size]? = some (.cells #[.slice A1 (bs ++ []).length c1] 24 (0, 0)) := by
    rw [hWl, List.append_nil, ← hn1]
    exact (heap_alloc_old _ _ (by simp; omega)).trans (one_setCell HB0.out)
  have fU : Wl.heap[w1.heap.size]? = some (.cells #[.int .u64 (Oct.zig x : Int)] 334 (0, 0)) := by
    rw [hWl]
    have := heap_alloc_new (w1.setCell ⟨w.heap.size, 0, none⟩ (.slice A1 n1 c1)) (.cells #[.int .u64 (Oct.zig x : Int)] 334)
    simpa using this
  have fO : Wl.ownsRow w.heap.size 5 1 (.slice A1 (bs ++ []).length c1) (bs ++ []).length (flat (bs ++ [])) := by
    rw [hWl, List.append_nil, ← hn1]
    exact (ownsRow_setCell_other (own_base HO1.out (by simp)) (own_other HO1.out HB0.out (fun cs e => by injection e; rename_i e1 e2 e3; exact absurd e2 (by decide))) _).alloc _
  have hUl : w1.heap.size < Wl.heap.size := (Array.getElem?_eq_some_iff.1 fU).1
  clear hWl HO1 HB1 HB0
  refine wpIn_rangeFunc_two (β := List Byte × Value) rfl (by omega) (gf := 191) (lb := #[.pointer (some ⟨w1.heap.size, 0, none⟩)]) rfl trivial (enters_of Tryz.func191 (by kernel_rfl) rfl)
    (PJ w w1.heap.size bs) (fun _ _ => False) (fun s args s' => ∃ c : Byte, args = #[.int .u8 (c.n : Int)] ∧ s' = (s.1 ++ [c], s.2) ∧ s.1.length < 10) (fun s => s.1 = encB (Oct.zig x)) ([], .int .u64 (Oct.zig x : Int))
    (fun pre => PJ.abides (by omega) (by omega)) (fun _ => ⟨fun _ _ _ _ h => h.elim⟩) ?start ?size ?body ?iter ?done ?stop
  case start =>
    intro o o'
    exact ⟨(heap_alloc_old _ _ (by simp; omega)).trans ((heap_alloc_old _ _ (by omega)).trans fU), ⟨A1, c1, (heap_alloc_old _ _ (by simp; omega)).trans ((heap_alloc_old _ _ (by omega)).trans fB), (fO.alloc _).alloc _⟩, (hBw.alloc (by omega) _).alloc (by simp; omega) _⟩
  case size =>
    rintro s args s' ⟨c, rfl, _, _⟩
    rfl
  case stop => exact fun _ _ h => h.elim
  case body =>
    clear k1 k2
    rintro ⟨pre, u⟩ args s' W ⟨cc, rfl, rfl, hlen⟩ hInv
    dsimp only at hlen
    have hbl0 : bs.length ≤ 1048576 := by have := HNB.out; omega
    have HI0 := Lib.hid hInv
    clear hInv fB fU fO hBw hn1
    gi_wp2
    refine ⟨⟨trivial, trivial⟩, HI0.out, ?_⟩
    rintro W2 ⟨h3, ⟨A2, c2, h4, hown⟩, h6⟩ ⟨rec, hl⟩ ⟨ds, hd⟩
    dsimp only at h3 h4 hown
    have k1 := cell_of_one h4
    have k2 := free_of_one h4
    have H3 := Lib.hid h3
    have HL := Lib.hid hl
    have HD := Lib.hid hd
    have hbl : (bs ++ pre).length ≤ 1048600 := by simp; omega
    have hB := h6.size
    have hlt0 : w.heap.size < W2.heap.size := (Array.getElem?_eq_some_iff.1 h4).1
    obtain ⟨M, hM⟩ : ∃ M, (bs ++ pre).length = M := ⟨_, rfl⟩
    obtain ⟨cur, hcur⟩ : ∃ cur, bs ++ pre = cur := ⟨_, rfl⟩
    have hc1 : bs ++ (pre ++ [cc]) = cur ++ [cc] := by rw [← hcur]; simp
    rw [hM] at hown k1 hbl h4
    rw [hcur] at hown
    have H4 := Lib.hid h4
    have HM : Hid (cur.length = M) := Lib.hid (by rw [← hM, hcur])
    have HC := Lib.hid hc1
    clear h3 h4 hl hd hc1 hcur hM
    gi_wp2_with (first
      | (gi_at_builtin
         refine wpListIn_append_own _ rfl (.tmp 11) (.tmp 13) 24 rfl w.heap.size 5 i0 _ 1 1 Tryz.underlying24 hi0 hz0 hz1 hz2 rfl (by omega) (.slice A2 M c2) M (flat cur) (by rfl) (hown.alloc _) ⟨W2.heap.size, 0, none⟩ 1 1 [.int .u8 (cc.n : Int)] (by rfl) rfl ?c1 ?c2 ?c3 ?c4 ?c5 ?_
         case c1 => exact cell_one_new _ _ _
         case c2 => exact fun u hu => by simp at hu; subst hu; rfl
         case c3 => simp only [maxLen]; omega
         case c4 => omega
         case c5 => simp; omega
         intro v9 w9 ho9 hg9 _
         obtain ⟨A9, c9, rfl⟩ := own_form ho9
         obtain ⟨k3, k4, hst⟩ := PJ.step H4.out H3.out HL.out rfl HD.out rfl h6 hown ho9 hg9
         have HST := Lib.hid hst
         clear hst ho9 hg9 k1 k2))
    refine ⟨(HST.out _).1, (HST.out _).2.1 hU, ⟨A9, c9, ?_⟩, (HST.out _).2.2.2⟩
    have e : (bs ++ (pre ++ [cc])).length = M + 1 := by rw [HC.out, List.length_append, HM.out]; rfl
    rw [e, HC.out]
    exact (HST.out _).2.2.1
  case iter =>
    intro Book BookX hBk _ _ hyield W hInv hBook
    have hzx : Oct.zig x < 18446744073709551616 := HZ.out
    refine (groups1_any (Wl.heap.size + 1) w1.heap.size 2 (fun pre W => ∃ u, PJ w w1.heap.size bs (pre, u) W ∧ Book W) ?_ 10 ?_ (Oct.zig x) (encB_len _ hzx) hzx W ⟨_, hInv, hBook⟩ hInv.1).mono ?_
    · rintro pre W v ⟨u, hP, hB⟩
      exact ⟨v, hP.setU hU v, hBk _ _ hB (heap_setCell_other _ _ _ _ (by show _ ≠ w1.heap.size; omega)) (heap_setCell_other _ _ _ _ (by show _ ≠ w1.heap.size; omega))⟩
    · rintro pre cc y W ⟨u, hP, hB⟩ hlen hc
      have hu : u = .int .u64 (y : Int) := by have := hP.1; rw [hc] at this; simpa using this.symm
      subst hu
      refine (hyield (pre, _) _ (pre ++ [cc], _) W hP hB ⟨cc, rfl, rfl, hlen⟩).mono ?_
      rintro e W' (⟨rfl, hP', hB'⟩ | ⟨_, _, hf, _⟩)
      · exact ⟨rfl, ⟨_, hP', hB'⟩, hP'.1⟩
      · exact hf.elim
    · rintro e W' ⟨hv, u, hP, hB⟩
      exact ⟨hv, .inl ⟨(_, u), rfl, hP, hB⟩⟩
  case done =>
    rintro ⟨pre, u⟩ W hE ⟨_, ⟨A2, c2, h4, hown⟩, h6⟩ hD hL
    dsimp only at hE h4 hown
    subst hE
    have k1 := cell_of_one h4
    have HD := Lib.hid hD
    have HO := Lib.hid hown
    have HB := Lib.hid h6
    obtain ⟨M, hM⟩ : ∃ M, (bs ++ encB (Oct.zig x)).length = M := ⟨_, rfl⟩
    have HM := Lib.hid hM
    rw [hM] at k1
    clear hD hown h6 h4 hM fB fU fO hBw hn1
    gi_wp2
    refine ⟨by simp, .inl ⟨_, _, rfl, run_takeDeferred HD.out, ?_⟩⟩
    refine ⟨_, results_tmp rfl _ _ _, A2, M, c2, rfl, ?_, HB.out.grown (grownBy_putObj' _ _ _) HB.out.size (fun j e => by cases e; omega)⟩
    have := ownsRow_putObj HO.out HD.out (fun cs e => by cases e) (.deferred none)
    rw [HM.out] at this
    exact this
end Go.Proofs.YtpncejdamjbnlaaGreatDoor
end
