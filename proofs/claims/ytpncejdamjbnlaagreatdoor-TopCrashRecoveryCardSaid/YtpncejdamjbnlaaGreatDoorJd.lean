/-
  A part of the proof of TopCrashRecovery: walks of the functions that the law calls.
-/
import Derived.Test.YtpncejdamjbnlaaGreatDoorJc
import Derived.Test.YtpncejdamjbnlaaGreatDoorYa
import Derived.BigQuiet
set_option linter.all false
section
namespace Go.Proofs.YtpncejdamjbnlaaGreatDoor
open Go.RowKit
def OwnB (w : World) (base : Nat) (v : Value) (css : List (List Byte)) : Prop :=
  ∃ rows : List Value, w.ownsRow base 24 1 v css.length rows ∧
    ∀ (i : Nat) (r : Value), rows[i]? = some r → ∃ cs, css[i]? = some cs ∧ w.ownsRow base 5 1 r cs.length (flat cs)
theorem OwnB.nil_ (w : World) (base : Nat) : OwnB w base (.slice none 0 0) [] := ⟨[], World.ownsRow_nil _ _ _ _, fun i r h => by simp at h⟩
theorem OwnB.below {w w' : World} {B base : Nat} {v : Value} {css : List (List Byte)} (h : OwnB w base v css) (hb : Below B w w') (hB : w.heap.size ≤ B) : OwnB w' base v css := by
  obtain ⟨rows, h1, h2⟩ := h
  exact ⟨rows, own_below h1 hb hB, fun i r hr => by
    obtain ⟨cs, hcs, ho⟩ := h2 i r hr
    exact ⟨cs, hcs, own_below ho hb hB⟩⟩
theorem OwnB.base {w : World} {base base' : Nat} {v : Value} {css : List (List Byte)} (h : OwnB w base v css) (hb : base' ≤ base) : OwnB w base' v css := by
  obtain ⟨rows, h1, h2⟩ := h
  exact ⟨rows, own_base h1 hb, fun i r hr => by
    obtain ⟨cs, e, ho⟩ := h2 i r hr
    exact ⟨cs, e, own_base ho hb⟩⟩
theorem OwnB.keep {w w' : World} {base : Nat} {v : Value} {css : List (List Byte)} (h : OwnB w base v css) (hk : ∀ {t n v xs}, (t = 24 ∨ t = 5) → w.ownsRow base t 1 v n xs → w'.ownsRow base t 1 v n xs) : OwnB w' base v css := by
  obtain ⟨rows, h1, h2⟩ := h
  exact ⟨rows, hk (.inl rfl) h1, fun i r hr => by
    obtain ⟨cs, hcs, ho⟩ := h2 i r hr
    exact ⟨cs, hcs, hk (.inr rfl) ho⟩⟩
theorem OwnB.snoc {w w' : World} {base n : Nat} {v v' r : Value} {css : List (List Byte)} {cs : List Byte} {rows : List Value}
    (h1 : w.ownsRow base 24 1 v css.length rows)
    (h2 : ∀ (i : Nat) (r : Value), rows[i]? = some r → ∃ cs, css[i]? = some cs ∧ w.ownsRow base 5 1 r cs.length (flat cs))
    (hr : w.ownsRow base 5 1 r cs.length (flat cs))
    (hown : w'.ownsRow base 24 1 v' n (rows ++ [r])) (hn : n = css.length + 1) (hg : w.grownBy w' v.ownBlock) : OwnB w' base v' (css ++ [cs]) := by
  have hl : rows.length = css.length := by have := h1.1; omega
  refine ⟨rows ++ [r], by rw [List.length_append]; simpa [hn] using hown, fun i r' hr' => ?_⟩
  by_cases hi : i < rows.length
  · rw [List.getElem?_append_left hi] at hr'
    obtain ⟨cs', e, ho⟩ := h2 i r' hr'
    refine ⟨cs', by rw [List.getElem?_append_left (by omega)]; exact e, ho.kept hg (own_ne ho h1 (by decide))⟩
  · rw [List.getElem?_append_right (by omega)] at hr'
    have : i - rows.length = 0 := by
      rcases Nat.eq_zero_or_pos (i - rows.length) with h | h
      · exact h
      · rw [List.getElem?_eq_none (by simp; omega)] at hr'; cases hr'
    rw [this] at hr'
    simp at hr'
    subst hr'
    exact ⟨cs, by rw [List.getElem?_append_right (by omega), show i - css.length = 0 by omega]; rfl, hr.kept hg (own_ne hr h1 (by decide))⟩
theorem RowsOf.of_own {w : World} {base : Nat} {A : Option Addr} {n c : Nat} {css : List (List Byte)} (h : OwnB w base (.slice A n c) css) : RowsOf w A n c css := by
  obtain ⟨rows, h1, h2⟩ := h
  obtain ⟨A0, c0, e0⟩ := own_form h1
  injection e0 with e1 e2 e3
  subst e1 e2 e3
  have hx := own_caps h1
  refine ⟨rfl, hx.1, hx.2, rows, (Reads.of_own h1).more fun _ h => h.2, fun i r hi => ?_⟩
  obtain ⟨cs, hcs, ho⟩ := h2 i r hi
  obtain ⟨A', c', rfl⟩ := own_form ho
  exact ⟨A', _, c', cs, rfl, hcs, Arr.of_own ho⟩
def scanB : Nat → List Byte → List (List Byte) × Nat
  | 0, _ => ([], 0)
  | n + 1, l => match firstB l with
    | none => ([], 0)
    | some (b, k) => (b :: (scanB n (l.drop k)).1, k + (scanB n (l.drop k)).2)
theorem scanB_nat8 : ∀ (n : Nat) (l : List Byte), Seal.scan crcN n (nat8 l) = ((scanB n l).1.map nat8, (scanB n l).2)
  | 0, l => rfl
  | n + 1, l => by
    simp only [Seal.scan, scanB, firstB_nat8]
    cases h : firstB l with
    | none => rfl
    | some p =>
      obtain ⟨b, k⟩ := p
      simp only [Option.map_some]
      rw [← nat8_drop', scanB_nat8 n]
      rfl
theorem firstB_ge {l : List Byte} {b : List Byte} {k : Nat} (h : firstB l = some (b, k)) : 8 ≤ k ∧ k ≤ l.length ∧ b.length = k - 8 := by
  unfold firstB at h
  split at h
  · cases h
  · split at h
    · cases h
    · split at h
      · cases h
      · split at h
        · injection h with h
          injection h with h1 h2
          subst h1 h2
          refine ⟨by omega, by omega, ?_⟩
          rw [List.length_take, List.length_drop]
          omega
        · cases h
def ScanAt (bs : List Byte) (pre : List (List Byte)) (at_ : Nat) : Prop := ∃ f, bs.length - at_ < f ∧ at_ ≤ bs.length ∧ scanB (bs.length + 1) bs = (pre ++ (scanB f (bs.drop at_)).1, at_ + (scanB f (bs.drop at_)).2) ∧ pre.length * 8 ≤ at_
theorem ScanAt.start (bs : List Byte) : ScanAt bs [] 0 := ⟨bs.length + 1, by omega, by omega, by simp, by simp⟩
theorem ScanAt.next {bs : List Byte} {pre : List (List Byte)} {at_ k : Nat} {b : List Byte} (h : ScanAt bs pre at_) (hf : firstB (bs.drop at_) = some (b, k)) : ScanAt bs (pre ++ [b]) (at_ + k) := by
  obtain ⟨f, h1, h2, h3, h4⟩ := h
  obtain ⟨g1, g2, g3⟩ := firstB_ge hf
  rw [List.length_drop] at g2
  obtain ⟨f, rfl⟩ : ∃ f', f = f' + 1 := ⟨f - 1, by omega⟩
  refine ⟨f, by omega, by omega, ?_, by simp; omega⟩
  rw [h3]
  simp only [scanB, hf, List.drop_drop, List.append_assoc, List.cons_append, List.nil_append]
  congr 1
  omega
theorem ScanAt.stop {bs : List Byte} {pre : List (List Byte)} {at_ : Nat} (h : ScanAt bs pre at_) (hf : firstB (bs.drop at_) = none) : scanB (bs.length + 1) bs = (pre, at_) := by
  obtain ⟨f, h1, h2, h3, h4⟩ := h
  obtain ⟨f, rfl⟩ : ∃ f', f = f' + 1 := ⟨f - 1, by omega⟩
  rw [h3]
  simp [scanB, hf]
end Go.Proofs.YtpncejdamjbnlaaGreatDoor
end
section
namespace Go.Proofs.YtpncejdamjbnlaaGreatDoor
open Go.RowKit Go.Shelf
attribute [local go_sem] Oper.semAt_some
set_option maxHeartbeats 1000000 in
theorem frames_any (w : World) (A : Option Addr) (n c : Nat) : Calls Tryz.prog 58 #[.slice A n c] w fun e w' =>
    e = .returned (.func (.func 108) #[] #[.pointer (some ⟨w.heap.size, 0, none⟩)]) ∧ w.alloc (.cells #[.slice A n c] 24) = w' := by
  go_enter Tryz.func58, Tryz.ntmps58
  go_wp2
  go_ret
  exact ⟨rfl, rfl⟩
set_option maxHeartbeats 2000000 in
set_option maxRecDepth 100000 in
theorem frames1_any (l Bb m n c base : Nat) (A : Option Addr) (bs : List Byte) (J : List (List Byte) × Nat → World → Prop) (hn : n ≤ 1048576)
    (hJ : ∀ s W W', J s W → Below W.heap.size W W' → J s W')
    (hA : ∀ s W, J s W → W.heap[Bb]? = some (.cells #[.slice A n c] 24 (0, 0)) ∧ Arr W A n c bs ∧ base ≤ W.heap.size)
    (hY : ∀ s W A1 n1 c1 b k, J s W → ScanAt bs s.1 s.2 → W.ownsRow base 5 1 (.slice A1 n1 c1) n1 (flat b) → firstB (bs.drop s.2) = some (b, k) → YieldAt Fence.wide (m - 1) Tryz.prog l #[.slice A1 n1 c1, .int .i64 ((s.2 + k : Nat) : Int)] W fun e W' =>
      e = .returned (.bool true) ∧ J (s.1 ++ [b], s.2 + k) W')
    (W : World) (h0 : J ([], 0) W) :
    CallsIn Fence.wide m Tryz.prog 108 #[.func (.yield l) #[] #[], .pointer (some ⟨Bb, 0, none⟩)] W fun e W' => (∃ v, e = .returned v) ∧ J (scanB (bs.length + 1) bs) W' := by
  have HJ := Lib.hid hJ
  have HA := Lib.hid hA
  have HY := Lib.hid hY
  have hlen : n = bs.length := (hA _ _ h0).2.1.len
  have HLEN := Lib.hid hlen
  clear hJ hA hY hlen
  refine callsIn_of_wp Tryz.func108 rfl trivial ?_ rfl
  simp only [Tryz.ntmps108, List.size_toArray, List.length_cons, List.length_nil, Nat.reduceAdd, Nat.reduceSub, Array.replicate_succ, Array.replicate_zero, List.push_toArray, List.append_toArray, List.nil_append, List.cons_append]
  gi_wp2
  gi_loopw [3] (fun v3 wr => ∃ (pre : List (List Byte)) (k0 : Nat), v3 = .int .i64 k0 ∧ ScanAt bs pre k0 ∧ J (pre, k0) wr) (fun v3 _ => n + 1 - (intOf v3).toNat)
  case atStart => exact ⟨[], 0, rfl, ScanAt.start bs, h0⟩
  case round =>
    obtain ⟨pre, k0, rfl, hs, hj⟩ := hrel
    obtain ⟨hb, harr, hbase⟩ := HA.out _ _ hj
    have kb := cell_of_one hb
    have hk0 : k0 ≤ n := by obtain ⟨f, _, h2, _⟩ := hs; have := HLEN.out; omega
    have C := open_all wr n c k0 A bs harr hn hk0
    have HS := Lib.hid hs
    have HJ0 := Lib.hid hj
    clear hb harr hs hj h0
    rcases hf : firstB (bs.drop k0) with _ | ⟨b, k⟩
    · rw [hf] at C
      have CALL := Lib.hid (callsIn_wide (n := m - 1).2 C)
      have HF := Lib.hid (HS.out.stop hf)
      clear C hf
      gi_wp2_with (fail)
      refine ⟨trivial, fun h => (by cases h), CALL.out.mono ?_⟩
      rintro e w1 ⟨v, nx, er, rfl, her, hb1⟩
      have hne : (er != 0) = true := by simpa using her
      have HJ1 := Lib.hid (HJ.out _ _ _ HJ0.out hb1)
      clear hb1
      gi_wp2_with (fail)
      refine ⟨fun _ h => (by cases h), ?_⟩
      gi_wp2_with (fail)
      refine bodyPost_ret (results_none rfl _ _ _) rfl ?_
      exact ⟨⟨_, rfl⟩, by rw [HF.out]; exact HJ1.out⟩
    · rw [hf] at C
      have CALL := Lib.hid (callsIn_wide (n := m - 1).2 C)
      have HN := Lib.hid (HS.out.next hf)
      have HF := Lib.hid hf
      obtain ⟨hk8, hkl, _⟩ := firstB_ge hf
      rw [List.length_drop] at hkl
      have hkn : k0 + k ≤ n := by have := HLEN.out; omega
      clear C hf hkl
      gi_wp2_with (fail)
      refine ⟨trivial, fun h => (by cases h), CALL.out.mono ?_⟩
      rintro e w1 ⟨A1, n1, c1, rfl, ho1, hb1⟩
      have hj1 := HJ.out _ _ _ HJ0.out hb1
      obtain ⟨fn, tmps, assign, body, hyy, hR⟩ := HY.out _ w1 A1 n1 c1 b k hj1 HS.out (own_base ho1 hbase) HF.out
      have hyy' : (Instr.yield l #[.slice A1 n1 c1, .int .i64 ((k0 : Int) + (k : Int))]).run Tryz.prog w1 = .ok (.round l fn tmps assign body) w1 := by
        have e : (((pre, k0).2 + k : Nat) : Int) = (k0 : Int) + (k : Int) := by show ((k0 + k : Nat) : Int) = _; omega
        rw [e] at hyy
        exact hyy
      have HR := Lib.hid hR
      clear hj1 hR ho1 hb1 hyy
      gi_wp2_with (fail)
      refine ⟨fun h => (by cases h), HR.out.mono ?_⟩
      rintro e w2 ⟨rfl, hj2⟩
      have HJ2 := Lib.hid hj2
      clear hj2
      gi_wp2_with (fail)
      exact ⟨⟨pre ++ [b], k0 + k, by go_num, HN.out, HJ2.out⟩, by simp [intOf]; omega⟩
end Go.Proofs.YtpncejdamjbnlaaGreatDoor
end
section
namespace Go.Proofs.YtpncejdamjbnlaaGreatDoor
open Go.RowKit Go.Shelf
attribute [local go_sem] Oper.semAt_some
theorem slice_info : (Tryz.prog.info? 24).map (fun i => (i.zero, i.size, i.bytes)) = some (some (.slice none 0 0), 1, 24) := by kernel_rfl
abbrev ScanS := (List (List Byte) × Nat) × Option (Option Addr × Nat × Nat × List Byte)
def SJ (w : World) (A : Option Addr) (n c : Nat) (s : ScanS) (W : World) : Prop :=
  (∃ L c2, W.heap[w.heap.size]? = some (.cells #[.slice L s.1.1.length c2] 96 (0, 0)) ∧ OwnB W (w.heap.size + 3) (.slice L s.1.1.length c2) s.1.1) ∧
  W.heap[w.heap.size + 1]? = some (.cells #[.int .i64 (s.1.2 : Int)] 3 (0, 0)) ∧ W.heap[w.heap.size + 2]? = some (.cells #[.slice A n c] 24 (0, 0)) ∧
  Below w.heap.size w W ∧ (∀ A1 n1 c1 b, s.2 = some (A1, n1, c1, b) → W.ownsRow (w.heap.size + 3) 5 1 (.slice A1 n1 c1) n1 (flat b))
theorem SJ.below {w : World} {A : Option Addr} {n c : Nat} {s : ScanS} {W W' : World} (h : SJ w A n c s W) (hb : Below W.heap.size W W') : SJ w A n c s W' := by
  obtain ⟨⟨L, c2, h1, h2⟩, h3, h4, h5, h6⟩ := h
  have kp : ∀ {k : Nat} {o : Obj}, W.heap[k]? = some o → W'.heap[k]? = some o := fun {k o} hk => (hb.block k (Array.getElem?_eq_some_iff.1 hk).1).trans hk
  exact ⟨⟨L, c2, kp h1, h2.below hb (Nat.le_refl _)⟩, kp h3, kp h4, below_then' h5 hb, fun A1 n1 c1 b e => own_below (h6 A1 n1 c1 b e) hb (Nat.le_refl _)⟩
where
  below_then' {w a b : World} (h : Below w.heap.size w a) (k : Below a.heap.size a b) : Below w.heap.size w b := h.trans (k.mono h.size)
theorem SJ.abides {w : World} {A : Option Addr} {n c l D : Nat} {s : ScanS} (hl : w.heap.size ≤ l) (hD : w.heap.size ≤ D) : Abides2 l D (SJ w A n c s) := ⟨fun W k o o' h hk ho hc => by
  obtain ⟨⟨L, c2, h1, h2⟩, h3, h4, h5, h6⟩ := h
  have ne : ∀ {j : Nat} {cs : Array Value} {t : TypeId}, W.heap[j]? = some (Obj.cells cs t (0, 0)) → (W.putObj k o').heap[j]? = some (Obj.cells cs t (0, 0)) := fun {j cs t} hj => by
    rw [World.putObj_heap_other]; exact hj
    rintro rfl
    rw [ho] at hj; cases hj; cases hc
  have own : ∀ {t n v xs}, W.ownsRow (w.heap.size + 3) t 1 v n xs → (W.putObj k o').ownsRow (w.heap.size + 3) t 1 v n xs := fun h => ownsRow_putObj h ho (fun cs e => by subst e; cases hc) o'
  exact ⟨⟨L, c2, ne h1, h2.keep (fun _ h => own h)⟩, ne h3, ne h4, h5.grown (grownBy_putObj' W k o') h5.size (fun j e => by cases e; rcases hk with rfl | rfl <;> assumption), fun A1 n1 c1 b e => own (h6 A1 n1 c1 b e)⟩⟩
def RetScan (w : World) (r : List (List Byte) × Nat) (e : Ending) (w' : World) : Prop := ∃ L c2, e = .returned (.tuple #[.slice L r.1.length c2, .int .i64 (r.2 : Int)]) ∧ OwnB w' w.heap.size (.slice L r.1.length c2) r.1 ∧ Below w.heap.size w w'
theorem SJ.step {w W2 w9 : World} {A A1 L A9 : Option Addr} {n c n1 c1 c2 c9 k0 l D : Nat} {o1 oL oD : Obj} {pre : List (List Byte)} {b : List Byte} {rows : List Value}
    (h1 : W2.heap[w.heap.size]? = some (.cells #[.slice L pre.length c2] 96 (0, 0))) (h3 : W2.heap[w.heap.size + 1]? = some (.cells #[.int .i64 (k0 : Int)] 3 (0, 0))) (h4 : W2.heap[w.heap.size + 2]? = some (.cells #[.slice A n c] 24 (0, 0)))
    (hl : W2.heap[l]? = some oL) (hL : oL.isCells = false) (hd : W2.heap[D]? = some oD) (hD : oD.isCells = false) (h6 : Below w.heap.size w W2)
    (ho1 : W2.ownsRow (w.heap.size + 3) 24 1 (.slice L pre.length c2) pre.length rows)
    (ho2 : ∀ (i : Nat) (r : Value), rows[i]? = some r → ∃ cs, pre[i]? = some cs ∧ W2.ownsRow (w.heap.size + 3) 5 1 r cs.length (flat cs))
    (hr : W2.ownsRow (w.heap.size + 3) 5 1 (.slice A1 n1 c1) n1 (flat b))
    (ho9 : w9.ownsRow (w.heap.size + 3) 24 1 (.slice A9 (pre.length + 1) c9) (pre.length + 1) (rows ++ [.slice A1 n1 c1])) (hg9 : (W2.alloc o1).grownBy w9 (Value.slice L pre.length c2).ownBlock) :
    (w9.cell? ⟨w.heap.size, 0, none⟩ = some (.slice L pre.length c2) ∧ w9.frozen? ⟨w.heap.size, 0, none⟩ = false ∧ w9.cell? ⟨w.heap.size + 1, 0, none⟩ = some (.int .i64 (k0 : Int)) ∧ w9.frozen? ⟨w.heap.size + 1, 0, none⟩ = false) ∧
    (∀ k1 : Nat, (((w9.setCell ⟨w.heap.size, 0, none⟩ (.slice A9 (pre.length + 1) c9)).setCell ⟨w.heap.size + 1, 0, none⟩ (.int .i64 (k1 : Int))).heap[l]? = W2.heap[l]? ∧ ((w9.setCell ⟨w.heap.size, 0, none⟩ (.slice A9 (pre.length + 1) c9)).setCell ⟨w.heap.size + 1, 0, none⟩ (.int .i64 (k1 : Int))).heap[D]? = W2.heap[D]?) ∧
      SJ w A n c ((pre ++ [b], k1), none) ((w9.setCell ⟨w.heap.size, 0, none⟩ (.slice A9 (pre.length + 1) c9)).setCell ⟨w.heap.size + 1, 0, none⟩ (.int .i64 (k1 : Int)))) := by
  have n96 : ∀ u : Value, ∀ cs, Obj.cells #[u] 96 (0, 0) ≠ .cells cs 24 (0, 0) := fun u cs e => by injection e; rename_i e1 e2 e3; exact absurd e2 (by decide)
  have n3 : ∀ u : Value, ∀ cs, Obj.cells #[u] 3 (0, 0) ≠ .cells cs 24 (0, 0) := fun u cs e => by injection e; rename_i e1 e2 e3; exact absurd e2 (by decide)
  have no : ∀ {k : Nat} {o : Obj}, W2.heap[k]? = some o → (∀ cs, o ≠ .cells cs 24 (0, 0)) → w9.heap[k]? = some o := fun hk hne => grown_keep hg9 (alloc_keep hk _) (own_other (ho1.alloc o1) (alloc_keep hk o1) hne)
  have g1 := no h1 (n96 _)
  have g3 := no h3 (n3 _)
  have g4 : w9.heap[w.heap.size + 2]? = _ := grown_keep hg9 (alloc_keep h4 _) (fun e => by have := (ho1.lt _ e).1; omega)
  have gl := no hl (fun cs e => by subst e; cases hL)
  have gd := no hd (fun cs e => by subst e; cases hD)
  have nb : ∀ {k : Nat} {o : Obj}, w9.heap[k]? = some o → o.isCells = false → k ≠ w.heap.size ∧ k ≠ w.heap.size + 1 := fun hk hc => ⟨(fun e => by subst e; rw [g1] at hk; cases hk; cases hc), (fun e => by subst e; rw [g3] at hk; cases hk; cases hc)⟩
  have two : ∀ {k : Nat} {o : Obj} (u v : Value), w9.heap[k]? = some o → k ≠ w.heap.size → k ≠ w.heap.size + 1 → ((w9.setCell ⟨w.heap.size, 0, none⟩ u).setCell ⟨w.heap.size + 1, 0, none⟩ v).heap[k]? = some o := fun u v hk e1 e2 =>
    (heap_setCell_other _ _ _ _ e2).trans ((heap_setCell_other _ _ _ _ e1).trans hk)
  refine ⟨⟨cell_of_one g1, free_of_one g1, cell_of_one g3, free_of_one g3⟩, fun k1 => ⟨⟨?_, ?_⟩, ⟨A9, c9, ?_, ?_⟩, ?_, ?_, ?_, fun A1 n1 c1 b e => by cases e⟩⟩
  · rw [two _ _ gl (nb gl hL).1 (nb gl hL).2, hl]
  · rw [two _ _ gd (nb gd hD).1 (nb gd hD).2, hd]
  · have e : (pre ++ [b]).length = pre.length + 1 := by simp
    show _ = some (Obj.cells #[.slice A9 (pre ++ [b]).length c9] 96 (0, 0))
    rw [e]
    exact (heap_setCell_other _ _ _ _ (by show w.heap.size ≠ w.heap.size + 1; omega)).trans (one_setCell g1)
  · have e : (pre ++ [b]).length = pre.length + 1 := by simp
    show OwnB _ _ (.slice A9 (pre ++ [b]).length c9) _
    rw [e]
    have hb : n1 = b.length := (Arr.of_own hr).len
    have hr' : (W2.alloc o1).ownsRow (w.heap.size + 3) 5 1 (.slice A1 n1 c1) b.length (flat b) := by rw [← hb]; exact hr.alloc _
    have hS : OwnB w9 (w.heap.size + 3) (.slice A9 (pre.length + 1) c9) (pre ++ [b]) := OwnB.snoc (ho1.alloc o1) (fun i r h => by
      obtain ⟨cs, e, ho⟩ := ho2 i r h
      exact ⟨cs, e, ho.alloc _⟩) hr' ho9 rfl hg9
    refine hS.keep ?_
    intro t n v xs ht h
    have x1 : ∀ cs, Obj.cells #[Value.slice L pre.length c2] 96 (0, 0) ≠ .cells cs t (0, 0) := fun cs e => by injection e; rename_i e1 e2 e3; rcases ht with rfl | rfl <;> exact absurd e2 (by decide)
    have x3 : ∀ cs, Obj.cells #[Value.int .i64 (k0 : Int)] 3 (0, 0) ≠ .cells cs t (0, 0) := fun cs e => by injection e; rename_i e1 e2 e3; rcases ht with rfl | rfl <;> exact absurd e2 (by decide)
    have h' := ownsRow_setCell_other (a := ⟨w.heap.size, 0, none⟩) h (own_other h g1 x1) (.slice A9 (pre.length + 1) c9)
    have g3' : (w9.setCell ⟨w.heap.size, 0, none⟩ (.slice A9 (pre.length + 1) c9)).heap[w.heap.size + 1]? = some (.cells #[.int .i64 (k0 : Int)] 3 (0, 0)) := (heap_setCell_other _ _ _ _ (by show w.heap.size + 1 ≠ w.heap.size; omega)).trans g3
    exact ownsRow_setCell_other (a := ⟨w.heap.size + 1, 0, none⟩) h' (own_other h' g3' x3) _
  · exact one_setCell ((heap_setCell_other _ _ _ _ (by show w.heap.size + 1 ≠ w.heap.size; omega)).trans g3)
  · exact two _ _ g4 (by omega) (by omega)
  · exact ((((h6.alloc h6.size _).grown hg9 (by have := h6.size; simp; omega) (fun g hg => by have := (ho1.lt g hg).1; omega)).setCell (Nat.le_refl _) _).setCell (by show w.heap.size ≤ w.heap.size + 1; omega) _)
set_option maxHeartbeats 2000000 in
set_option maxRecDepth 100000 in
theorem scan_any (w : World) (n c : Nat) (A : Option Addr) (bs : List Byte) (hI : Arr w A n c bs) (hn : n ≤ 1048576) : Calls Tryz.prog 25 #[.slice A n c] w (RetScan w (scanB (bs.length + 1) bs)) := by
  obtain ⟨i0, hi0, hz0, hz1, hz2⟩ := info_parts' slice_info
  have HI := Lib.hid hI
  have HNB := Lib.hid hI.len
  have CF := Lib.hid (fun W => callsIn_wide (n := 2).2 (frames_any W A n c))
  clear hI
  refine (callsIn_wide (n := 3)).1 ?_
  refine callsIn_of_wp_marks Tryz.func25 rfl trivial ?_ rfl
  simp only [Tryz.ntmps25, List.size_toArray, List.length_cons, List.length_nil, Nat.reduceAdd, Nat.reduceSub, Array.replicate_succ, Array.replicate_zero, List.push_toArray, List.append_toArray, List.nil_append, List.cons_append]
  gi_wp2_with (fail)
  refine ⟨trivial, (CF.out _).mono ?_⟩
  rintro e w1 ⟨rfl, rfl⟩
  gi_wp2_with (fail)
  have e2 : w.heap.size + 1 + 1 = w.heap.size + 2 := rfl
  rw [e2]
  obtain ⟨Wl, hWl⟩ : ∃ Wl, Wl = (((w.alloc (Obj.cells #[Value.slice none 0 0] 96)).alloc (Obj.cells #[Value.int IntKind.i64 0] 3)).alloc (Obj.cells #[Value.slice A n c] 24)) := ⟨_, rfl⟩
  rw [← hWl]
  have hsz : Wl.heap.size = w.heap.size + 3 := by rw [hWl]; simp
  have hS0 : SJ w A n c (([], 0), none) Wl := by
    have b1 : (w.alloc (Obj.cells #[Value.slice none 0 0] 96)).heap[w.heap.size]? = some (.cells #[.slice none 0 0] 96 (0, 0)) := heap_alloc_new _ _
    have b2 : ((w.alloc (Obj.cells #[Value.slice none 0 0] 96)).alloc (Obj.cells #[Value.int IntKind.i64 0] 3)).heap[w.heap.size + 1]? = some (.cells #[.int .i64 0] 3 (0, 0)) := by
      have := heap_alloc_new (w.alloc (Obj.cells #[Value.slice none 0 0] 96)) (Obj.cells #[Value.int IntKind.i64 0] 3)
      simpa using this
    have b3 : Wl.heap[w.heap.size + 2]? = some (.cells #[.slice A n c] 24 (0, 0)) := by
      rw [hWl]
      have := heap_alloc_new ((w.alloc (Obj.cells #[Value.slice none 0 0] 96)).alloc (Obj.cells #[Value.int IntKind.i64 0] 3)) (Obj.cells #[Value.slice A n c] 24)
      simpa using this
    refine ⟨⟨none, 0, ?_, OwnB.nil_ _ _⟩, ?_, b3, ?_, fun _ _ _ _ e => by cases e⟩
    · rw [hWl]; exact alloc_keep (alloc_keep b1 _) _
    · rw [hWl]; exact alloc_keep b2 _
    · rw [hWl]; exact (((alloc_lt _).alloc (by simp) _).alloc (by simp; omega) _)
  have HS0 := Lib.hid hS0
  have HSZ := Lib.hid hsz
  clear hWl hS0 CF e2
  refine wpIn_rangeFunc_two (β := ScanS) rfl (by omega) (gf := 108) (lb := #[.pointer (some ⟨w.heap.size + 2, 0, none⟩)]) rfl trivial (enters_of Tryz.func108 (by kernel_rfl) rfl)
    (SJ w A n c) (fun _ _ => False) (fun s args s' => ∃ A1 n1 c1 b k, s.2 = some (A1, n1, c1, b) ∧ args = #[.slice A1 n1 c1, .int .i64 ((s.1.2 + k : Nat) : Int)] ∧ s' = ((s.1.1 ++ [b], s.1.2 + k), none) ∧ s.1.1.length ≤ 131072) (fun s => s.1 = scanB (bs.length + 1) bs) (([], 0), none)
    (fun s => SJ.abides (by omega) (by omega)) (fun _ => ⟨fun _ _ _ _ h => h.elim⟩) ?start ?size ?body ?iter ?done ?stop
  case start => exact fun o o' => (HS0.out.below (alloc_lt _)).below (alloc_lt _)
  case size =>
    rintro s args s' ⟨A1, n1, c1, b, k, _, rfl, _, _⟩
    rfl
  case stop => exact fun _ _ h => h.elim
  case body =>
    rintro ⟨⟨pre, k0⟩, p⟩ args s' W ⟨A1, n1, c1, b, k, hp, rfl, rfl, hlen⟩ hInv
    dsimp only at hp hlen
    subst hp
    have HI0 := Lib.hid hInv
    clear hInv
    gi_wp2
    refine ⟨⟨trivial, trivial⟩, HI0.out, ?_⟩
    rintro W2 ⟨⟨L, c2, h1, rows, ho1, ho2⟩, h3, h4, h6, h7⟩ ⟨rec, hl⟩ ⟨ds, hd⟩
    dsimp only at h1 h3 h4 ho1 ho2
    have hr := h7 _ _ _ _ rfl
    have k1 := cell_of_one h1
    have k2 := free_of_one h1
    have k3 := cell_of_one h3
    have k4 := free_of_one h3
    have H1 := Lib.hid h1
    have H3 := Lib.hid h3
    have H4 := Lib.hid h4
    have HL := Lib.hid hl
    have HD := Lib.hid hd
    have HO2 := Lib.hid ho2
    have HR := Lib.hid hr
    have hB : w.heap.size + 3 ≤ W2.heap.size := by
      have := (Array.getElem?_eq_some_iff.1 h4).1; omega
    have hlb : pre.length ≤ 131072 := hlen
    obtain ⟨M, hM⟩ : ∃ M, M = pre.length := ⟨_, rfl⟩
    rw [← hM] at ho1 k1 hlb
    have HM := Lib.hid hM
    clear h1 h3 h4 hl hd ho2 hr h7 hM hlen
    have e1 : ((k0 + k : Nat) : Int) = (k0 : Int) + (k : Int) := by omega
    gi_wp2_with (first
      | (gi_at_builtin
         refine wpListIn_append_own _ rfl (.tmp 10) (.tmp 12) 96 rfl (w.heap.size + 3) 24 i0 _ 1 24 Tryz.underlying96 hi0 hz0 hz1 hz2 rfl (by omega) (.slice L M c2) M rows (by rfl) (ho1.alloc _) ⟨W2.heap.size, 0, none⟩ 1 1 [.slice A1 n1 c1] (by rfl) rfl ?c1 ?c2 ?c3 ?c4 ?c5 ?_
         case c1 => exact cell_one_new _ _ _
         case c2 => exact fun u hu => by simp at hu; subst hu; rfl
         case c3 => simp only [maxLen]; omega
         case c4 => omega
         case c5 => simp; omega
         intro v9 w9 ho9 hg9 _
         obtain ⟨A9, c9, rfl⟩ := own_form ho9
         rw [HM.out] at ho9 hg9 ho1 k1 ⊢
         obtain ⟨⟨q1, q2, q3, q4⟩, hst⟩ := SJ.step H1.out H3.out H4.out HL.out rfl HD.out rfl h6 ho1 HO2.out HR.out ho9 hg9
         have HST := Lib.hid hst
         clear hst ho9 hg9 k1 k2 k3 k4))
    have h := HST.out (k0 + k)
    rw [e1] at h
    exact ⟨h.1, h.2⟩
  case iter =>
    intro Book BookX hBk _ hB3 hyield W hInv hBook
    refine (frames1_any (Wl.heap.size + 1) (w.heap.size + 2) 2 n c (w.heap.size + 3) A bs (fun s W => SJ w A n c (s, none) W ∧ Book W) hn ?_ ?_ ?_ W ⟨hInv, hBook⟩).mono ?_
    · rintro s W W' ⟨hs, hb⟩ hbel
      obtain ⟨⟨r1, hr1⟩, ⟨d1, hd1⟩⟩ := hB3 W hb
      exact ⟨hs.below hbel, hBk _ _ hb (hbel.block _ (Array.getElem?_eq_some_iff.1 hr1).1) (hbel.block _ (Array.getElem?_eq_some_iff.1 hd1).1)⟩
    · rintro s W ⟨hs, hb⟩
      obtain ⟨_, _, h4, h5, _⟩ := hs
      exact ⟨h4, HI.out.belowLt h5, by have := (Array.getElem?_eq_some_iff.1 h4).1; omega⟩
    · rintro s W A1 n1 c1 b k ⟨hs, hb⟩ hsc hown hf
      have hlen : s.1.length ≤ 131072 := by
        obtain ⟨f, _, h2, _, h4⟩ := hsc
        have := HNB.out
        omega
      obtain ⟨h1, h3, h4, h5, _⟩ := hs
      refine (hyield (s, some (A1, n1, c1, b)) _ ((s.1 ++ [b], s.2 + k), none) W ⟨h1, h3, h4, h5, fun _ _ _ _ e => by cases e; exact hown⟩ hb ⟨A1, n1, c1, b, k, rfl, rfl, rfl, hlen⟩).mono ?_
      rintro e W' (⟨rfl, hP', hB'⟩ | ⟨_, _, hf, _⟩)
      · exact ⟨rfl, hP', hB'⟩
      · exact hf.elim
    · rintro e W' ⟨hv, hP, hB⟩
      exact ⟨hv, .inl ⟨(scanB (bs.length + 1) bs, none), rfl, hP, hB⟩⟩
  case done =>
    rintro ⟨⟨pre, k0⟩, p⟩ W hE ⟨⟨L, c2, h1, hown⟩, h3, h4, h6, _⟩ hD hL
    dsimp only at hE h1 hown h3
    have HE := Lib.hid hE
    have k1 := cell_of_one h1
    have k2 := free_of_one h1
    have k3 := cell_of_one h3
    have k4 := free_of_one h3
    have HD := Lib.hid hD
    have HO := Lib.hid hown
    have HB := Lib.hid h6
    have H1 := Lib.hid h1
    have H3 := Lib.hid h3
    clear hD hown h6 h1 h3 h4 hE
    obtain ⟨M, hM⟩ : ∃ M, M = pre.length := ⟨_, rfl⟩
    rw [← hM] at k1
    have HM := Lib.hid hM
    clear hM
    gi_wp2
    gi_region
    obtain ⟨Wf, hWf⟩ : ∃ Wf, Wf = ((W.setCell ⟨w.heap.size, 0, none⟩ (.slice L M c2)).setCell ⟨w.heap.size + 1, 0, none⟩ (.int .i64 k0)).drew := ⟨_, rfl⟩
    rw [← hWf]
    have two : ∀ {k : Nat} {o : Obj}, W.heap[k]? = some o → k ≠ w.heap.size → k ≠ w.heap.size + 1 → Wf.heap[k]? = some o := fun hk e1 e2 => by
      rw [hWf]
      exact (heap_setCell_other _ _ _ _ e2).trans ((heap_setCell_other _ _ _ _ e1).trans hk)
    have q1 : Wf.heap[w.heap.size]? = some (.cells #[.slice L M c2] 96 (0, 0)) := by
      rw [hWf]
      exact (heap_setCell_other _ _ _ _ (by show w.heap.size ≠ w.heap.size + 1; omega)).trans (one_setCell H1.out)
    have q3 : Wf.heap[w.heap.size + 1]? = some (.cells #[.int .i64 k0] 3 (0, 0)) := by
      rw [hWf]
      exact one_setCell ((heap_setCell_other _ _ _ _ (by show w.heap.size + 1 ≠ w.heap.size; omega)).trans H3.out)
    have e3 : Wl.heap.size = w.heap.size + 3 := HSZ.out
    have qD : Wf.heap[w.heap.size + 3]? = some (.deferred (some [])) := by
      have := HD.out
      rw [e3] at this
      exact two this (by omega) (by omega)
    have qO : OwnB Wf w.heap.size (.slice L M c2) pre := by
      have h0 := HO.out
      rw [← HM.out] at h0
      refine (h0.keep ?_).base (by omega)
      intro t n v xs ht h
      have x1 : ∀ cs, Obj.cells #[Value.slice L pre.length c2] 96 (0, 0) ≠ .cells cs t (0, 0) := fun cs e => by injection e; rename_i e1 e2 e3; rcases ht with rfl | rfl <;> exact absurd e2 (by decide)
      have x3 : ∀ cs, Obj.cells #[Value.int .i64 (k0 : Int)] 3 (0, 0) ≠ .cells cs t (0, 0) := fun cs e => by injection e; rename_i e1 e2 e3; rcases ht with rfl | rfl <;> exact absurd e2 (by decide)
      have h' := ownsRow_setCell_other (a := ⟨w.heap.size, 0, none⟩) h (own_other h H1.out x1) (.slice L M c2)
      have g3' : (W.setCell ⟨w.heap.size, 0, none⟩ (.slice L M c2)).heap[w.heap.size + 1]? = some (.cells #[.int .i64 (k0 : Int)] 3 (0, 0)) := (heap_setCell_other _ _ _ _ (by show w.heap.size + 1 ≠ w.heap.size; omega)).trans H3.out
      have h'' := ownsRow_setCell_other (a := ⟨w.heap.size + 1, 0, none⟩) h' (own_other h' g3' x3) (.int .i64 k0)
      rw [hWf]
      exact h''.drew
    have qB : Below w.heap.size w Wf := by
      rw [hWf]
      exact ((HB.out.setCell (Nat.le_refl _) _).setCell (by show w.heap.size ≤ w.heap.size + 1; omega) _).drew
    have hp : ∀ {k : Nat}, k ≠ w.heap.size + 3 → (Wf.putObj (w.heap.size + 3) (.deferred none)).heap[k]? = Wf.heap[k]? := fun hk => World.putObj_heap_other hk
    have r1 := cell_of_one ((hp (show w.heap.size ≠ w.heap.size + 3 by omega)).trans q1)
    have r3 := cell_of_one ((hp (show w.heap.size + 1 ≠ w.heap.size + 3 by omega)).trans q3)
    have QO : Hid (OwnB (Wf.putObj (w.heap.size + 3) (.deferred none)) w.heap.size (.slice L M c2) pre) := Lib.hid (qO.keep (fun _ h => ownsRow_putObj h qD (fun cs e => by cases e) _))
    have QB : Hid (Below w.heap.size w (Wf.putObj (w.heap.size + 3) (.deferred none))) := Lib.hid (qB.grown (grownBy_putObj' _ _ _) qB.size (fun j e => by cases e; omega))
    have QD := Lib.hid qD
    clear hWf two q1 q3 e3 qD qO qB hp k1 k2 k3 k4
    gi_wp2
    refine ⟨by simp, .inl ⟨_, _, rfl, run_takeDeferred QD.out, ?_⟩⟩
    refine ⟨.tuple #[.slice L M c2, .int .i64 k0], by simp [results, Tryz.results25, go_sem, r1, r3], L, c2, ?_, ?_, QB.out⟩
    · rw [← HE.out, HM.out]
    · have := QO.out
      rw [HM.out] at this
      rw [← HE.out]
      exact this
end Go.Proofs.YtpncejdamjbnlaaGreatDoor
end
section
namespace Go.Proofs.YtpncejdamjbnlaaGreatDoor
open Go.RowKit Jour
def RetBoolSame (w : World) (b : Bool) (e : Ending) (w' : World) : Prop := e = .returned (.bool b) ∧ w = w'
set_option maxRecDepth 100000 in
theorem within_any (n a b : Int) (w : World) : Calls Tryz.prog 52 #[.int .i64 n, .int .i64 a, .int .i64 b] w (RetBoolSame w (decide (a ≤ n) && decide (n ≤ b))) := by
  go_enter Tryz.func52, Tryz.ntmps52
  by_cases h : a ≤ n
  · have hb : decide (a ≤ n) = true := by simpa using h
    go_wp2
    go_ret
    exact ⟨by simp [h], rfl⟩
  · have hb : decide (a ≤ n) = false := by simpa using h
    go_wp2
    go_ret
    exact ⟨by simp [h], rfl⟩
def RetBoolBelow (w : World) (b : Bool) (e : Ending) (w' : World) : Prop := e = .returned (.bool b) ∧ Below w.heap.size w w'
set_option maxHeartbeats 1000000 in
set_option maxRecDepth 100000 in
theorem may_any (w : World) (no cost : Int) (A : Option Addr) (n c : Nat) (best : Bool) (hn : 1 ≤ no ∧ no ≤ 1099511627776) (hc : 0 ≤ cost ∧ cost ≤ 1099511627776) :
    Calls Tryz.prog 19 #[.agg #[.int .i64 no, .slice A n c, .int .i64 cost, .bool best]] w (RetBoolBelow w (decide (n ≤ 64))) := by
  have C1 : ∀ W, Hid (Calls Tryz.prog 52 #[.int .i64 no, .int .i64 1, .int .i64 1099511627776] W (RetBoolSame W true)) := fun W => Lib.hid (by
    have := within_any no 1 1099511627776 W
    rwa [show (decide ((1 : Int) ≤ no) && decide (no ≤ 1099511627776)) = true by simp; omega] at this)
  have C2 : ∀ W, Hid (Calls Tryz.prog 52 #[.int .i64 cost, .int .i64 0, .int .i64 1099511627776] W (RetBoolSame W true)) := fun W => Lib.hid (by
    have := within_any cost 0 1099511627776 W
    rwa [show (decide ((0 : Int) ≤ cost) && decide (cost ≤ 1099511627776)) = true by simp; omega] at this)
  clear hn hc
  go_enter Tryz.func19, Tryz.ntmps19
  go_wp2_with (fail)
  (with_reducible refine (C1 _).out.mono ?_)
  rintro e w1 ⟨rfl, rfl⟩
  go_wp2_with (fail)
  (with_reducible refine (C2 _).out.mono ?_)
  rintro e w1 ⟨rfl, rfl⟩
  go_wp2_with (fail)
  go_ret
  exact ⟨by simp; omega, alloc_lt _⟩
def bitI (b : Bool) : Int := if b then 1 else 0
def recordB (v : Ver) : List Byte := encI v.no ++ encI v.week.length ++ encPs v.week ++ encI v.cost ++ encI (bitI v.best)
theorem nat8_append (a b : List Byte) : nat8 (a ++ b) = nat8 a ++ nat8 b := by simp [nat8]
theorem nat8_encI (x : Int) : nat8 (encI x) = Jour.encI x := nat8_encB _
theorem nat8_encPs : ∀ ps : List Pl, nat8 (encPs ps) = Jour.encPs ps
  | [] => rfl
  | p :: ps => by
    have e1 : encPs (p :: ps) = encI p.1 ++ encI p.2 ++ encPs ps := by simp [encPs]
    have e2 : Jour.encPs (p :: ps) = Jour.encI p.1 ++ Jour.encI p.2 ++ Jour.encPs ps := by simp [Jour.encPs]
    rw [e1, e2, nat8_append, nat8_append, nat8_encI, nat8_encI, nat8_encPs ps]
theorem nat8_record (v : Ver) : nat8 (recordB v) = Jour.record v := by
  unfold recordB Jour.record
  simp only [nat8_append, nat8_encI, nat8_encPs, List.append_assoc]
  rfl
set_option maxHeartbeats 1000000 in
set_option maxRecDepth 100000 in
theorem record_any (w : World) (v : Ver) (A : Option Addr) (n c : Nat) (hP : Arr w A n c v.week) (hn : n ≤ 64) (h64 : W64s v.week) (h1 : W64 v.no) (h2 : W64 v.cost) :
    Calls Tryz.prog 21 #[.agg #[.int .i64 v.no, .slice A n c, .int .i64 v.cost, .bool v.best]] w (RetArr 5 w (recordB v)) := by
  obtain ⟨no, week, cost, best⟩ := v
  dsimp only at hP h64 h1 h2 ⊢
  obtain ⟨W0, hW0⟩ : ∃ W0, W0 = (w.alloc (Obj.cells #[Value.int IntKind.i64 no, Value.slice A n c, Value.int IntKind.i64 cost, Value.bool best] 34)) := ⟨_, rfl⟩
  have hb0 : W0.heap[w.heap.size]? = some (.cells #[Value.int IntKind.i64 no, Value.slice A n c, Value.int IntKind.i64 cost, Value.bool best] 34 (0, 0)) := by rw [hW0]; exact heap_alloc_new _ _
  have hal : Below w.heap.size w W0 := by rw [hW0]; exact alloc_lt _
  have hlt : w.heap.size < W0.heap.size := (Array.getElem?_eq_some_iff.1 hb0).1
  have HB0 := Lib.hid hb0
  have HAL := Lib.hid hal
  have HP := Lib.hid hP
  have H64 := Lib.hid h64
  have HNW := Lib.hid hP.len
  have C1 : Hid (Calls Tryz.prog 55 #[.slice none 0 0, .int .i64 no] (w.alloc (Obj.cells #[Value.int IntKind.i64 no, Value.slice A n c, Value.int IntKind.i64 cost, Value.bool best] 34)) (RetArr 5 W0 (encI no))) := Lib.hid (by
    have := putInt_any W0 0 0 none [] no Arr.nil_ (by omega) h1.1 h1.2
    rwa [hW0] at this ⊢)
  have cells : ∀ {W : World}, Below W0.heap.size W0 W → W.cell? ⟨w.heap.size, 0, none⟩ = some (.int .i64 no) ∧ W.cell? ⟨w.heap.size, 1, none⟩ = some (.slice A n c) ∧ W.cell? ⟨w.heap.size, 2, none⟩ = some (.int .i64 cost) ∧ W.cell? ⟨w.heap.size, 3, none⟩ = some (.bool best) := fun {W} hb => by
    have h := (hb.block _ hlt).trans HB0.out
    refine ⟨?_, ?_, ?_, ?_⟩ <;> (rw [cell_of_row _ _ _ _ _ _ h]; rfl)
  have CELLS : Hid (∀ {W : World}, Below W0.heap.size W0 W → W.cell? ⟨w.heap.size, 0, none⟩ = some (.int .i64 no) ∧ W.cell? ⟨w.heap.size, 1, none⟩ = some (.slice A n c) ∧ W.cell? ⟨w.heap.size, 2, none⟩ = some (.int .i64 cost) ∧ W.cell? ⟨w.heap.size, 3, none⟩ = some (.bool best)) := Lib.hid cells
  have hl1 := encI_len h1
  have hl2 := encI_len h2
  have hlp := encPs_len h64
  have hln := encI_len (x := (n : Int)) ⟨by omega, by omega⟩
  have H2 := Lib.hid h2
  clear hP h64 h1 h2 hb0 hal cells hW0
  go_enter Tryz.func21, Tryz.ntmps21
  go_wp2_with (fail)
  (with_reducible refine C1.out.mono ?_)
  rintro e w1 ⟨A1, n1, c1, rfl, ho1, hb1⟩
  obtain ⟨_, k1, k2, k3⟩ := CELLS.out hb1
  have hn1 : n1 = (encI no).length := (Arr.of_own ho1).len
  have C2 := Lib.hid (weekPut_any w1 n1 c1 n c A1 A (encI no) week (Arr.of_own ho1) (HP.out.belowLt (below_then HAL.out hb1)) (by omega) hn H64.out)
  have HB1 := Lib.hid hb1
  clear ho1 hb1 C1 hn1
  go_wp2_with (fail)
  (with_reducible refine C2.out.mono ?_)
  rintro e w2 ⟨A2, n2, c2, rfl, ho2, hb2⟩
  have hb2' := below_then HB1.out hb2
  obtain ⟨_, _, k3', k4'⟩ := CELLS.out hb2'
  have hwl : ((week.length : Nat) : Int) = (n : Int) := by rw [HNW.out]
  have hn2 : n2 = (encI no ++ encI week.length ++ encPs week).length := (Arr.of_own ho2).len
  have C3 := Lib.hid (putInt_any w2 n2 c2 A2 _ cost (Arr.of_own ho2) (by rw [hn2]; rw [hwl]; simp only [List.length_append]; have := HNW.out; omega) H2.out.1 H2.out.2)
  have HB2 := Lib.hid hb2'
  have HN2 := Lib.hid hn2
  clear ho2 hb2 hb2' C2 hn2 k1 k2 k3
  go_wp2_with (fail)
  (with_reducible refine C3.out.mono ?_)
  rintro e w3 ⟨A3, n3, c3, rfl, ho3, hb3⟩
  have hb3' := below_then HB2.out hb3
  obtain ⟨_, _, _, k4⟩ := CELLS.out hb3'
  have hn3 : n3 = (encI no ++ encI week.length ++ encPs week ++ encI cost).length := (Arr.of_own ho3).len
  have C4 := Lib.hid (putInt_any w3 n3 c3 A3 _ (bitI best) (Arr.of_own ho3) (by rw [hn3]; rw [hwl]; simp only [List.length_append]; have := HNW.out; omega) (by unfold bitI; split <;> omega) (by unfold bitI; split <;> omega))
  have HB3 := Lib.hid hb3'
  have HF : Hid (recordB ⟨no, week, cost, best⟩ = encI no ++ encI week.length ++ encPs week ++ encI cost ++ encB (Oct.zig (bitI best))) := Lib.hid rfl
  generalize recordB ⟨no, week, cost, best⟩ = rec at *
  clear ho3 hb3 hb3' C3 hn3 hwl k3' k4'
  cases best
  all_goals
    have C5 := C4.out
    (first | rw [show bitI false = 0 from rfl] at C5 | rw [show bitI true = 1 from rfl] at C5)
    have C6 := Lib.hid C5
    clear C5
    go_wp2_with (fail)
    (with_reducible refine C6.out.mono ?_)
    rintro e w4 ⟨A4, n4, c4, rfl, ho4, hb4⟩
    have HO4 := Lib.hid (own_base ho4 (show w.heap.size ≤ w3.heap.size from Nat.le_trans HAL.out.size HB3.out.size))
    have HB4 := Lib.hid (HAL.out.trans ((below_then HB3.out hb4).mono HAL.out.size))
    clear ho4 hb4
    go_wp2_with (fail)
    go_ret
    refine ⟨A4, n4, c4, rfl, ?_, HB4.out⟩
    have e := HO4.out
    rw [HF.out]
    exact e
end Go.Proofs.YtpncejdamjbnlaaGreatDoor
end
section
namespace Go.Proofs.YtpncejdamjbnlaaGreatDoor
open Go.RowKit
theorem same_upto {α : Type} {ps qs : List α} (hl : ps.length = qs.length) (h : ∀ j, j < ps.length → ps[j]? = qs[j]?) : ps = qs := by
  apply List.ext_getElem? 
  intro i
  by_cases hi : i < ps.length
  · exact h i hi
  · rw [List.getElem?_eq_none (by omega), List.getElem?_eq_none (by omega)]
theorem two_boxes (w : World) (u v : Value) (t : TypeId) : ((w.alloc (.cells #[u] t)).alloc (.cells #[v] t)).heap[w.heap.size]? = some (.cells #[u] t (0, 0)) ∧ ((w.alloc (.cells #[u] t)).alloc (.cells #[v] t)).heap[(w.alloc (.cells #[u] t)).heap.size]? = some (.cells #[v] t (0, 0)) :=
  ⟨(Below.block (alloc_lt (w := w.alloc (.cells #[u] t)) (.cells #[v] t)) _ (by simp)).trans (heap_alloc_new w _), heap_alloc_new _ _⟩
set_option maxHeartbeats 2000000 in
set_option maxRecDepth 100000 in
theorem same_any (w : World) (n c n' c' : Nat) (A A' : Option Addr) (ps qs : List Pl) (hP : Arr w A n c ps) (hQ : Arr w A' n' c' qs) (hn : n ≤ 64) (hn' : n' ≤ 64) :
    Calls Tryz.prog 9 #[.agg #[.slice A n c], .agg #[.slice A' n' c']] w (RetBoolBelow w (decide (ps = qs))) := by
  have HP := Lib.hid hP
  have HQ := Lib.hid hQ
  have HL := Lib.hid hP.len
  have HL' := Lib.hid hQ.len
  have hbb : Below w.heap.size w ((w.alloc (.cells #[.slice A n c] 32)).alloc (.cells #[.slice A' n' c'] 32)) := below_then (alloc_lt _) (alloc_lt _)
  obtain ⟨hx, hy⟩ := two_boxes w (.slice A n c) (.slice A' n' c') 32
  have cap1 := hP.cap
  have cap2 := hQ.cap
  have max1 := hP.max
  have max2 := hQ.max
  unfold maxLen at max1 max2
  have HX := Lib.hid hx
  have HY := Lib.hid hy
  have HBB := Lib.hid hbb
  clear hP hQ hx hy hbb
  by_cases hne : n = n'
  · subst hne
    go_enter Tryz.func9, Tryz.ntmps9
    go_wp2_with (fail)
    go_loopw [5] (fun i wr => ∃ k : Nat, k ≤ n ∧ i = .int .i64 k ∧ (∀ j, j < k → ps[j]? = qs[j]?) ∧ Below ((w.alloc (.cells #[.slice A n c] 32)).alloc (.cells #[.slice A' n c'] 32)).heap.size ((w.alloc (.cells #[.slice A n c] 32)).alloc (.cells #[.slice A' n c'] 32)) wr) (fun i _ => n - (intOf i).toNat)
    case atStart => exact ⟨0, Nat.zero_le _, rfl, fun j hj => absurd hj (by omega), Below.refl _ _⟩
    case round =>
      obtain ⟨k, hk, rfl, hsame, hb⟩ := hrel
      have k1 := cell_of_one ((hb.block _ (by simp; omega)).trans HX.out)
      have k2 : wr.cell? ⟨w.heap.size + 1, 0, none⟩ = some (.slice A' n c') := by have := cell_of_one ((hb.block _ (by simp)).trans HY.out); simpa using this
      by_cases hlt : k < n
      · obtain ⟨⟨p1, p2⟩, hp⟩ : ∃ p, ps[k]? = some p := ⟨_, List.getElem?_eq_getElem (by have := HL.out; omega)⟩
        obtain ⟨⟨q1, q2⟩, hq⟩ : ∃ p, qs[k]? = some p := ⟨_, List.getElem?_eq_getElem (by have := HL'.out; omega)⟩
        obtain ⟨ad, rfl, hadS, hc1, hc2⟩ := HP.out.pl hp
        obtain ⟨ad', rfl, hadS', hd1, hd2⟩ := HQ.out.pl hq
        have hbw := HBB.out.trans (hb.mono HBB.out.size)
        have e1 := (hbw.cell (p := ad.add (k * 2)) (by rw [block_of_add]; exact hadS)).trans hc1
        have e2 := (hbw.cell (p := ⟨(ad.add (k * 2)).block, (ad.add (k * 2)).off + 1, none⟩) (by show (ad.add (k * 2)).block < _; rw [block_of_add]; exact hadS)).trans hc2
        have e3 := (hbw.cell (p := ad'.add (k * 2)) (by rw [block_of_add]; exact hadS')).trans hd1
        have e4 := (hbw.cell (p := ⟨(ad'.add (k * 2)).block, (ad'.add (k * 2)).off + 1, none⟩) (by show (ad'.add (k * 2)).block < _; rw [block_of_add]; exact hadS')).trans hd2
        dsimp only at e1 e2 e3 e4
        have HB := Lib.hid hb
        have HS := Lib.hid hsame
        have HPk := Lib.hid hp
        have HQk := Lib.hid hq
        clear hb hsame hp hq hadS hadS' hc1 hc2 hd1 hd2 hbw
        by_cases hpq : (p1, p2) = (q1, q2)
        · injection hpq with ha hb
          subst ha hb
          go_upto_region 20 with (fail)
          go_quiet (fail)
          go_wp2_with (fail)
          go_roundw
          case rel => exact ⟨k + 1, by omega, by go_num, fun j hj => by
            rcases Nat.lt_or_ge j k with h | h
            · exact HS.out j h
            · obtain rfl : j = k := by omega
              rw [HPk.out, HQk.out], below_drewN HB.out _⟩
          case measure => simp [intOf]; omega
        · have NE : decide (ps = qs) = false := decide_eq_false (fun e => hpq (by have h1 := HPk.out; rw [e, HQk.out] at h1; injection h1 with h1; exact h1.symm))
          have NE' := Lib.hid NE
          clear NE
          by_cases h1 : p1 = q1
          · subst h1
            have h2 : p2 ≠ q2 := fun e => hpq (by rw [e])
            go_upto_region 20 with (fail)
            go_quiet (fail)
            go_wp2_with (fail)
            go_ret
            rw [NE'.out]
            exact ⟨rfl, below_drewN (HBB.out.trans (HB.out.mono HBB.out.size)) _⟩
          · go_upto_region 20 with (fail)
            go_quiet (fail)
            go_wp2_with (fail)
            go_ret
            rw [NE'.out]
            exact ⟨rfl, below_drewN (HBB.out.trans (HB.out.mono HBB.out.size)) _⟩
      · obtain rfl : n = k := by omega
        have hps : ps = qs := same_upto (by rw [← HL.out, ← HL'.out]) (fun j hj => hsame j (by rw [HL.out]; exact hj))
        have HPS := Lib.hid (decide_eq_true hps)
        have HB := Lib.hid (HBB.out.trans (hb.mono HBB.out.size))
        clear hps hb hsame
        go_wp2_with (fail)
        go_ret
        rw [HPS.out]
        exact ⟨rfl, HB.out⟩
  · have hps : decide (ps = qs) = false := by
      apply decide_eq_false; intro e; apply hne; rw [HL.out, HL'.out, e]
    have HPS := Lib.hid hps
    have k1 := cell_of_one HX.out
    have k2 := cell_of_one HY.out
    clear hps
    go_enter Tryz.func9, Tryz.ntmps9
    go_wp2_with (fail)
    go_ret
    rw [HPS.out]
    exact ⟨rfl, HBB.out⟩
end Go.Proofs.YtpncejdamjbnlaaGreatDoor
end
