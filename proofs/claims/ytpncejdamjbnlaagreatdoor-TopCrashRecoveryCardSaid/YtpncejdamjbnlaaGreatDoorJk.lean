/-
  A part of the proof of TopCrashRecovery: walks of the functions that the law calls.
-/
import Derived.Test.YtpncejdamjbnlaaGreatDoorJh
import Derived.Test.YtpncejdamjbnlaaGreatDoorJg
import Derived.Test.YtpncejdamjbnlaaGreatDoorJj
set_option linter.all false
section
namespace Go.Proofs.YtpncejdamjbnlaaGreatDoor
open Go.RowKit Jour
theorem and_65535 (n : Int) : ∃ r : Nat, bits BinOp.and IntKind.i64 n 65535 = (r : Int) ∧ r < 65536 := by
  have h1 : (BitVec.ofInt 64 (65535 : Int)).toNat = 65535 := by decide
  have h2 : ((BitVec.ofInt 64 n &&& BitVec.ofInt 64 (65535 : Int)).toNat) ≤ 65535 := by
    rw [BitVec.toNat_and, h1]; exact Nat.and_le_right
  refine ⟨(BitVec.ofInt 64 n &&& BitVec.ofInt 64 (65535 : Int)).toNat, ?_, by omega⟩
  show IntKind.i64.wrap ((BitVec.ofInt 64 n &&& BitVec.ofInt 64 (65535 : Int)).toNat : Int) = _
  rw [IntKind.wrap_i64]
  omega
def versL (wks : List (List Pl)) : List Ver := wks.mapIdx fun i ps => ⟨(i : Int) + 1, ps, i, false⟩
theorem versL_len (wks : List (List Pl)) : (versL wks).length = wks.length := by simp [versL]
theorem versL_at {wks : List (List Pl)} {i : Nat} {ps : List Pl} (h : wks[i]? = some ps) : (versL wks)[i]? = some ⟨(i : Int) + 1, ps, i, false⟩ := by simp [versL, h]
theorem versL_next {wks : List (List Pl)} {i : Nat} {ps : List Pl} (h : wks[i]? = some ps) : (versL wks).take (i + 1) = (versL wks).take i ++ [⟨(i : Int) + 1, ps, i, false⟩] := by
  rw [List.take_succ, versL_at h]; rfl
theorem Arr.not_in_disk {w : World} {A : Option Addr} {n c D : Nat} {bs : List Byte} {u v : Value} (h : Arr w A n c bs) (hn : 0 < n) (hD : w.heap[D]? = some (.cells #[u, v] 26 (0, 0))) (hu : ∀ k x, u ≠ .int k x) (hv : ∀ k x, v ≠ .int k x) : ∀ ad, A = some ad → ad.block ≠ D := by
  intro ad hA he
  obtain ⟨b, hb⟩ : ∃ b, bs[0]? = some b := ⟨_, List.getElem?_eq_getElem (by have := h.len; omega)⟩
  obtain ⟨ad', hA', _, hc⟩ := h.byte hb
  rw [hA] at hA'
  injection hA' with hA'
  subst hA'
  have e0 : ad.add 0 = ad := add_zero ad
  rw [e0] at hc
  obtain ⟨blk, off, far⟩ := ad
  dsimp only at he
  subst he
  cases far with
  | none =>
    rw [cell_of_row _ _ _ _ _ _ hD] at hc
    match off, hc with
    | 0, hc => simp at hc; exact hu _ _ hc
    | 1, hc => simp at hc; exact hv _ _ hc
    | k + 2, hc => simp at hc
  | some f => simp [World.cell?, hD] at hc
theorem Arr.setCell {α : Type} [Flat α] {w : World} {A : Option Addr} {n c D : Nat} {bs : List α} (h : Arr w A n c bs) (hne : 0 < n → ∀ ad, A = some ad → ad.block ≠ D) (o : Nat) (v : Value) : Arr (w.setCell ⟨D, o, none⟩ v) A n c bs := by
  refine ⟨h.len, h.cap, h.max, ⟨h.reads.1, fun hn => ?_⟩, h.none_⟩
  obtain ⟨ad, e, hb, hc⟩ := h.reads.2 hn
  refine ⟨ad, e, by simpa using hb, fun j u hu => ?_⟩
  have hk : (w.setCell ⟨D, o, none⟩ v).heap[(ad.add j).block]? = w.heap[(ad.add j).block]? := heap_setCell_other _ _ _ _ (by rw [block_of_add]; exact hne hn ad e)
  rw [World.cell?_of_block hk]
  exact hc j u hu
theorem DiskOf.setDisk {w : World} {A A' : Option Addr} {n c n' c' D : Nat} {vs us : List Ver} {u v u' v' : Value} (h : DiskOf w A n c A' n' c' vs us) (hD : w.heap[D]? = some (.cells #[u, v] 26 (0, 0))) (hu : ∀ k x, u ≠ .int k x) (hv : ∀ k x, v ≠ .int k x) :
    DiskOf ((w.setCell ⟨D, 0, none⟩ u').setCell ⟨D, 1, none⟩ v') A n c A' n' c' vs us := by
  have h1 := fun hn => h.safe.not_in_disk hn hD hu hv
  have h2 := fun hn => h.open_.not_in_disk hn hD hu hv
  exact ⟨(h.safe.setCell h1 _ _).setCell h1 _ _, (h.open_.setCell h2 _ _).setCell h2 _ _, h.ok1, h.ok2, h.few⟩
theorem two_sets {w : World} {X : Nat} (a b : Value) {p : Addr} {v : Value} (hp : p.block ≠ X) (h : w.cell? p = some v) : ((w.setCell ⟨X, 0, none⟩ a).setCell ⟨X, 1, none⟩ b).cell? p = some v := by
  rw [World.cell?_of_block (w := w) ((heap_setCell_other _ _ _ _ hp).trans (heap_setCell_other _ _ _ _ hp))]; exact h
def NewBox (wr : World) (vs us : List Ver) (v12 v13 : Value) (wx : World) : Prop := ∃ X A n c A' n' c', v12 = .pointer (some ⟨X, 0, none⟩) ∧ v13 = .int .i64 0 ∧ wx.heap[X]? = some (.cells #[.slice A n c, .slice A' n' c'] 26 (0, 0)) ∧ DiskOf wx A n c A' n' c' vs us ∧ Below wr.heap.size wr wx
theorem newBox_after {wr w5 : World} {A A' : Option Addr} {n c n' c' : Nat} {vs us : List Ver} (h : DiskOf w5 A n c A' n' c' vs us) (hb : Below wr.heap.size wr w5) : NewBox wr vs us (.pointer (some ⟨w5.heap.size, 0, none⟩)) (.int .i64 0) (w5.alloc (.cells #[.slice A n c, .slice A' n' c'] 26)) :=
  ⟨_, A, n, c, A', n', c', rfl, rfl, heap_alloc_new _ _, h.belowLt (alloc_lt _), hb.alloc hb.size _⟩
theorem newBox_before {wr w5 : World} {A A' : Option Addr} {n c n' c' X : Nat} {vs us : List Ver} (h : DiskOf w5 A n c A' n' c' vs us) (hb : Below wr.heap.size wr w5) (hX : w5.heap[X]? = some (.cells #[.slice none 0 0, .slice none 0 0] 26 (0, 0))) (hXs : wr.heap.size ≤ X) :
    NewBox wr vs us (.pointer (some ⟨X, 0, none⟩)) (.int .i64 0) ((w5.setCell ⟨X, 0, none⟩ (.slice A n c)).setCell ⟨X, 1, none⟩ (.slice A' n' c')) :=
  ⟨_, A, n, c, A', n', c', rfl, rfl, one_put (i := 1) (one_put (i := 0) hX), h.setDisk hX (fun _ _ e => by cases e) (fun _ _ e => by cases e), (hb.setCell hXs _).setCell hXs _⟩
theorem okV_of {vs : List Ver} (h : OkL 1 vs) : OkV 0 vs := fun i v hi => by
  obtain ⟨h1, h2, _⟩ := OkL.at_ h hi
  obtain ⟨_, h3, h4⟩ := may_parts h2
  exact ⟨by omega, h3.1, h3.2, h4⟩
theorem versL_take_at {wks : List (List Pl)} {m i : Nat} {ps : List Pl} (h : wks[i]? = some ps) (hi : i < m) : ((versL wks).take m)[i]? = some ⟨(i : Int) + 1, ps, i, false⟩ := by
  rw [List.getElem?_take, if_pos hi, versL_at h]
end Go.Proofs.YtpncejdamjbnlaaGreatDoor
end
section
namespace Go.Proofs.YtpncejdamjbnlaaGreatDoor
open Go.RowKit Jour
def RetGood (w : World) (sno : Int) (Ac : Option Addr) (nc cc : Nat) (v : Ver) (e : Ending) (w' : World) : Prop := ∃ (kd fr : Int) (Aw : Option Addr) (nw cw : Nat) (Am : Option Addr) (nm cm : Nat), e = .returned (.tuple #[.agg (msgV kd 0 fr v.no (.slice Aw nw cw) (.slice Am nm cm)), .int .i64 0]) ∧
  (∀ W, Below w'.heap.size w' W → Calls Tryz.prog 13 #[.agg #[.int .i64 sno, .slice Ac nc cc], .agg (msgV kd 0 fr v.no (.slice Aw nw cw) (.slice Am nm cm))] W (RetTake W v.no v.week)) ∧
  (∀ W A n c, Arr W A n c v.week → Below w'.heap.size w' W → Calls Tryz.prog 13 #[.agg #[.int .i64 v.no, .slice A n c], .agg (msgV kd 0 fr v.no (.slice Aw nw cw) (.slice Am nm cm))] W (RetOld W)) ∧ Below w.heap.size w w'
theorem reply_good (w : World) (k c sno nc cc : Nat) (A Ac : Option Addr) (vs : List Ver) (v : Ver) (cps : List Pl) (hV : VersOf w A (k + 1) c vs) (hn : k + 1 ≤ 64) (hok : OkV 0 vs) (hch : chk vs = true) (hv : vs[k]? = some v)
    (hs : sno ≤ k) (hC : Arr w Ac nc cc cps) (h0 : sno = 0 → cps = []) (h1 : ∀ p, sno = p + 1 → ∃ u : Ver, vs[p]? = some u ∧ u.week = cps) :
    Calls Tryz.prog 11 #[.slice A ((k + 1 : Nat) : Nat) c, .int .i64 sno, .int .i64 0] w (RetGood w sno Ac nc cc v) := by
  obtain ⟨hno, _, _, hwl⟩ := hok k v hv
  have hmn : 1 ≤ v.no ∧ v.no ≤ 1099511627776 := by omega
  have hcl : cps.length ≤ 64 := by
    cases sno with
    | zero => rw [h0 rfl]; simp
    | succ p => obtain ⟨u, hu, rfl⟩ := h1 p rfl; exact (hok p u hu).2.2.2
  have hnc : nc ≤ 64 := by rw [hC.len]; exact hcl
  have whole : ∀ e w', RetWhole w v.no v.week e w' → RetGood w sno Ac nc cc v e w' := by
    rintro e w' ⟨A5, n5, c5, rfl, ha, hb⟩
    have h5 : n5 ≤ 64 := by rw [ha.len]; exact hwl
    refine ⟨1, 0, _, _, _, _, _, _, rfl, fun W hW => ?_, fun W A' n' c' hA hW => ?_, hb⟩
    · exact take_whole W nc cc Ac cps sno v.no n5 c5 A5 v.week (hC.belowLt (hb.trans (hW.mono hb.size))) hnc ⟨by omega, by omega⟩ hmn (ha.belowLt hW) h5 (by omega)
    · exact take_old1 W n' c' A' v.week v.no v.no n5 c5 A5 hA (by rw [hA.len]; exact hwl) ⟨by omega, hmn.2⟩ hmn (Int.le_refl _)
  cases sno with
  | zero => exact (reply_first w k c A vs v hV hn hok hch hv).mono whole
  | succ p =>
    obtain ⟨u, hu, hup⟩ := h1 p rfl
    subst hup
    by_cases hl : u.week.length = v.week.length
    · refine (reply_diff w k p c A vs v hV hn hok hch hv u hu (by omega) hl).mono ?_
      rintro e w' ⟨A5, n5, c5, rfl, ha, hb⟩
      have h5 : n5 ≤ 64 := by have := diff_len u.week v.week 0; rw [ha.len]; omega
      refine ⟨2, (p : Int) + 1, _, _, _, _, _, _, rfl, fun W hW => ?_, fun W A' n' c' hA hW => ?_, hb⟩
      · exact take_moves W nc cc Ac u.week ((p : Int) + 1) v.no n5 c5 A5 _ v.week (hC.belowLt (hb.trans (hW.mono hb.size))) hnc ⟨by omega, by omega⟩ hmn (ha.belowLt hW) h5 (Feed.apply_diff0 _ _ hl) (by omega)
      · exact take_old2 W n' c' A' v.week v.no v.no n5 c5 A5 ((p : Int) + 1) hA (by rw [hA.len]; exact hwl) ⟨by omega, hmn.2⟩ hmn (Int.le_refl _)
    · exact (reply_ne w k p c A vs v hV hn hok hch hv u hu (by omega) hl).mono whole
set_option maxRecDepth 100000 in
theorem field46 (w : World) (k t f n : Int) (x y : Value) : (Instr.field 46 (.agg #[.int .i64 k, .int .i64 t, .int .i64 f, .int .i64 n, x, y]) 3).run Tryz.prog w = .ok (.int .i64 n) w := by
  first | kernel_rfl | rfl | (simp [Instr.field, Tryz.underlying46]; done)
def AtClient (w : World) (Cb sno m cv : Nat) (Av : Option Addr) (V : List Ver) (v22 : Value) (wx : World) : Prop := v22 = .pointer (some ⟨Cb, 0, none⟩) ∧ ∃ Ac nc cc cps, wx.heap[Cb]? = some (.cells #[.int .i64 sno, .slice Ac nc cc] 42 (0, 0)) ∧ Arr wx Ac nc cc cps ∧ (sno = 0 → cps = []) ∧ (∀ p, sno = p + 1 → ∃ u : Ver, V[p]? = some u ∧ u.week = cps) ∧ VersOf wx Av m cv V ∧ Below w.heap.size w wx
end Go.Proofs.YtpncejdamjbnlaaGreatDoor
end
section
namespace Go.Proofs.YtpncejdamjbnlaaGreatDoor
open Go.RowKit Jour
def RetTrue (w : World) (e : Ending) (w' : World) : Prop := e = .returned (.bool true) ∧ Below w.heap.size w w'
set_option maxHeartbeats 4000000 in
set_option maxRecDepth 100000 in
theorem law_any (w : World) (nl cl : Nat) (AL : Option Addr) (wks : List (List Pl)) (safe keep shows : Int) (hL : RowsOf w AL nl cl wks) (hwf : ∀ ps ∈ wks, W64s ps) (hkeep : keep < 9223372036854775808)
    (hAw : Calls Tryz.prog 4 #[] w (RetBoolBelow w true)) :
    Calls Tryz.prog 3 #[.slice AL nl cl, .int .i64 safe, .int .i64 keep, .int .i64 shows] w (RetTrue w) := by
  have HAW := Lib.hid hAw
  have HL := Lib.hid hL
  have HWF := Lib.hid hwf
  have HLL := Lib.hid hL.len
  have cap1 := hL.cap
  have max1 := hL.max
  unfold maxLen at max1
  obtain ⟨rs, hrs, hrs2⟩ := and_65535 safe
  obtain ⟨rh, hrh, hrh2⟩ := and_65535 shows
  clear hL hwf hAw
  by_cases hg : 8 < nl ∨ keep < 0
  · go_enter Tryz.func3, Tryz.ntmps3
    go_wp2_with (fail)
    (with_reducible refine HAW.out.mono ?_)
    rintro e w1 ⟨rfl, hb1⟩
    have HB1 := Lib.hid hb1
    clear hb1
    by_cases h8 : 8 < nl
    · have hd1 : decide ((8 : Int) < (nl : Int)) = true := by simp; omega
      go_wp2_with (fail)
      go_ret
      exact ⟨rfl, HB1.out⟩
    · have hd1 : decide ((8 : Int) < (nl : Int)) = false := by simp; omega
      have hd2 : decide (keep < 0) = true := by simp; omega
      go_wp2_with (fail)
      go_ret
      exact ⟨rfl, HB1.out⟩
  · have hd1 : decide ((8 : Int) < (nl : Int)) = false := by simp; omega
    have hd2 : decide (keep < 0) = false := by simp; omega
    obtain ⟨K, rfl⟩ : ∃ K : Nat, keep = K := ⟨keep.toNat, by omega⟩
    obtain ⟨k, hk⟩ : ∃ k, k = rs % (nl + 1) := ⟨_, rfl⟩
    have hn8 : nl ≤ 8 := by omega
    have hkn : k ≤ nl := by rw [hk]; have := Nat.mod_lt rs (show 0 < nl + 1 by omega); omega
    go_enter Tryz.func3, Tryz.ntmps3
    go_wp2_with (fail)
    (with_reducible refine HAW.out.mono ?_)
    rintro e w1 ⟨rfl, hb1⟩
    have HB1 := Lib.hid hb1
    clear hb1
    have hkI : (rs : Int) % ((nl : Int) + 1) = (k : Int) := by rw [hk]; simp
    go_wp2_with (fail)
    rw [hkI]
    have hal : Below w.heap.size w (w1.alloc (Obj.cells #[.slice none 0 0, .slice none 0 0] 26)) := HB1.out.alloc HB1.out.size _
    have hbD := heap_alloc_new w1 (Obj.cells #[.slice none 0 0, .slice none 0 0] 26)
    have hDw := HB1.out.size
    obtain ⟨D, hD⟩ : ∃ D, D = w1.heap.size := ⟨_, rfl⟩
    rw [← hD] at hbD hDw ⊢
    clear hD HB1 HAW
    generalize (w1.alloc (Obj.cells #[.slice none 0 0, .slice none 0 0] 26)) = W1 at *
    have HAL := Lib.hid hal
    have HBD := Lib.hid hbD
    clear hal hbD hg hd1 hd2 hrs hk hkI
    go_loopw [11, 12, 13, 14, 15] (fun i _ _ _ _ wr => ∃ (j : Nat) (A : Option Addr) (n c : Nat) (A' : Option Addr) (n' c' : Nat) (vs us : List Ver), j ≤ nl ∧ i = .int .i64 j ∧ wr.heap[D]? = some (.cells #[.slice A n c, .slice A' n' c'] 26 (0, 0)) ∧ DiskOf wr A n c A' n' c' vs us ∧ vs ++ us = (versL wks).take j ∧ (k ≤ j → k ≤ vs.length) ∧ Below w.heap.size w wr) (fun i _ _ _ _ _ => nl - (intOf i).toNat)
    case atStart => exact ⟨0, none, 0, 0, none, 0, 0, [], [], Nat.zero_le _, rfl, HBD.out, ⟨Arr.nil_, Arr.nil_, trivial, trivial, by simp⟩, rfl, fun h => by simpa using h, HAL.out⟩
    case round =>
      obtain ⟨j, A, n, c, A', n', c', vs, us, hj, rfl, hbD, hDk, hvs, hkv, hb⟩ := hrel
      obtain ⟨⟨d0, d1⟩, hdf⟩ := pair_cells hbD
      by_cases hlt : j < nl
      · obtain ⟨ps, hps⟩ : ∃ p, wks[j]? = some p := ⟨_, List.getElem?_eq_getElem (by have := HLL.out; omega)⟩
        obtain ⟨ad, Aw, nw, cw, rfl, hadS, hcw, hPw⟩ := HL.out.at_ hps
        have hcj := (hb.cell (p := ad.add j) (by rw [block_of_add]; exact hadS)).trans hcw
        have hPr := hPw.belowLt hb
        have HWS : Hid (W64s ps) := Lib.hid (HWF.out ps (List.mem_of_getElem? hps))
        have hji : (j : Int) < (nl : Int) := by omega
        have hj0 : (0 : Int) ≤ (j : Int) := by omega
        have hjw : IntKind.i64.wrap ((j : Int) + 1) = (j : Int) + 1 := IntWalk.i64_in _ (by omega)
        have hlen : vs.length + us.length = j := by
          have h1 := congrArg List.length hvs
          rw [List.length_append, List.length_take, versL_len] at h1
          have := HLL.out
          omega
        by_cases h64 : nw ≤ 64
        · have CA : Hid (∀ W, Below wr.heap.size wr W → Calls Tryz.prog 5 #[.agg #[.slice A n c, .slice A' n' c'], .agg #[.int .i64 ((j : Int) + 1), .slice Aw nw cw, .int .i64 j, .bool false]] W (RetDisk W vs (us ++ [⟨(j : Int) + 1, ps, j, false⟩]))) := Lib.hid fun W hW =>
            append_disk W A A' Aw n c n' c' nw cw vs us ⟨(j : Int) + 1, ps, j, false⟩ rfl (hDk.belowLt hW) (hPr.belowLt hW) (by show (j : Int) + 1 = _; rw [hlen]; rfl) ⟨hj0, by show (j : Int) ≤ _; omega⟩ HWS.out h64 (by omega)
          have HBD' := Lib.hid hbD
          have HB := Lib.hid hb
          have HVS := Lib.hid hvs
          have HKV := Lib.hid hkv
          have HPS := Lib.hid hps
          have HLEN := Lib.hid hlen
          clear hbD hb hvs hkv hps hlen hDk hPr hPw hcw
          go_upto_region 10 with (fail)
          go_cut [12, 13] (fun v12 v13 wx => NewBox wr vs (us ++ [⟨(j : Int) + 1, ps, j, false⟩]) v12 v13 wx)
          case first =>
            go_region_held3 (fun w' => w'.cell? ⟨D, 0, none⟩ = some (.slice A n c) ∧ w'.cell? ⟨D, 1, none⟩ = some (.slice A' n' c') ∧ w'.cell? (ad.add j) = some (.slice Aw nw cw)) (first | (exact ⟨d0, d1, hcj⟩) | (exact ⟨y0, y1, y2⟩) | (exact ⟨p0, p1, p2⟩) | go_keep)
              (first
                | (go_at_call 5
                   (with_reducible refine (CA.out _ ((Below.refl wr.heap.size wr).drew)).mono ?_)
                   rintro e w5 ⟨A5, n5, c5, A6, n6, c6, rfl, hd5, hb5⟩
                   have hb6 : Below wr.heap.size wr w5 := below_then (Below.refl wr.heap.size wr).drew hb5
                   have j5 := (hb6.block D (Array.getElem?_eq_some_iff.1 HBD'.out).1).trans HBD'.out
                   obtain ⟨⟨y0, y1⟩, _⟩ := pair_cells j5
                   have y2 : w5.cell? (ad.add j) = some (.slice Aw nw cw) := (hb6.cell (p := ad.add j) (by rw [block_of_add]; exact Nat.lt_of_lt_of_le hadS HB.out.size)).trans hcj
                   have REL := Lib.hid (newBox_after hd5 hb6)
                   clear hb5 hb6 hd5 j5)
                | (go_at_call 5
                   (with_reducible refine (CA.out _ (((Below.refl wr.heap.size wr).alloc (Nat.le_refl _) (Obj.cells #[Value.slice none 0 0, Value.slice none 0 0] 26)).drew)).mono ?_)
                   rintro e w5 ⟨A5, n5, c5, A6, n6, c6, rfl, hd5, hb5⟩
                   have hb6 : Below wr.heap.size wr w5 := below_then ((Below.refl wr.heap.size wr).alloc (Nat.le_refl _) (Obj.cells #[Value.slice none 0 0, Value.slice none 0 0] 26)).drew hb5
                   have j5 := (hb6.block D (Array.getElem?_eq_some_iff.1 HBD'.out).1).trans HBD'.out
                   obtain ⟨⟨y0, y1⟩, _⟩ := pair_cells j5
                   have y2 : w5.cell? (ad.add j) = some (.slice Aw nw cw) := (hb6.cell (p := ad.add j) (by rw [block_of_add]; exact Nat.lt_of_lt_of_le hadS HB.out.size)).trans hcj
                   have jx := (hb5.block wr.heap.size (by simp)).trans (heap_alloc_new wr (Obj.cells #[Value.slice none 0 0, Value.slice none 0 0] 26))
                   obtain ⟨⟨z0, z1⟩, hz⟩ := pair_cells jx
                   have f0 := hz 0
                   have f1 := hz 1
                   have REL := Lib.hid (newBox_before hd5 hb6 jx (Nat.le_refl _))
                   have hDX : D ≠ wr.heap.size := by have := (Array.getElem?_eq_some_iff.1 HBD'.out).1; omega
                   have hjX : (ad.add j).block ≠ wr.heap.size := by rw [block_of_add]; have := HB.out.size; omega
                   have p0 := two_sets (.slice A5 n5 c5) (.slice A6 n6 c6) (p := ⟨D, 0, none⟩) hDX y0
                   have p1 := two_sets (.slice A5 n5 c5) (.slice A6 n6 c6) (p := ⟨D, 1, none⟩) hDX y1
                   have p2 := two_sets (.slice A5 n5 c5) (.slice A6 n6 c6) hjX y2
                   clear hb5 hb6 hd5 j5 jx hz hDX hjX))
            all_goals
              go_wp2
              go_meet
              case rel => exact REL.out
          obtain ⟨X, A5, n5, c5, A6, n6, c6, rfl, rfl, hX, hd5, hb5⟩ := hcut
          have jD := (hb5.block D (Array.getElem?_eq_some_iff.1 HBD'.out).1).trans HBD'.out
          obtain ⟨⟨y0, y1⟩, hyf⟩ := pair_cells jD
          have f0 := hyf 0
          have f1 := hyf 1
          obtain ⟨⟨x0, x1⟩, _⟩ := pair_cells hX
          have h2D := one_put (i := 1) (u := .slice A6 n6 c6) (one_put (i := 0) (u := .slice A5 n5 c5) jD)
          have h2K := hd5.setDisk (u' := .slice A5 n5 c5) (v' := .slice A6 n6 c6) jD (fun _ _ e => by cases e) (fun _ _ e => by cases e)
          have h2B : Below w.heap.size w ((wc.setCell ⟨D, 0, none⟩ (.slice A5 n5 c5)).setCell ⟨D, 1, none⟩ (.slice A6 n6 c6)) := ((HB.out.trans (hb5.mono HB.out.size)).setCell hDw _).setCell hDw _
          have H2D := Lib.hid h2D
          have H2K := Lib.hid h2K
          have H2B := Lib.hid h2B
          clear h2D h2K h2B hyf jD hX hd5 hb5 d0 d1 hcj
          go_upto_region 14 with (fail)
          clear y0 y1 f0 f1 x0 x1
          generalize (wc.setCell ⟨D, 0, none⟩ (.slice A5 n5 c5)).setCell ⟨D, 1, none⟩ (.slice A6 n6 c6) = W3 at *
          obtain ⟨⟨y0, y1⟩, hyf⟩ := pair_cells H2D.out
          have f0 := hyf 0
          have f1 := hyf 1
          have hlen6 : vs.length + (us ++ [(⟨(j : Int) + 1, ps, j, false⟩ : Ver)]).length = j + 1 := by have := HLEN.out; simp; omega
          have hvs6 : vs ++ (us ++ [(⟨(j : Int) + 1, ps, j, false⟩ : Ver)]) = (versL wks).take (j + 1) := by rw [versL_next HPS.out, ← HVS.out, List.append_assoc]
          generalize us ++ [(⟨(j : Int) + 1, ps, j, false⟩ : Ver)] = us6 at *
          have HL6 := Lib.hid hlen6
          have HV6 := Lib.hid hvs6
          clear hlen6 hvs6 hyf
          by_cases hkj : j + 1 = k
          · have hdk : ((j : Int) + 1 == (k : Int)) = true := by simp; omega
            have CS := Lib.hid (sync_disk W3 A5 A6 n5 c5 n6 c6 vs us6 H2K.out)
            go_wp2_with (fail)
            (with_reducible refine CS.out.mono ?_)
            rintro e w7 ⟨A7, n7, c7, A8, n8, c8, rfl, hd7, hb7⟩
            have hb8 : Below W3.heap.size W3 (w7.alloc (Obj.cells #[.slice A7 n7 c7, .slice A8 n8 c8] 26)) := hb7.alloc hb7.size _
            have hd8 := hd7.belowLt (alloc_lt (w := w7) (Obj.cells #[.slice A7 n7 c7, .slice A8 n8 c8] 26))
            have hY := heap_alloc_new w7 (Obj.cells #[.slice A7 n7 c7, .slice A8 n8 c8] 26)
            have jD8 := (hb8.block D (Array.getElem?_eq_some_iff.1 H2D.out).1).trans H2D.out
            have HB8 := Lib.hid hb8
            have HD8 := Lib.hid hd8
            have HY := Lib.hid hY
            have JD8 := Lib.hid jD8
            clear hb8 hd8 hY jD8 hb7 hd7 CS f0 f1 y0 y1
            go_upto_region 16 with (fail)
            obtain ⟨Y, hYe⟩ : ∃ Y, Y = w7.heap.size := ⟨_, rfl⟩
            rw [← hYe] at HY ⊢
            clear hYe
            generalize w7.alloc (Obj.cells #[.slice A7 n7 c7, .slice A8 n8 c8] 26) = W8 at *
            obtain ⟨⟨y0, y1⟩, _⟩ := pair_cells HY.out
            obtain ⟨⟨x0, x1⟩, hxf⟩ := pair_cells JD8.out
            have f0 := hxf 0
            have f1 := hxf 1
            have h9D := one_put (i := 1) (u := .slice A8 n8 c8) (one_put (i := 0) (u := .slice A7 n7 c7) JD8.out)
            have h9K := HD8.out.setDisk (u' := .slice A7 n7 c7) (v' := .slice A8 n8 c8) JD8.out (fun _ _ e => by cases e) (fun _ _ e => by cases e)
            have h9B : Below w.heap.size w ((W8.setCell ⟨D, 0, none⟩ (.slice A7 n7 c7)).setCell ⟨D, 1, none⟩ (.slice A8 n8 c8)) := ((H2B.out.trans (HB8.out.mono H2B.out.size)).setCell hDw _).setCell hDw _
            have H9D := Lib.hid h9D
            have H9K := Lib.hid h9K
            have H9B := Lib.hid h9B
            clear h9D h9K h9B hxf
            go_wp2_with (fail)
            go_roundw
            case rel => exact ⟨j + 1, A7, n7, c7, A8, n8, c8, vs ++ us6, [], by omega, by go_num, H9D.out, H9K.out, by rw [List.append_nil]; exact HV6.out, fun h => by rw [List.length_append, HL6.out]; exact h, H9B.out⟩
            case measure => simp [intOf]; omega
          · have hdk : ((j : Int) + 1 == (k : Int)) = false := by simp; omega
            go_wp2_with (fail)
            go_roundw
            case rel => exact ⟨j + 1, A5, n5, c5, A6, n6, c6, vs, us6, by omega, by go_num, H2D.out, H2K.out, HV6.out, fun h => HKV.out (by omega), H2B.out⟩
            case measure => simp [intOf]; omega
        · have CA : Hid (∀ W, Below wr.heap.size wr W → Calls Tryz.prog 5 #[.agg #[.slice A n c, .slice A' n' c'], .agg #[.int .i64 ((j : Int) + 1), .slice Aw nw cw, .int .i64 j, .bool false]] W (RetArg W)) := Lib.hid fun W hW =>
            append_arg W A A' Aw n c n' c' nw cw vs us ((j : Int) + 1) j (hDk.belowLt hW) ⟨by omega, by omega⟩ ⟨hj0, by omega⟩ (by omega)
          have HBD' := Lib.hid hbD
          have HB := Lib.hid hb
          have HVS := Lib.hid hvs
          have HKV := Lib.hid hkv
          have HPS := Lib.hid hps
          have HLEN := Lib.hid hlen
          clear hbD hb hvs hkv hps hlen hDk hPr hPw hcw
          go_upto_region 10 with (fail)
          go_cut [12, 13] (fun _ v13 wx => v13 = .int .i64 1 ∧ Below w.heap.size w wx)
          case first =>
            go_region_held3 (fun w' => w'.cell? ⟨D, 0, none⟩ = some (.slice A n c) ∧ w'.cell? ⟨D, 1, none⟩ = some (.slice A' n' c') ∧ w'.cell? (ad.add j) = some (.slice Aw nw cw)) (first | (exact ⟨d0, d1, hcj⟩) | (exact ⟨y0, y1, y2⟩) | (exact ⟨p0, p1, p2⟩) | go_keep)
              (first
                | (go_at_call 5
                   (with_reducible refine (CA.out _ ((Below.refl wr.heap.size wr).drew)).mono ?_)
                   rintro e w5 ⟨rfl, hb5⟩
                   have hb6 : Below wr.heap.size wr w5 := below_then (Below.refl wr.heap.size wr).drew hb5
                   have j5 := (hb6.block D (Array.getElem?_eq_some_iff.1 HBD'.out).1).trans HBD'.out
                   obtain ⟨⟨y0, y1⟩, _⟩ := pair_cells j5
                   have y2 : w5.cell? (ad.add j) = some (.slice Aw nw cw) := (hb6.cell (p := ad.add j) (by rw [block_of_add]; exact Nat.lt_of_lt_of_le hadS HB.out.size)).trans hcj
                   have REL : Hid (Below w.heap.size w (w5.alloc (Obj.cells #[Value.slice none 0 0, Value.slice none 0 0] 26))) := Lib.hid (HB.out.trans ((hb6.alloc hb6.size _).mono HB.out.size))
                   clear hb5 hb6 j5)
                | (go_at_call 5
                   (with_reducible refine (CA.out _ (((Below.refl wr.heap.size wr).alloc (Nat.le_refl _) (Obj.cells #[Value.slice none 0 0, Value.slice none 0 0] 26)).drew)).mono ?_)
                   rintro e w5 ⟨rfl, hb5⟩
                   have hb6 : Below wr.heap.size wr w5 := below_then ((Below.refl wr.heap.size wr).alloc (Nat.le_refl _) (Obj.cells #[Value.slice none 0 0, Value.slice none 0 0] 26)).drew hb5
                   have j5 := (hb6.block D (Array.getElem?_eq_some_iff.1 HBD'.out).1).trans HBD'.out
                   obtain ⟨⟨y0, y1⟩, _⟩ := pair_cells j5
                   have y2 : w5.cell? (ad.add j) = some (.slice Aw nw cw) := (hb6.cell (p := ad.add j) (by rw [block_of_add]; exact Nat.lt_of_lt_of_le hadS HB.out.size)).trans hcj
                   have jx := (hb5.block wr.heap.size (by simp)).trans (heap_alloc_new wr (Obj.cells #[Value.slice none 0 0, Value.slice none 0 0] 26))
                   obtain ⟨⟨z0, z1⟩, hz⟩ := pair_cells jx
                   have f0 := hz 0
                   have f1 := hz 1
                   have REL : Hid (Below w.heap.size w ((w5.setCell ⟨wr.heap.size, 0, none⟩ (.slice none 0 0)).setCell ⟨wr.heap.size, 1, none⟩ (.slice none 0 0))) := Lib.hid (((HB.out.trans (hb6.mono HB.out.size)).setCell HB.out.size _).setCell HB.out.size _)
                   have hDX : D ≠ wr.heap.size := by have := (Array.getElem?_eq_some_iff.1 HBD'.out).1; omega
                   have hjX : (ad.add j).block ≠ wr.heap.size := by rw [block_of_add]; have := HB.out.size; omega
                   have p0 := two_sets (.slice none 0 0) (.slice none 0 0) (p := ⟨D, 0, none⟩) hDX y0
                   have p1 := two_sets (.slice none 0 0) (.slice none 0 0) (p := ⟨D, 1, none⟩) hDX y1
                   have p2 := two_sets (.slice none 0 0) (.slice none 0 0) hjX y2
                   clear hb5 hb6 j5 jx hz hDX hjX))
            all_goals
              go_wp2
              go_meet
              case rel => exact ⟨rfl, REL.out⟩
          obtain ⟨rfl, hbf⟩ := hcut
          have HBF := Lib.hid hbf
          clear hbf d0 d1 hcj
          go_wp2_with (fail)
          go_ret
          exact ⟨rfl, HBF.out⟩
      · obtain rfl : nl = j := by omega
        have hvs' : vs ++ us = versL wks := by rw [hvs, List.take_of_length_le (by rw [versL_len]; have := HLL.out; omega)]
        have CC := Lib.hid (crash_disk wr A A' n c n' c' K vs us hDk (by omega))
        have HBD' := Lib.hid hbD
        have HB := Lib.hid hb
        have HVS := Lib.hid hvs'
        have HKV := Lib.hid (hkv hkn)
        clear hbD hb hvs hvs' hkv hDk hdf
        go_wp2_with (fail)
        (with_reducible refine CC.out.mono ?_)
        rintro e w5 ⟨q, hq, A5, n5, c5, A6, n6, c6, rfl, hd5, hb5⟩
        obtain ⟨m, hm, hV⟩ : ∃ m, m = vs.length + q ∧ vs ++ us.take q = (versL wks).take m := ⟨vs.length + q, rfl, by
          rw [← HVS.out, List.take_append, List.take_of_length_le (l := vs) (by omega), Nat.add_sub_cancel_left]⟩
        have hmn : m ≤ nl := by
          have h1 := congrArg List.length HVS.out
          rw [List.length_append, versL_len] at h1
          have := HLL.out
          omega
        have hkm : k ≤ m := by have := HKV.out; omega
        rw [hV] at hd5
        have hVl : ((versL wks).take m).length = m := by rw [List.length_take, versL_len]; have := HLL.out; omega
        have hb8 : Below wr.heap.size wr (w5.alloc (Obj.cells #[.slice A5 n5 c5, .slice A6 n6 c6] 26)) := hb5.alloc hb5.size _
        have hd8 := hd5.belowLt (alloc_lt (w := w5) (Obj.cells #[.slice A5 n5 c5, .slice A6 n6 c6] 26))
        have hY := heap_alloc_new w5 (Obj.cells #[.slice A5 n5 c5, .slice A6 n6 c6] 26)
        have HB8 := Lib.hid (HB.out.trans (hb8.mono HB.out.size))
        have HD8 := Lib.hid hd8
        have HY := Lib.hid hY
        have HVL := Lib.hid hVl
        clear hb8 hd8 hY hb5 hd5 CC d0 d1 hV hq hVl hm
        go_upto_region 20 with (fail)
        obtain ⟨Y, hYe⟩ : ∃ Y, Y = w5.heap.size := ⟨_, rfl⟩
        rw [← hYe] at HY ⊢
        clear hYe
        generalize w5.alloc (Obj.cells #[.slice A5 n5 c5, .slice A6 n6 c6] 26) = W8 at *
        obtain ⟨⟨y0, y1⟩, _⟩ := pair_cells HY.out
        have CR := Lib.hid (read_disk W8 A5 A6 n5 c5 n6 c6 _ _ HD8.out)
        rw [show RetRead W8 ((versL wks).take m) [] = fun e w' => ∃ A c A' c', e = .returned (.tuple #[.slice A m c, .slice A' 0 c', .int .i64 0]) ∧ OwnV w' W8.heap.size (.slice A m c) ((versL wks).take m) ∧ OwnV w' W8.heap.size (.slice A' 0 c') [] ∧ Below W8.heap.size W8 w' by unfold RetRead; rw [HVL.out]; rfl] at CR
        go_wp2_with (fail)
        (with_reducible refine CR.out.mono ?_)
        rintro e w9 ⟨Av, cv, Ao, co, rfl, hov, _, hb9⟩
        have HV := Lib.hid (VersOf.of_own hov)
        have HB9 := Lib.hid (HB8.out.trans (hb9.mono HB8.out.size))
        have capv := HV.out.cap
        have maxv := HV.out.max
        unfold maxLen at maxv
        have hdl1 : decide ((m : Int) < (k : Int)) = false := by simp; omega
        have hdl2 : decide ((nl : Int) < (m : Int)) = false := by simp; omega
        have hdl3 : decide (m < k) = false := by simp; omega
        have hdl4 : decide (nl < m) = false := by simp; omega
        clear hov hb9 CR y0 y1
        go_wp2_with (fail)
        have HOK : Hid (OkV 0 ((versL wks).take m)) := Lib.hid (okV_of HD8.out.ok1)
        clear hdl1 hdl2 hdl3 hdl4
        go_loopw [21] (fun i wr => ∃ j : Nat, j ≤ m ∧ i = .int .i64 j ∧ Below w9.heap.size w9 wr) (fun i _ => m - (intOf i).toNat)
        case atStart => exact ⟨0, Nat.zero_le _, rfl, Below.refl _ _⟩
        case round =>
          obtain ⟨j, hj, rfl, hb⟩ := hrel
          by_cases hlt : j < m
          · obtain ⟨ps, hps⟩ : ∃ p, wks[j]? = some p := ⟨_, List.getElem?_eq_getElem (by have := HLL.out; omega)⟩
            obtain ⟨ad, Aw, nw, cw, rfl, hadS, hcw, hPw⟩ := HL.out.at_ hps
            have hbw := HB9.out.trans (hb.mono HB9.out.size)
            have hVj := versL_take_at hps hlt
            obtain ⟨av, A', n', c', rfl, hadV, hc1, hc2, hc3, hc4, hPv⟩ := (HV.out.belowLt hb).at_ hVj
            dsimp only at hc1 hc2 hc3 hc4 hPv
            have hcj := (hbw.cell (p := ad.add j) (by rw [block_of_add]; exact hadS)).trans hcw
            have h64 := (HOK.out j _ hVj).2.2.2
            dsimp only at h64
            have CSm : Hid (∀ W, Below wr.heap.size wr W → Calls Tryz.prog 9 #[.agg #[.slice A' n' c'], .agg #[.slice Aw nw cw]] W (RetBoolBelow W true)) := Lib.hid fun W hW => by
              have := same_any W n' c' nw cw A' Aw ps ps (hPv.belowLt hW) (hPw.belowLt (hbw.trans (hW.mono hbw.size))) (by have := hPv.len; omega) (by have := hPw.len; omega)
              rwa [decide_eq_true rfl] at this
            have hji : (j : Int) < (nl : Int) := by omega
            have hjm : (j : Int) < (m : Int) := by omega
            have hjn : j < nl := by omega
            have hj0 : (0 : Int) ≤ (j : Int) := by omega
            have hjw : IntKind.i64.wrap ((j : Int) + 1) = (j : Int) + 1 := IntWalk.i64_in _ (by omega)
            have HB := Lib.hid hb
            have HAD := Lib.hid (And.intro hadV (Nat.lt_of_lt_of_le hadS hbw.size))
            clear hb hps hadS hadV hcw hPw hPv hVj h64 hbw
            go_upto_region 26 with (fail)
            go_region_held3 (fun w' => w'.cell? (av.add (j * 4)) = some (.int .i64 ((j : Int) + 1)) ∧ w'.cell? ⟨(av.add (j * 4)).block, (av.add (j * 4)).off + 1, none⟩ = some (.slice A' n' c') ∧ w'.cell? ⟨(av.add (j * 4)).block, (av.add (j * 4)).off + 2, none⟩ = some (.int .i64 j) ∧ w'.cell? ⟨(av.add (j * 4)).block, (av.add (j * 4)).off + 3, none⟩ = some (.bool false) ∧ w'.cell? (ad.add j) = some (.slice Aw nw cw))
              (first | (exact ⟨hc1, hc2, hc3, hc4, hcj⟩) | (exact ⟨y1, y2, y3, y4, yj⟩) | go_keep)
              (first
                | (go_at_call 9
                   (with_reducible refine (CSm.out _ ((Below.refl wr.heap.size wr).drew)).mono ?_)
                   rintro e w5 ⟨rfl, hb5⟩
                   have hb6 : Below wr.heap.size wr w5 := below_then (Below.refl wr.heap.size wr).drew hb5
                   have y1 := (hb6.cell (p := av.add (j * 4)) (by rw [block_of_add]; exact HAD.out.1)).trans hc1
                   have y2 := (hb6.cell (p := ⟨(av.add (j * 4)).block, (av.add (j * 4)).off + 1, none⟩) (by show (av.add (j * 4)).block < _; rw [block_of_add]; exact HAD.out.1)).trans hc2
                   have y3 := (hb6.cell (p := ⟨(av.add (j * 4)).block, (av.add (j * 4)).off + 2, none⟩) (by show (av.add (j * 4)).block < _; rw [block_of_add]; exact HAD.out.1)).trans hc3
                   have y4 := (hb6.cell (p := ⟨(av.add (j * 4)).block, (av.add (j * 4)).off + 3, none⟩) (by show (av.add (j * 4)).block < _; rw [block_of_add]; exact HAD.out.1)).trans hc4
                   have yj := (hb6.cell (p := ad.add j) (by rw [block_of_add]; exact HAD.out.2)).trans hcj
                   have HB6 := Lib.hid hb6
                   clear hb5 hb6))
            all_goals
              go_wp2_with (fail)
              go_roundw
              case rel => exact ⟨j + 1, by omega, by go_num, HB.out.trans (HB6.out.mono HB.out.size)⟩
              case measure => simp [intOf]; omega
          · obtain rfl : m = j := by omega
            have HBW := Lib.hid (HB9.out.trans (hb.mono HB9.out.size))
            have HVR := Lib.hid (HV.out.belowLt hb)
            obtain ⟨sno, hsno⟩ : ∃ s, s = rh % (m + 1) := ⟨_, rfl⟩
            have hsm : sno ≤ m := by rw [hsno]; have := Nat.mod_lt rh (show 0 < m + 1 by omega); omega
            have hsI : (rh : Int) % ((m : Int) + 1) = (sno : Int) := by rw [hsno]; simp
            clear hb hsno
            go_upto_if 173 with (fail)
            rw [hsI]
            have hal : Below wr.heap.size wr (wr.alloc (Obj.cells #[.int .i64 sno, .slice none 0 0] 42)) := alloc_lt _
            have hbC := heap_alloc_new wr (Obj.cells #[.int .i64 sno, .slice none 0 0] 42)
            obtain ⟨Cb, hCb⟩ : ∃ C, C = wr.heap.size := ⟨_, rfl⟩
            rw [← hCb] at hbC ⊢
            have HVC := Lib.hid (HVR.out.belowLt hal)
            have HBC := Lib.hid (HBW.out.trans (hal.mono HBW.out.size))
            have hCw : w.heap.size ≤ Cb := by rw [hCb]; exact HBW.out.size
            have HALr := Lib.hid hal
            have hCr : wr.heap.size ≤ Cb := by rw [hCb]; exact Nat.le_refl _
            clear hal hsI hrh hCb
            generalize wr.alloc (Obj.cells #[.int .i64 sno, .slice none 0 0] 42) = WC at *
            have HbC := Lib.hid hbC
            clear hbC
            go_cut [22] (fun v22 wx => AtClient w Cb sno m cv Av ((versL wks).take m) v22 wx)
            case first =>
              obtain ⟨⟨c0, c1⟩, hcf⟩ := pair_cells HbC.out
              have f1 := hcf 1
              by_cases hs0 : sno = 0
              · subst hs0
                have REL : Hid (AtClient w Cb 0 m cv Av ((versL wks).take m) (.pointer (some ⟨Cb, 0, none⟩)) WC) :=
                  Lib.hid ⟨rfl, none, 0, 0, [], HbC.out, Arr.nil_, fun _ => rfl, fun p h => by omega, HVC.out, HBC.out⟩
                have c0' : WC.cell? ⟨Cb, 0, none⟩ = some (.int .i64 0) := c0
                clear hcf c0 hsm hCw hCr
                clear hkm hmn hn8 hkn hkeep hrh2 hrs2 cap1 max1 capv maxv hDw
                go_wp2_with (fail)
                go_meet
                case rel => exact REL.out
              · obtain ⟨p, rfl⟩ : ∃ p, sno = p + 1 := ⟨sno - 1, by omega⟩
                obtain ⟨ps, hps⟩ : ∃ x, wks[p]? = some x := ⟨_, List.getElem?_eq_getElem (by have := HLL.out; omega)⟩
                have hVj := versL_take_at hps (show p < m by omega)
                obtain ⟨av, A', n', c', rfl, hadV, hc1, hc2, hc3, hc4, hPv⟩ := HVC.out.at_ hVj
                dsimp only at hc1 hc2 hc3 hc4 hPv
                obtain ⟨av', A9, n9, c9, ea, hadV', hd1, hd2, hd3, hd4, hPr⟩ := HVR.out.at_ hVj
                injection ea with ea
                subst ea
                have e2 := (HALr.out.cell (p := ⟨(av.add (p * 4)).block, (av.add (p * 4)).off + 1, none⟩) (by show (av.add (p * 4)).block < _; rw [block_of_add]; exact hadV')).trans hd2
                rw [hc2] at e2
                injection e2 with e2
                injection e2 with e2 e3 e4
                subst e2 e3 e4
                dsimp only at hPr
                have hb9 : Below wr.heap.size wr (WC.setCell ⟨Cb, 1, none⟩ (.slice A' n' c')) := HALr.out.setCell hCr _
                have h9 := one_put (i := 1) (u := .slice A' n' c') HbC.out
                have REL : Hid (AtClient w Cb (p + 1) m cv (some av) ((versL wks).take m) (.pointer (some ⟨Cb, 0, none⟩)) (WC.setCell ⟨Cb, 1, none⟩ (.slice A' n' c'))) :=
                  Lib.hid ⟨rfl, A', n', c', ps, h9, hPr.belowLt hb9, fun h => by omega, fun q hq => by
                    obtain rfl : p = q := by omega
                    exact ⟨_, hVj, rfl⟩, HVR.out.belowLt hb9, HBW.out.trans (hb9.mono HBW.out.size)⟩
                have hpm : p < m := by omega
                have hpm1 : (p : Int) < (m : Int) := by omega
                have hp0 : (0 : Int) ≤ (p : Int) := by omega
                have hp1 : decide ((0 : Int) < (p : Int) + 1) = true := by simpa using (by omega : (0 : Int) < (p : Int) + 1)
                have hpw : IntKind.i64.wrap ((p : Int) + 1 - 1) = (p : Int) := by rw [show (p : Int) + 1 - 1 = p by omega]; exact IntWalk.i64_in _ (by omega)
                have hpw2 : IntKind.i64.wrap (p : Int) = (p : Int) := IntWalk.i64_in _ (by omega)
                have c0' : WC.cell? ⟨Cb, 0, none⟩ = some (.int .i64 ((p : Int) + 1)) := c0
                clear c0 hsm hCw hCr
                clear hkm hmn hn8 hkn hkeep hrh2 hrs2 cap1 max1 capv maxv hDw
                clear hcf hs0 hps hVj hc1 hc3 hc4 hPv hd1 hd2 hd3 hd4 hPr hb9 h9
                go_wp2_with (fail)
                go_meet
                case rel => exact REL.out
            obtain ⟨rfl, Ac, nc, cc, cps, hbC, hCP, hC0, hC1, hVx, hbx⟩ := hcut
            have CK := Lib.hid (check_any wc m cv Av _ hVx (by omega) HOK.out)
            have hVl : ((versL wks).take m).length = m := HVL.out
            have hVat : ∀ i, i < m → ∃ ps : List Pl, ((versL wks).take m)[i]? = some ⟨(i : Int) + 1, ps, i, false⟩ := fun i hi => by
              obtain ⟨x, hx⟩ : ∃ x, wks[i]? = some x := ⟨_, List.getElem?_eq_getElem (by have := HLL.out; omega)⟩
              exact ⟨x, versL_take_at hx hi⟩
            have hm64 : m ≤ 64 := by omega
            generalize (versL wks).take m = V at *
            have HAT := Lib.hid hVat
            have HVX := Lib.hid hVx
            have HBX := Lib.hid hbx
            have HbX := Lib.hid hbC
            have HCP := Lib.hid hCP
            have HC0 := Lib.hid hC0
            have HC1 := Lib.hid hC1
            have HSM := Lib.hid hsm
            have HM64 := Lib.hid hm64
            clear hVat hVl hVx hbx hbC hCP hC0 hC1 hsm hm64 hkm hmn hn8 hkn hkeep hrh2 hrs2 cap1 max1 hDw hCw hCr
            cases hch : chk V
            · rw [hch, if_neg (by decide)] at CK
              clear hch
              go_wp2_with (fail)
              (with_reducible refine CK.out.mono ?_)
              rintro e w10 ⟨rfl, hb10⟩
              have HB10 := Lib.hid (HBX.out.trans (hb10.mono HBX.out.size))
              clear hb10 CK
              go_wp2_with (fail)
              go_ret
              exact ⟨rfl, HB10.out⟩
            · rw [hch, if_pos rfl] at CK
              go_wp2_with (fail)
              (with_reducible refine CK.out.mono ?_)
              rintro e w10 ⟨rfl, hb10⟩
              have HB10 := Lib.hid (HBX.out.trans (hb10.mono HBX.out.size))
              have jC := (hb10.block Cb (Array.getElem?_eq_some_iff.1 HbX.out).1).trans HbX.out
              obtain ⟨⟨c0, c1⟩, _⟩ := pair_cells jC
              have CW := Lib.hid (wish_any w10 sno nc cc Ac)
              have HV10 := Lib.hid (HVX.out.belowLt hb10)
              have HC10 := Lib.hid (HCP.out.belowLt hb10)
              have HJC := Lib.hid jC
              have HCH := Lib.hid hch
              clear hb10 CK jC hch
              go_wp2_with (fail)
              (with_reducible refine CW.out.mono ?_)
              rintro e w11 ⟨rfl, hb11⟩
              have HV11 := Lib.hid (HV10.out.belowLt hb11)
              have HC11 := Lib.hid (HC10.out.belowLt hb11)
              have HB11 := Lib.hid (HB10.out.trans (hb11.mono HB10.out.size))
              have HJ11 := Lib.hid ((hb11.block Cb (Array.getElem?_eq_some_iff.1 HJC.out).1).trans HJC.out)
              clear hb11 CW c0 c1
              dsimp only [msgV]
              have hf46 := field46 w11 3 0 0 sno (.slice none 0 0) (.slice none 0 0)
              by_cases hsm : sno = m
              · subst hsm
                have CO := Lib.hid (reply_old w11 sno cv Av V HV11.out HM64.out HOK.out HCH.out)
                go_wp2_with (fail)
                (with_reducible refine CO.out.mono ?_)
                rintro e w12 ⟨rfl, hb12⟩
                dsimp only [msgV]
                have hw13 := hb12.alloc hb12.size (Obj.cells (msgV 0 0 0 0 (.slice none 0 0) (.slice none 0 0)) 46)
                have hj := (hw13.block Cb (Array.getElem?_eq_some_iff.1 HJ11.out).1).trans HJ11.out
                obtain ⟨⟨c0, c1⟩, _⟩ := pair_cells hj
                have HB13 := Lib.hid (HB11.out.trans (hw13.mono HB11.out.size))
                clear hf46 hb12 hw13 hj CO
                go_wp2_with (fail)
                go_ret
                exact ⟨rfl, HB13.out⟩
              · have hlt2 : sno < m := by have := HSM.out; omega
                obtain ⟨m', rfl⟩ : ∃ m', m = m' + 1 := ⟨m - 1, by omega⟩
                obtain ⟨psl, hvl⟩ := HAT.out m' (by omega)
                have CG := Lib.hid (reply_good w11 m' cv sno nc cc Av Ac V _ cps HV11.out HM64.out HOK.out HCH.out hvl (by omega) HC11.out HC0.out HC1.out)
                have HVL' := Lib.hid hvl
                have HLT2 := Lib.hid hlt2
                clear hvl hlt2 hsm
                go_wp2_with (fail)
                (with_reducible refine CG.out.mono ?_)
                rintro e w12 ⟨kd, fr, Aw, nw, cw, Am, nm, cm, rfl, T1, T2, hb12⟩
                dsimp only [msgV] at T1 T2 ⊢
                have HV12 := Lib.hid (HV11.out.belowLt hb12)
                have hw13 := hb12.alloc hb12.size (Obj.cells #[.int .i64 kd, .int .i64 0, .int .i64 fr, .int .i64 ((m' : Int) + 1), .slice Aw nw cw, .slice Am nm cm] 46)
                have hj := (hw13.block Cb (Array.getElem?_eq_some_iff.1 HJ11.out).1).trans HJ11.out
                have hG := heap_alloc_new w12 (Obj.cells #[.int .i64 kd, .int .i64 0, .int .i64 fr, .int .i64 ((m' : Int) + 1), .slice Aw nw cw, .slice Am nm cm] 46)
                have hal13 : Below w12.heap.size w12 (w12.alloc (Obj.cells #[.int .i64 kd, .int .i64 0, .int .i64 fr, .int .i64 ((m' : Int) + 1), .slice Aw nw cw, .slice Am nm cm] 46)) := alloc_lt _
                have HB13 := Lib.hid (HB11.out.trans (hw13.mono HB11.out.size))
                have HV13 := Lib.hid (HV12.out.belowLt hal13)
                have CT1 := Lib.hid (T1 _ hal13)
                have HT2 := Lib.hid T2
                have HAL13 := Lib.hid hal13
                have HJ13 := Lib.hid hj
                have HG := Lib.hid hG
                have hne : ((sno : Int) == (m' : Int) + 1) = false := by have := HLT2.out; simp; omega
                clear hf46 hb12 hw13 hj hG CG T1 T2 hal13
                go_upto_region 34 with (fail)
                obtain ⟨G, hGe⟩ : ∃ G, G = w12.heap.size := ⟨_, rfl⟩
                rw [← hGe] at HG ⊢
                clear hGe
                generalize w12.alloc (Obj.cells #[.int .i64 kd, .int .i64 0, .int .i64 fr, .int .i64 ((m' : Int) + 1), .slice Aw nw cw, .slice Am nm cm] 46) = W13 at *
                obtain ⟨⟨c0, c1⟩, _⟩ := pair_cells HJ13.out
                obtain ⟨⟨z0, z1, z2, z3, z4, z5⟩, _⟩ := six_cells HG.out
                go_wp2_with (fail)
                (with_reducible refine CT1.out.mono ?_)
                rintro e w14 ⟨Ay, ny, cy, rfl, hay, hb14⟩
                dsimp only at hay ⊢
                have hw15 := hb14.alloc hb14.size (Obj.cells #[.int .i64 ((m' : Int) + 1), .slice Ay ny cy] 42)
                have hjG := (hw15.block G (Array.getElem?_eq_some_iff.1 HG.out).1).trans HG.out
                have hY := heap_alloc_new w14 (Obj.cells #[.int .i64 ((m' : Int) + 1), .slice Ay ny cy] 42)
                have hay15 := hay.belowLt (alloc_lt (w := w14) (Obj.cells #[.int .i64 ((m' : Int) + 1), .slice Ay ny cy] 42))
                have CT2 := Lib.hid (HT2.out _ Ay ny cy hay15 (HAL13.out.trans (hw15.mono HAL13.out.size)))
                have HB15 := Lib.hid (HB13.out.trans (hw15.mono HB13.out.size))
                have HV15 := Lib.hid (HV13.out.belowLt hw15)
                have HAY := Lib.hid hay15
                have HJG := Lib.hid hjG
                have HY := Lib.hid hY
                clear hay hb14 hw15 hjG hY hay15 CT1 c0 c1 z0 z1 z2 z3 z4 z5
                go_upto_region 37 with (fail)
                obtain ⟨Yb, hYe⟩ : ∃ Y, Y = w14.heap.size := ⟨_, rfl⟩
                rw [← hYe] at HY ⊢
                clear hYe
                generalize w14.alloc (Obj.cells #[.int .i64 ((m' : Int) + 1), .slice Ay ny cy] 42) = W15 at *
                obtain ⟨⟨c0, c1⟩, _⟩ := pair_cells HY.out
                obtain ⟨⟨z0, z1, z2, z3, z4, z5⟩, _⟩ := six_cells HJG.out
                go_wp2_with (fail)
                (with_reducible refine CT2.out.mono ?_)
                rintro e w16 ⟨rfl, hb16⟩
                have hw17 := hb16.alloc hb16.size (Obj.cells #[.int .i64 0, .slice none 0 0] 42)
                have hjY := (hw17.block Yb (Array.getElem?_eq_some_iff.1 HY.out).1).trans HY.out
                obtain ⟨av, A', n', c', rfl, hadV, _, hc2, _, _, hPv⟩ := (HV15.out.belowLt hw17).at_ HVL'.out
                dsimp only at hc2 hPv
                have hay17 := HAY.out.belowLt hw17
                have HB17 := Lib.hid (HB15.out.trans (hw17.mono HB15.out.size))
                have hwl := (HOK.out m' _ HVL'.out).2.2.2
                dsimp only at hwl
                have HJY := Lib.hid hjY
                have HADV := Lib.hid hadV
                have hyl := hay17.len
                have hpl := hPv.len
                have CS9 : Hid (∀ W, Below (w16.alloc (Obj.cells #[.int .i64 0, .slice none 0 0] 42)).heap.size (w16.alloc (Obj.cells #[.int .i64 0, .slice none 0 0] 42)) W → Calls Tryz.prog 9 #[.agg #[.slice Ay ny cy], .agg #[.slice A' n' c']] W (RetBoolBelow W true)) := Lib.hid fun W hW => by
                  have := same_any W ny cy n' c' Ay A' psl psl (hay17.belowLt hW) (hPv.belowLt hW) (by omega) (by omega)
                  rwa [decide_eq_true rfl] at this
                clear hb16 hw17 hadV hPv hay17 hjY CT2 c0 c1 z0 z1 z2 z3 z4 z5 hwl hyl hpl
                have hmw : IntKind.i64.wrap ((m' : Int) + 1 - 1) = (m' : Int) := by rw [show (m' : Int) + 1 - 1 = m' by omega]; exact IntWalk.i64_in _ (by have := HM64.out; omega)
                have hmw2 : IntKind.i64.wrap (m' : Int) = (m' : Int) := IntWalk.i64_in _ (by have := HM64.out; omega)
                have hm0 : (0 : Int) ≤ (m' : Int) := by omega
                have hm1 : (m' : Int) < (m' : Int) + 1 := by omega
                go_upto_region 38 with (fail)
                generalize w16.alloc (Obj.cells #[.int .i64 0, .slice none 0 0] 42) = W17 at *
                obtain ⟨⟨c0, c1⟩, _⟩ := pair_cells HJY.out
                go_region_held3 (fun w' => w'.cell? ⟨Yb, 0, none⟩ = some (.int .i64 ((m' : Int) + 1)) ∧ w'.cell? ⟨Yb, 1, none⟩ = some (.slice Ay ny cy) ∧ w'.cell? ⟨(av.add (m' * 4)).block, (av.add (m' * 4)).off + 1, none⟩ = some (.slice A' n' c'))
                  (first | (exact ⟨c0, c1, hc2⟩) | (exact ⟨y0, y1, y2⟩) | go_keep)
                  (first
                    | (go_at_call 9
                       (with_reducible refine (CS9.out _ ((Below.refl W17.heap.size W17).drew)).mono ?_)
                       rintro e w18 ⟨rfl, hb18⟩
                       have hb19 : Below W17.heap.size W17 w18 := below_then (Below.refl W17.heap.size W17).drew hb18
                       obtain ⟨⟨y0, y1⟩, _⟩ := pair_cells ((hb19.block Yb (Array.getElem?_eq_some_iff.1 HJY.out).1).trans HJY.out)
                       have y2 := (hb19.cell (p := ⟨(av.add (m' * 4)).block, (av.add (m' * 4)).off + 1, none⟩) (by show (av.add (m' * 4)).block < _; rw [block_of_add]; exact HADV.out)).trans hc2
                       have FIN := Lib.hid (HB17.out.trans (hb19.mono HB17.out.size))
                       clear hb18 hb19))
                go_wp2_with (fail)
                go_ret
                exact ⟨rfl, FIN.out⟩
end Go.Proofs.YtpncejdamjbnlaaGreatDoor
end
