/-
  total.Total: what it hands back.
-/
import Derived.Test.YtanbkdfffojpnaaCount
import Derived.Test.YtanbkdfffojpnaaApart
import Derived.Laws.EntriesVeiled
namespace Go.Proofs.Ytanbkdfffojpnaa
open Go.RowKit

/-- The ending of Total. -/
def RetTotal (w : World) (r : TotalOut) (e : Ending) (w' : World) : Prop :=
  ∃ A n c A' n' c', e = .returned (.tuple #[.slice A n c, .slice A' n' c', .int .i64 r.after, .int .i64 r.err]) ∧ w'.ownsRow w.heap.size 3 1 (.slice A n c) n (r.outs.map (Value.int .i64)) ∧ OwnRows w' w.heap.size (.slice A' n' c') r.cs ∧ Below w.heap.size w w'

/-- Three new blocks. -/
theorem below3 (w : World) (a b c : Obj) : Below w.heap.size w (((w.alloc a).alloc b).alloc c) := (((Below.refl _ _).alloc (Nat.le_refl _) _).alloc (by simp) _).alloc (by simp; omega) _
theorem ret_empty {w w' : World} {after err : Int} (h : Below w.heap.size w w') : RetTotal w ⟨[], [], after, err⟩ (.returned (.tuple #[.slice none 0 0, .slice none 0 0, .int .i64 after, .int .i64 err])) w' :=
  ⟨none, 0, 0, none, 0, 0, rfl, World.ownsRow_nil _ _ _ _, OwnRows.nil_ _ _, h⟩

set_option maxHeartbeats 1000000 in
theorem total_arg (w : World) (n c : Nat) (A : Option Addr) (xs : List Int) (most next : Int) (hn : n = xs.length) (hn6 : n ≤ 64) (h : next < 1 ∨ 65537 < next ∨ most < 0 ∨ 1099511627776 < most ∨ 4096 < xs.length) :
    Calls Try.prog 26 #[.slice A n c, .int .i64 most, .int .i64 next] w (RetTotal w (totalR xs most next)) := by
  rw [totalR_arg h]
  by_cases h1 : next < 1
  · clear h hn
    go_enter Try.func26, Try.ntmps26
    go_wp2
    exact bodyPost_ret (v := .tuple #[.slice none 0 0, .slice none 0 0, .int .i64 0, .int .i64 1]) (by simp [results, Try.results26, go_sem]) rfl (ret_empty (below3 _ _ _ _))
  by_cases h2 : 65537 < next
  · clear h hn
    go_enter Try.func26, Try.ntmps26
    go_wp2
    exact bodyPost_ret (v := .tuple #[.slice none 0 0, .slice none 0 0, .int .i64 0, .int .i64 1]) (by simp [results, Try.results26, go_sem]) rfl (ret_empty (below3 _ _ _ _))
  by_cases h3 : most < 0
  · clear h hn
    go_enter Try.func26, Try.ntmps26
    go_wp2
    exact bodyPost_ret (v := .tuple #[.slice none 0 0, .slice none 0 0, .int .i64 0, .int .i64 1]) (by simp [results, Try.results26, go_sem]) rfl (ret_empty (below3 _ _ _ _))
  have h4 : 1099511627776 < most := by omega
  clear h hn
  go_enter Try.func26, Try.ntmps26
  go_wp2
  exact bodyPost_ret (v := .tuple #[.slice none 0 0, .slice none 0 0, .int .i64 0, .int .i64 1]) (by simp [results, Try.results26, go_sem]) rfl (ret_empty (below3 _ _ _ _))

/-- The world in which 'apart' is called. -/
abbrev w3 (w : World) (most next : Int) : World := ((w.alloc (.cells #[.int .i64 most] 3)).alloc (.cells #[.int .i64 next] 3)).alloc (.cells #[.slice none 0 0] 24)

theorem w3_size (w : World) (most next : Int) : (w3 w most next).heap.size = w.heap.size + 3 := by simp [w3]
theorem w3_m (w : World) (most next : Int) : (w3 w most next).heap[w.heap.size]? = some (.cells #[.int .i64 most] 3 (0, 0)) := by
  unfold w3
  rw [Below.heap_alloc _ _ _ (by simp; omega), Below.heap_alloc _ _ _ (by simp)]
  exact heap_alloc_new w _
theorem w3_n (w : World) (most next : Int) : (w3 w most next).heap[w.heap.size + 1]? = some (.cells #[.int .i64 next] 3 (0, 0)) := by
  unfold w3
  rw [Below.heap_alloc _ _ _ (by simp)]
  have := heap_alloc_new (w.alloc (.cells #[.int .i64 most] 3)) (.cells #[.int .i64 next] 3)
  simpa using this
theorem w3_c (w : World) (most next : Int) : (w3 w most next).heap[w.heap.size + 1 + 1]? = some (.cells #[.slice none 0 0] 24 (0, 0)) := by
  unfold w3
  have := heap_alloc_new ((w.alloc (.cells #[.int .i64 most] 3)).alloc (.cells #[.int .i64 next] 3)) (.cells #[.slice none 0 0] 24)
  simpa using this

theorem apartG_mem {next : Int} : ∀ {l seen : List Int}, apartG next seen l = true → ∀ x ∈ l, (x.natAbs : Int) < next ∧ x ≠ 0
  | [], _, _, x, hx => by cases hx
  | y :: r, seen, h, x, hx => by
    rw [apartG] at h
    split at h
    · cases h
    · rename_i hc
      rcases List.mem_cons.1 hx with rfl | hx
      · exact ⟨by have := fun q => hc (.inr (.inl q)); omega, fun e => hc (.inl (by simp [e]))⟩
      · exact apartG_mem h x hx
theorem apart_small {next : Int} {xs : List Int} (h : apartB next xs = true) (hn : next ≤ 65537) : Small xs := fun x hx => by
  have := (apartG_mem h x hx).1
  omega
theorem grown_cell {w w' : World} (hg : w.drew.grownBy w' none) {a : Addr} {v : Value} (h : w.cell? a = some v) : w'.cell? a = some v := World.grownBy.cell (w := w.drew) hg h (by simp)
theorem grown_frozen {w w' : World} (hg : w.drew.grownBy w' none) {a : Addr} {v : Value} (h : w.cell? a = some v) (hf : w.frozen? a = false) : w'.frozen? a = false :=
  (World.frozen?_of_block (w := w.drew) (hg.block a.block (World.block_lt_of_cell? w a h) (by simp))).trans hf
theorem set_same {w : World} {a : Addr} {v u : Value} (h : w.cell? a = some v) : (w.setCell a u).cell? a = some u := World.cell?_setCell_same w a u h
theorem set_far {w : World} {a q : Addr} {v u : Value} (h : w.cell? a = some v) (hne : q.block ≠ a.block) : (w.setCell q u).cell? a = some v :=
  (World.cell?_setCell_other w q a u (fun e => hne (by rw [e]))).trans h
/-- The closures' places, and the world in which 'count' is called. -/
def plc (N M : Nat) : Places := ⟨N, M + 4, N, N + 1, N + 1 + 1, M, M + 1, M + 1 + 1, M + 1 + 1 + 1⟩
theorem plc_ok {N M : Nat} (h : N + 3 ≤ M) : (plc N M).Ok := ⟨by simp [plc], by simp [plc], by simp [plc], by simp [plc]; omega, by simp [plc], by simp [plc], by simp [plc], by simp [plc]⟩
abbrev w8 (w4 : World) (N : Nat) : World :=
  (((w4.alloc (.cells #[.func (.func 43) #[] #[.pointer (some ⟨N + 1 + 1, 0, none⟩)]] 63)).alloc (.cells #[.func (.func 44) #[] #[]] 53)).alloc (.cells #[.bool false] 4)).alloc
    (.cells #[.func (.func 45) #[] #[.pointer (some ⟨w4.heap.size + 1 + 1, 0, none⟩), .pointer (some ⟨w4.heap.size + 1 + 1 + 1, 0, none⟩), .pointer (some ⟨N, 0, none⟩), .pointer (some ⟨N + 1, 0, none⟩), .pointer (some ⟨w4.heap.size, 0, none⟩), .pointer (some ⟨w4.heap.size + 1, 0, none⟩)]] 53)
theorem w8_below (w4 : World) (N : Nat) : Below w4.heap.size w4 (w8 w4 N) := ((((Below.refl _ _).alloc (Nat.le_refl _) _).alloc (by simp) _).alloc (by simp; omega) _).alloc (by simp; omega) _
theorem w8_size (w4 : World) (N : Nat) : (w8 w4 N).heap.size = w4.heap.size + 4 := by simp [w8]
theorem new_at {w : World} {o : Obj} {k : Nat} (h : k = w.heap.size) : (w.alloc o).heap[k]? = some o := by subst h; exact heap_alloc_new w o
theorem St.start (w4 : World) (N : Nat) (most next : Int) (hs : N + 3 ≤ w4.heap.size) (hm : w4.heap[N]? = some (.cells #[.int .i64 most] 3 (0, 0))) (hn : w4.heap[N + 1]? = some (.cells #[.int .i64 next] 3 (0, 0)))
    (hc : w4.heap[N + 1 + 1]? = some (.cells #[.slice none 0 0] 24 (0, 0))) : St (plc N w4.heap.size) (w8 w4 N) most next false [] := by
  have hb := w8_below w4 N
  refine ⟨by rw [w8_size]; exact Nat.le_refl _, (hb.block _ (by first | (simp [plc]; done) | (simp [plc]; omega))).trans hm, (hb.block _ (by first | (simp [plc]; done) | (simp [plc]; omega))).trans hn, ⟨_, (hb.block _ (by first | (simp [plc]; done) | (simp [plc]; omega))).trans hc, OwnRows.nil_ _ _⟩, ?_, ?_, ?_, ?_⟩
  · show (w8 w4 N).heap[w4.heap.size]? = _
    unfold w8
    rw [Below.heap_alloc _ _ _ (by first | (simp; done) | (simp; omega)), Below.heap_alloc _ _ _ (by first | (simp; done) | (simp; omega)), Below.heap_alloc _ _ _ (by simp)]
    exact new_at rfl
  · show (w8 w4 N).heap[w4.heap.size + 1]? = _
    unfold w8
    rw [Below.heap_alloc _ _ _ (by first | (simp; done) | (simp; omega)), Below.heap_alloc _ _ _ (by simp)]
    exact new_at (by simp)
  · show (w8 w4 N).heap[w4.heap.size + 1 + 1]? = _
    unfold w8
    rw [Below.heap_alloc _ _ _ (by simp)]
    exact new_at (by simp)
  · show (w8 w4 N).heap[w4.heap.size + 1 + 1 + 1]? = _
    unfold w8
    exact new_at (by simp)

set_option maxHeartbeats 2000000 in
theorem total_rest (w : World) (n c : Nat) (A : Option Addr) (xs : List Int) (most next : Int) (hI : Ints w (fun k => k < w.heap.size) A n c xs) (hf : Fits xs) (hn6 : n ≤ 64)
    (g1 : 1 ≤ next) (g2 : next ≤ 65537) (g3 : 0 ≤ most) (g4 : most ≤ 1099511627776) :
    Calls Try.prog 26 #[.slice A n c, .int .i64 most, .int .i64 next] w (RetTotal w (totalR xs most next)) := by
  have hlen := hI.len
  obtain ⟨m, rfl⟩ := Int.eq_ofNat_of_zero_le g3
  have hg : ¬ (next < 1 ∨ 65537 < next ∨ (m : Int) < 0 ∨ 1099511627776 < (m : Int) ∨ 4096 < xs.length) := by omega
  have hb3 : Below w.heap.size w (w3 w m next) := below3 w _ _ _
  have call1 := apart_any (w3 w m next) _ n c A xs next (hI.below hb3 (fun _ h => h)) (fun k hk => by simp [w3]; omega) hf g1 g2 (by omega)
  have CALL1 := Lib.hid call1
  have HI := Lib.hid hI
  have HLEN := Lib.hid hlen
  have HG := Lib.hid hg
  have HB3 := Lib.hid hb3
  clear call1 hI hlen hg hb3 hf
  go_enter Try.func26, Try.ntmps26
  go_wp2_with (fail)
  cases hap : apartB next xs
  case false =>
    rw [hap] at CALL1
    (with_reducible refine CALL1.out.mono ?_)
    rintro e w4 ⟨rfl, hb4⟩
    have hs4 := hb4.size
    rw [w3_size] at hb4 hs4
    have hbc := (hb4.block (w.heap.size + 1 + 1) (by omega)).trans (w3_c w m next)
    have hbm := (hb4.block w.heap.size (by omega)).trans (w3_m w m next)
    have hbn := (hb4.block (w.heap.size + 1) (by omega)).trans (w3_n w m next)
    have hcc := cell_of_one hbc
    have hcf := free_of_one hbc
    have hcm := cell_of_one hbm
    have hcn := cell_of_one hbn
    have hcnf := free_of_one hbn
    have HBC := Lib.hid hbc
    have HBM := Lib.hid hbm
    have HBN := Lib.hid hbn
    have hb40 : Below w.heap.size w w4 := HB3.out.trans (hb4.mono (by omega))
    clear hbc hbm hbn
    have HR := Lib.hid (totalR_lit HG.out hap)
    clear hap CALL1
    go_wp2
    refine bodyPost_ret (v := .tuple #[.slice none 0 0, .slice none 0 0, .int .i64 0, .int .i64 140]) (by simp [results, Try.results26, go_sem, hcc]) rfl ?_
    rw [HR.out]
    exact ret_empty (hb40.setCell (by simp; omega) _)
  case true =>
    rw [hap] at CALL1
    (with_reducible refine CALL1.out.mono ?_)
    rintro e w4 ⟨rfl, hb4⟩
    have hs4 := hb4.size
    rw [w3_size] at hb4 hs4
    have hbc := (hb4.block (w.heap.size + 1 + 1) (by omega)).trans (w3_c w m next)
    have hbm := (hb4.block w.heap.size (by omega)).trans (w3_m w m next)
    have hbn := (hb4.block (w.heap.size + 1) (by omega)).trans (w3_n w m next)
    have hcc := cell_of_one hbc
    have hcf := free_of_one hbc
    have hcm := cell_of_one hbm
    have hcn := cell_of_one hbn
    have hcnf := free_of_one hbn
    have HBC := Lib.hid hbc
    have HBM := Lib.hid hbm
    have HBN := Lib.hid hbn
    have hb40 : Below w.heap.size w w4 := HB3.out.trans (hb4.mono (by omega))
    clear hbc hbm hbn
    by_cases hz : n = 0
    case pos =>
      have HR := Lib.hid (totalR_zero HG.out hap (.inl (by rw [← HLEN.out]; exact hz)))
      subst hz
      clear hap CALL1
      go_wp2
      go_region
      all_goals
        go_wp2
        refine bodyPost_ret (v := .tuple #[.slice none 0 0, .slice none 0 0, .int .i64 next, .int .i64 0]) (by simp [results, Try.results26, go_sem, hcc]) rfl ?_
        rw [HR.out]
        exact ret_empty (hb40.drew.setCell (by simp; omega) _)
    have hz1 : ((n : Int) == 0) = false := by simpa using hz
    by_cases hm0 : m = 0
    case pos =>
      have HR := Lib.hid (totalR_zero HG.out hap (.inr (by omega)))
      subst hm0
      clear hap CALL1
      go_wp2
      go_region
      all_goals
        go_wp2
        refine bodyPost_ret (v := .tuple #[.slice none 0 0, .slice none 0 0, .int .i64 next, .int .i64 0]) (by simp [results, Try.results26, go_sem, hcc]) rfl ?_
        rw [HR.out]
        exact ret_empty (hb40.drew.setCell (by simp; omega) _)
    have hm1 : ((m : Int) == 0) = false := by simpa using hm0
    have HAP := Lib.hid hap
    clear hap CALL1
    have hst := St.start w4 w.heap.size m next hs4 HBM.out HBN.out HBC.out
    have hp := plc_ok hs4
    have hb8 : Below w.heap.size w (w8 w4 w.heap.size) := hb40.trans ((w8_below w4 _).mono (by omega))
    have hI8 : Ints (w8 w4 w.heap.size) (Safe (plc w.heap.size w4.heap.size) (w8 w4 w.heap.size)) A n c xs := (HI.out.below hb8 (fun _ h => h)).more fun k hk => .inl ⟨hk, by rw [w8_size]; omega⟩
    have call2 : Calls Try.prog 45 #[.slice A n c, .pointer (some ⟨w4.heap.size + 1 + 1, 0, none⟩), .pointer (some ⟨w4.heap.size + 1 + 1 + 1, 0, none⟩), .pointer (some ⟨w.heap.size, 0, none⟩), .pointer (some ⟨w.heap.size + 1, 0, none⟩), .pointer (some ⟨w4.heap.size, 0, none⟩), .pointer (some ⟨w4.heap.size + 1, 0, none⟩)] (w8 w4 w.heap.size) (Counted (plc w.heap.size w4.heap.size) (w8 w4 w.heap.size) m next [] xs) :=
      count_any (plc w.heap.size w4.heap.size) hp xs.length (w8 w4 w.heap.size) n c A m next [] xs (Nat.le_refl _) (by rw [← HLEN.out]; omega) (by rw [← HLEN.out]; omega) hst hI8 (apart_small HAP.out g2) g1 g2
      (by rw [← HLEN.out]; have : 4 * n * n ≤ 256 * 64 := Nat.mul_le_mul (by omega) hn6; simp; omega) (by omega) (by omega)
    have CALL2 := Lib.hid call2
    have HB8 := Lib.hid hb8
    clear call2 hI8 hst hb8 hb4 hb40 hcc hcf hcnf HBC HBM HBN HI
    clear hcn
    have HP := Lib.hid hp
    clear hp
    go_wp2_with (fail)
    (with_reducible refine CALL2.out.mono ?_)
    rintro e w5 ⟨A5, n5, c5, rfl, hs5, hok, hov⟩
    have HS5 := Lib.hid (hs5.below (by rw [w8_size]; show w.heap.size ≤ _; omega))
    have hb50 : Below w.heap.size w w5 := HB8.out.trans HS5.out
    have hsz5 := hs5.size
    rw [w8_size] at hsz5
    have HOK := Lib.hid hok
    have HOV := Lib.hid hov
    clear hs5 hok hov CALL2 hcm
    by_cases hle : next + vars m xs.length ≤ 65537
    case neg =>
      obtain ⟨next', css', hst5⟩ := HOV.out (by omega)
      have hff : w5.cell? ⟨w4.heap.size + 1 + 1, 0, none⟩ = some (.bool true) := cell_of_one hst5.f
      obtain ⟨vc, hvc, hvo⟩ := hst5.c
      have hcc : w5.cell? ⟨w.heap.size + 1 + 1, 0, none⟩ = some vc := cell_of_one hvc
      have hcf : w5.frozen? ⟨w.heap.size + 1 + 1, 0, none⟩ = false := free_of_one hvc
      have HR := Lib.hid (totalR_bound HG.out HAP.out (by rw [← HLEN.out]; omega) (by simpa using hle))
      clear hst5 hvc hvo hle
      go_wp2
      refine bodyPost_ret (v := .tuple #[.slice none 0 0, .slice none 0 0, .int .i64 0, .int .i64 2]) (by simp [results, Try.results26, go_sem, hcc]) rfl ?_
      rw [HR.out]
      exact ret_empty (hb50.setCell (by simp; omega) _)
    case pos =>
      obtain ⟨hst5, hI5⟩ := HOK.out hle
      have hff : w5.cell? ⟨w4.heap.size + 1 + 1, 0, none⟩ = some (.bool false) := cell_of_one hst5.f
      have hfn : w5.cell? ⟨w.heap.size + 1, 0, none⟩ = some (.int .i64 (next + vars m xs.length)) := cell_of_one hst5.n
      obtain ⟨vc, hvc, rows, hvo1, hvo2⟩ := hst5.c
      obtain ⟨Ac, cc, rfl⟩ := own_form hvo1
      have hcc : w5.cell? ⟨w.heap.size + 1 + 1, 0, none⟩ = some (.slice Ac ([] ++ (cnt m xs next).2).length cc) := cell_of_one hvc
      have hcf : w5.frozen? ⟨w.heap.size + 1 + 1, 0, none⟩ = false := free_of_one hvc
      rw [List.nil_append] at hcc
      have hl5 := hI5.len
      have hl6 := cnt_len m xs next
      have hn5 : n5 ≤ 64 := by have := HLEN.out; omega
      have hRd := hI5.drew.reads
      have HR := Lib.hid (totalR_ok HG.out HAP.out (by rw [← HLEN.out]; omega) (show ¬ 65537 < next + (vars (m : Int).toNat xs.length : Int) by simp; omega))
      have HO5 : Hid (OwnRows w5 (w4.heap.size + 4) (.slice Ac ([] ++ (cnt m xs next).2).length cc) ([] ++ (cnt m xs next).2)) := ⟨rows, hvo1, hvo2⟩
      have HC5 := Lib.hid hvc
      obtain ⟨i0, hi, hz0, hz1, hz2⟩ := info_parts int_info
      have hsz55 : w.heap.size ≤ w5.drew.heap.size := by show w.heap.size ≤ w5.heap.size; omega
      clear hst5 hvc hvo1 hvo2 hl5 hl6 hI5 hle HOK HOV
      generalize hN : (next + vars m xs.length : Int) = nx at *
      have HN := Lib.hid hN
      clear hN
      go_wp2
      go_region_held3 (fun w' => w'.cell? ⟨w.heap.size + 1 + 1, 0, none⟩ = some (.slice Ac (cnt m xs next).2.length cc) ∧ w'.cell? ⟨w.heap.size + 1, 0, none⟩ = some (.int .i64 nx)) (first | (exact ⟨hkc, hkn⟩) | (exact ⟨hcc, hfn⟩) | (exact ⟨set_same hkc, set_far hkn (by simp)⟩) | go_keep)
        (first | (refine step_append_any _ (by rfl) (.const (.slice none 0 0)) (.tmp 44) _ (by rfl) w5.heap.size 3 i0 _ 1 8 Try.underlying22 hi hz0 hz1 hz2 rfl (by omega) (.slice none 0 0) 0 [] (by rfl) (World.ownsRow_nil _ _ _ _) _ A5 n5 c5 _ (by rfl) hRd (ints_oneCell _) (by simp only [maxLen]; omega) (by omega) (Nat.le_refl _) ?_; intro v6 w6 hown6 hg6 hat6; obtain ⟨A6, c6, rfl⟩ := own_form hown6; have hkc := (grown_cell hg6 hcc); have hkn := (grown_cell hg6 hfn); have hkf := grown_frozen hg6 hcc hcf))
      go_wp2
      refine bodyPost_ret (v := .tuple #[.slice A6 (0 + n5) c6, .slice Ac (cnt m xs next).2.length cc, .int .i64 nx, .int .i64 0]) (by simp [results, Try.results26, go_sem, hkc]) rfl ?_
      rw [HR.out]
      have hb6 : Below w.heap.size w w6 := hb50.drew.grown hg6 hsz55 (by simp [Value.ownBlock])
      have hO6 : OwnRows (w6.setCell ⟨w.heap.size + 1 + 1, 0, none⟩ (.slice Ac (cnt m xs next).2.length cc)) w.heap.size (.slice Ac (cnt m xs next).2.length cc) (cnt m xs next).2 := by
        have h := HO5.out
        rw [List.nil_append] at h
        have h6 : OwnRows w6 (w4.heap.size + 4) (.slice Ac (cnt m xs next).2.length cc) (cnt m xs next).2 := h.keep fun k cs t _ hh _ => hg6.block k (by have := lt_of_block hh; exact this) (by simp [Value.ownBlock])
        exact (h6.keep fun k cs t hk hh ht => Below.heap_setCell _ _ _ _ (by simp; omega)).base (by omega)
      have hown7 : (w6.setCell ⟨w.heap.size + 1 + 1, 0, none⟩ (.slice Ac (cnt m xs next).2.length cc)).ownsRow w.heap.size 3 1 (.slice A6 (0 + n5) c6) (0 + n5) ((cnt m xs next).1.map (Value.int .i64)) :=
        own_base (ownsRow_setCell_below hown6 (by simp; omega) _) (by omega)
      rw [show (m : Int).toNat = m from Int.toNat_natCast m]
      exact ⟨A6, 0 + n5, c6, Ac, (cnt m xs next).2.length, cc, by rw [← HN.out], hown7, hO6, hb6.setCell (by simp; omega) _⟩

/-- Total, for every argument of at most 64 literals. -/
theorem total_any (w : World) (n c : Nat) (A : Option Addr) (xs : List Int) (most next : Int) (hI : Ints w (fun k => k < w.heap.size) A n c xs) (hf : Fits xs) (hn6 : n ≤ 64) :
    Calls Try.prog 26 #[.slice A n c, .int .i64 most, .int .i64 next] w (RetTotal w (totalR xs most next)) := by
  by_cases h : next < 1 ∨ 65537 < next ∨ most < 0 ∨ 1099511627776 < most ∨ 4096 < xs.length
  · exact total_arg w n c A xs most next hI.len hn6 h
  · exact total_rest w n c A xs most next hI hf hn6 (by omega) (by omega) (by omega) (by omega)
end Go.Proofs.Ytanbkdfffojpnaa
