/-
  PLAIN LAW: some extension satisfies the clauses of Least exactly if at least k literals are true.
-/
import Derived.Test.YtanbkdfffojpnaaSeqLaw
import Derived.Test.YtanbkdfffojpnaaUniqueLaw
import Derived.Test.YtanbkdfffojpnaaLaw16
namespace Go.Proofs.Ytanbkdfffojpnaa

theorem litT_sval {m x : Int} (b : List Bool) (h : LitBelow m x) (hm : m ≤ 65537) : litT x b = sval (varT b) x := by
  unfold litT sval
  have : mayB x 65536 = true := by
    simp only [mayB, decide_eq_true_eq]
    have := h.1; have := h.2
    omega
  rw [if_pos this]
theorem holdsT_cval {m : Int} {c : List Int} (b : List Bool) (h : Among (LitBelow m) c) (hm : m ≤ 65537) : holdsT c b = cval (varT b) c := by
  unfold holdsT cval
  rw [Bool.eq_iff_iff]
  simp only [List.any_eq_true]
  constructor
  · rintro ⟨x, hx, hv⟩; exact ⟨x, hx, by rw [← litT_sval b (h x hx) hm]; exact hv⟩
  · rintro ⟨x, hx, hv⟩; exact ⟨x, hx, by rw [litT_sval b (h x hx) hm]; exact hv⟩
theorem allT_iff {m : Int} {cs : List (List Int)} (b : List Bool) (h : ∀ cl ∈ cs, Among (LitBelow m) cl) (hm : m ≤ 65537) : allT cs b = true ↔ ∀ c ∈ cs, cval (varT b) c = true := by
  unfold allT
  rw [List.all_eq_true]
  constructor
  · intro q c hc; rw [← holdsT_cval b (h c hc) hm]; exact q c hc
  · intro q c hc; rw [holdsT_cval b (h c hc) hm]; exact q c hc
theorem truthT_sval {m x : Int} {b : List Bool} (h : LitBelow m x) (hm : m ≤ b.length) : truthT x b = sval (varT b) x := by
  unfold truthT sval varT
  obtain ⟨h1, h2⟩ := h
  by_cases h0 : x < 0
  · rw [if_pos h0]
    have e : (-x).toNat = x.natAbs := by omega
    have d1 : decide (-x < (b.length : Int)) = true := by simp; omega
    have d2 : decide (0 < x) = false := by simp; omega
    rw [e, d1, d2]
    cases b.getD x.natAbs false <;> rfl
  · rw [if_neg h0]
    have e : x.toNat = x.natAbs := by omega
    have d1 : decide (x < (b.length : Int)) = true := by simp; omega
    have d2 : decide (0 < x) = true := by simp; omega
    rw [e, d1, d2]
    cases b.getD x.natAbs false <;> rfl
theorem manyT_count {m : Int} {l : List Int} {b : List Bool} (h : Among (LitBelow m) l) (hm : m ≤ b.length) : manyT l b = l.countP (sval (varT b)) := by
  unfold manyT
  exact List.countP_congr fun x hx => by rw [truthT_sval (h x hx) hm]

/-! ### which literals occur -/
theorem nz_among {P : Int → Prop} {c : List Int} (h : ∀ x ∈ c, x ≠ 0 → P x) : Among P (nz c) := fun x hx => by
  unfold nz at hx
  obtain ⟨h1, h2⟩ := List.mem_filter.1 hx
  exact h x h1 (by simpa using h2)
theorem regR_among {next : Int} (h : 1 ≤ next) (k i j : Int) {m : Int} {n : Nat} {kk : Nat} (hm : beginAt next kk n ≤ m) {x : Int} (hx : x = regR (prevB next kk n) (prevM kk n) j) (hne : x ≠ 0) : LitBelow m x := by
  cases n with
  | zero =>
    exfalso
    apply hne
    rw [hx]
    unfold regR prevB prevM
    by_cases hj : j < 1
    · rw [if_pos (.inl hj)]
    · rw [if_pos (.inr (by simp; omega))]
  | succ n =>
    have hb := begin_pos h kk n
    have e : beginAt next kk (n + 1) = beginAt next kk n + manyAt kk n := rfl
    have e2 : regR (prevB next kk (n + 1)) (prevM kk (n + 1)) j = regR (beginAt next kk n) (manyAt kk n) j := rfl
    rw [e2] at hx
    unfold regR at hx
    split at hx
    · exact absurd hx hne
    · exact ⟨hne, by omega⟩
theorem allL_among {l : List Int} {next m : Int} {k : Nat} (hn : 1 ≤ next) (hl : Among (LitBelow m) l) : ∀ n, n ≤ l.length → beginAt next k n ≤ m → ∀ cl ∈ allL l next k n, Among (LitBelow m) cl
  | 0, _, _, cl, h => by cases h
  | n + 1, hnl, hm, cl, h => by
    have hb := beginAt_mono next k (show n ≤ n + 1 by omega)
    have hb1 := begin_pos hn k n
    have e : beginAt next k (n + 1) = beginAt next k n + manyAt k n := rfl
    rw [allL] at h
    rcases List.mem_append.1 h with h | h
    · exact allL_among hn hl n (by omega) (by omega) cl h
    · have hx : LitBelow m (l.getD n 0) := by
        rw [List.getD_eq_getElem?_getD, List.getElem?_eq_getElem (by omega)]
        exact hl _ (List.getElem_mem (by omega))
      have hrow : ∀ j, j ≤ manyAt k n → ∀ cl ∈ rowL (beginAt next k n) (prevB next k n) (prevM k n) (l.getD n 0) j, Among (LitBelow m) cl := by
        intro j
        induction j with
        | zero => intro _ cl h; cases h
        | succ j ih =>
          intro hj cl h
          rw [rowL] at h
          rcases List.mem_append.1 h with h | h
          · exact ih (by omega) cl h
          · have hr : ∀ q x, x = regR (prevB next k n) (prevM k n) q → x ≠ 0 → LitBelow m x := fun q x e hne => regR_among hn 0 0 q (by omega) e hne
            have hself : LitBelow m (-(beginAt next k n + ((j + 1 : Nat) : Int) - 1)) := ⟨by omega, by omega⟩
            unfold clJ at h
            rcases List.mem_append.1 h with h | h
            · rw [List.mem_singleton] at h
              subst h
              refine nz_among fun x hxm hne => ?_
              simp only [List.mem_cons, List.not_mem_nil, or_false] at hxm
              rcases hxm with q | q | q
              · rw [q]; exact hself
              · exact hr _ x q hne
              · rw [q]; exact hx
            · split at h
              · rw [List.mem_singleton] at h
                subst h
                refine nz_among fun x hxm hne => ?_
                simp only [List.mem_cons, List.not_mem_nil, or_false] at hxm
                rcases hxm with q | q | q
                · rw [q]; exact hself
                · exact hr _ x q hne
                · exact hr _ x q hne
              · cases h
      exact hrow _ (Nat.le_refl _) cl h
theorem leastC_among {l : List Int} {next m : Int} {k : Nat} (hn : 1 ≤ next) (hl : Among (LitBelow m) l) (hm : beginAt next k l.length ≤ m) : ∀ cl ∈ leastC l next k, Among (LitBelow m) cl := by
  intro cl h
  unfold leastC at h
  rcases List.mem_append.1 h with h | h
  · exact allL_among hn hl l.length (Nat.le_refl _) hm cl h
  · rw [List.mem_singleton] at h
    subst h
    unfold lastC
    refine nz_among fun x hxm hne => ?_
    rw [List.mem_singleton] at hxm
    exact regR_among hn 0 0 _ hm hxm hne
theorem among_mono {m m' : Int} {l : List Int} (h : Among (LitBelow m) l) (hm : m ≤ m') : Among (LitBelow m') l := fun x hx => ⟨(h x hx).1, by have := (h x hx).2; omega⟩

/-! ### the registers that hold the counts -/
def ranL (s : Nat → Bool) (l : List Int) (k : Nat) : Nat → List Bool
  | 0 => []
  | i + 1 => ranL s l k i ++ (List.range (manyAt k i)).map fun j => decide (j + 1 ≤ cntS s l (i + 1))
theorem ranL_len (s : Nat → Bool) (l : List Int) (k : Nat) : ∀ i, (ranL s l k i).length = sumM k i
  | 0 => rfl
  | i + 1 => by simp [ranL, sumM, ranL_len s l k i]
theorem ranL_get (s : Nat → Bool) (l : List Int) (k : Nat) : ∀ n i j, i < n → 1 ≤ j → j ≤ manyAt k i → (ranL s l k n)[sumM k i + (j - 1)]? = some (decide (j ≤ cntS s l (i + 1)))
  | 0, i, j, h, _, _ => by omega
  | n + 1, i, j, h, h1, h2 => by
    rw [ranL]
    rcases Nat.lt_or_ge i n with h3 | h3
    · have hl : sumM k i + (j - 1) < (ranL s l k n).length := by
        rw [ranL_len]
        have hmono : sumM k (i + 1) ≤ sumM k n := by
          have := beginAt_mono 0 k (show i + 1 ≤ n by omega)
          rw [beginAt_sum, beginAt_sum] at this
          omega
        have e : sumM k (i + 1) = sumM k i + manyAt k i := rfl
        omega
      rw [List.getElem?_append_left hl]
      exact ranL_get s l k n i j h3 h1 h2
    · obtain rfl : i = n := by omega
      rw [List.getElem?_append_right (by rw [ranL_len]; omega), ranL_len]
      rw [show sumM k i + (j - 1) - sumM k i = j - 1 by omega, List.getElem?_map, List.getElem?_range (by omega)]
      simp [show j - 1 + 1 = j by omega]
theorem sval_prefix {a e : List Bool} {x : Int} (h : x.natAbs < a.length) : sval (varT (a ++ e)) x = sval (varT a) x := by
  refine sval_congr ?_
  unfold varT
  rw [List.getD_eq_getElem?_getD, List.getElem?_append_left h, ← List.getD_eq_getElem?_getD]
theorem count_prefix {a e : List Bool} {l : List Int} (h : Among (LitBelow a.length) l) : l.countP (sval (varT (a ++ e))) = l.countP (sval (varT a)) :=
  List.countP_congr fun x hx => by rw [sval_prefix (by have := (h x hx).2; omega)]
theorem cntS_prefix {a e : List Bool} {l : List Int} (h : Among (LitBelow a.length) l) (i : Nat) : cntS (varT (a ++ e)) l i = cntS (varT a) l i :=
  List.countP_congr fun x hx => by rw [sval_prefix (by have := (h x (List.mem_of_mem_take hx)).2; omega)]
/-- Behind an assignment 'a ++ mid' of the variables below next come the counts. -/
theorem ran_ok {a mid post : List Bool} {l : List Int} {k : Nat} {next : Int} (h : Among (LitBelow a.length) l) (hnext : next = ((a ++ mid).length : Nat)) : RegOK (varT (a ++ (mid ++ (ranL (varT a) l k l.length ++ post)))) l next k := by
  intro i hi j h1 h2
  rw [cntS_prefix h]
  have e : regV next k i j = (a ++ mid).length + (sumM k i + (j - 1)) := by
    unfold regV
    rw [beginAt_sum, hnext]
    omega
  have hg := ranL_get (varT a) l k l.length i j hi h1 h2
  rw [e]
  unfold varT
  rw [List.getD_eq_getElem?_getD, ← List.append_assoc, List.getElem?_append_right (by omega), Nat.add_sub_cancel_left]
  rw [List.getElem?_append_left (by
    rcases Nat.lt_or_ge (sumM k i + (j - 1)) (ranL (fun v => a.getD v false) l k l.length).length with q | q
    · exact q
    · exfalso
      have : (ranL (varT a) l k l.length)[sumM k i + (j - 1)]? = none := List.getElem?_eq_none q
      rw [this] at hg
      cases hg)]
  show (ranL (varT a) l k l.length)[sumM k i + (j - 1)]?.getD false = _
  rw [hg]
  rfl

theorem canB_iff {cs : List (List Int)} {a : List Bool} {f : Nat} : canB cs a f = true ↔ ∃ e : List Bool, e.length = f ∧ allT cs (a ++ e) = true := by
  unfold canB
  rw [List.any_eq_true]
  constructor
  · rintro ⟨m, _, h⟩; exact ⟨bitsL m f, bitsL_len m f, h⟩
  · rintro ⟨e, he, h⟩
    obtain ⟨b, hb, hg⟩ := bits_of f (fun i => e.getD i false)
    refine ⟨b, List.mem_range.2 hb, ?_⟩
    have : bitsL b f = e := by
      apply List.ext_getElem
      · rw [bitsL_len, he]
      · intro i h1 h2
        rw [bitsL_len] at h1
        simp only [bitsL, List.getElem_map, List.getElem_range]
        rw [hg i h1, List.getD_eq_getElem?_getD, List.getElem?_eq_getElem h2]; rfl
    rw [this]; exact h
theorem allT_append {cs ds : List (List Int)} {b : List Bool} : allT (cs ++ ds) b = (allT cs b && allT ds b) := by unfold allT; rw [List.all_append]

/-- What leastR says, given that the arguments are right and there is room. -/
theorem right_among {l : List Int} {next : Int} (h : rightR l next = 0) : 1 ≤ next ∧ next ≤ 65537 ∧ l.length ≤ 4096 ∧ Among (LitBelow next) l := by
  obtain ⟨h1, h2, h3, h4⟩ := right_good h
  exact ⟨h1, h2, h3, apartG_lit h4⟩
/-- The variables that leastR uses: from next on. -/
theorem leastR_after {l : List Int} {k next : Int} (h0 : (leastR l k next).err = 0) : rightR l next = 0 ∧ next ≤ (leastR l k next).after ∧ (leastR l k next).after ≤ 65537 ∧ ∀ cl ∈ (leastR l k next).cs, Among (LitBelow (leastR l k next).after) cl := by
  by_cases hr : rightR l next = 0
  case neg => rw [leastR_bad hr] at h0; exact absurd h0 hr
  obtain ⟨h1, h2, h3, hA⟩ := right_among hr
  refine ⟨hr, ?_⟩
  by_cases hk : k ≤ 0
  · rw [leastR_none hr hk]; exact ⟨Int.le_refl _, h2, fun cl h => by cases h⟩
  by_cases hk2 : (l.length : Int) < k
  · rw [leastR_over hr hk hk2]
    refine ⟨Int.le_refl _, h2, fun cl h => ?_⟩
    rw [List.mem_singleton.1 h]
    exact fun x hx => by cases hx
  obtain ⟨m, rfl⟩ := Int.eq_ofNat_of_zero_le (show 0 ≤ k by omega)
  by_cases hb : 65536 < next + regs l.length m - 1 ∨ 65536 < 2 * (regs l.length m : Int) - l.length + 1
  · rw [leastR_bound hr (by omega) (by omega) hb] at h0; cases h0
  · rw [leastR_ok hr (by omega) (by omega) hb]
    have e : beginAt next m l.length = next + regs l.length m := by rw [beginAt_sum, sumM_regs (by omega) (by omega)]
    show next ≤ beginAt next m l.length ∧ beginAt next m l.length ≤ 65537 ∧ ∀ cl ∈ leastC l next m, Among (LitBelow (beginAt next m l.length)) cl
    refine ⟨by omega, by omega, leastC_among h1 (among_mono hA (by omega)) (Int.le_refl _)⟩
/-- ONLY IF. -/
theorem leastR_sound {l : List Int} {k next : Int} (h0 : (leastR l k next).err = 0) {s : Nat → Bool} (h : ∀ c ∈ (leastR l k next).cs, cval s c = true) : k ≤ l.countP (sval s) := by
  obtain ⟨hr, _⟩ := leastR_after h0
  obtain ⟨h1, h2, h3, hA⟩ := right_among hr
  by_cases hk : k ≤ 0
  · omega
  by_cases hk2 : (l.length : Int) < k
  · rw [leastR_over hr hk hk2] at h
    have := h [] (by simp)
    cases this
  obtain ⟨m, rfl⟩ := Int.eq_ofNat_of_zero_le (show 0 ≤ k by omega)
  by_cases hb : 65536 < next + regs l.length m - 1 ∨ 65536 < 2 * (regs l.length m : Int) - l.length + 1
  · rw [leastR_bound hr (by omega) (by omega) hb] at h0; cases h0
  · rw [leastR_ok hr (by omega) (by omega) hb] at h
    have := least_sound h1 (fun x hx => (hA x hx).1) (by omega) (by omega) h
    omega
/-- The registers' values. -/
def regsL (a : List Bool) (l : List Int) (k : Int) : List Bool := if 1 ≤ k ∧ k ≤ l.length then ranL (varT a) l k.toNat l.length else []
theorem regsL_len {l : List Int} {k next : Int} (h0 : (leastR l k next).err = 0) (a : List Bool) : (regsL a l k).length = ((leastR l k next).after - next).toNat := by
  obtain ⟨hr, _⟩ := leastR_after h0
  by_cases hk : k ≤ 0
  · rw [leastR_none hr hk]; unfold regsL; rw [if_neg (by omega)]; simp
  by_cases hk2 : (l.length : Int) < k
  · rw [leastR_over hr hk hk2]; unfold regsL; rw [if_neg (by omega)]; simp
  obtain ⟨m, rfl⟩ := Int.eq_ofNat_of_zero_le (show 0 ≤ k by omega)
  by_cases hb : 65536 < next + regs l.length m - 1 ∨ 65536 < 2 * (regs l.length m : Int) - l.length + 1
  · rw [leastR_bound hr (by omega) (by omega) hb] at h0; cases h0
  · rw [leastR_ok hr (by omega) (by omega) hb]
    unfold regsL
    rw [if_pos (by omega), Int.toNat_natCast, ranL_len]
    show sumM m l.length = (beginAt next m l.length - next).toNat
    rw [beginAt_sum]; omega
/-- IF. -/
theorem leastR_complete {l : List Int} {k next : Int} (h0 : (leastR l k next).err = 0) {a mid post : List Bool} (hA : Among (LitBelow a.length) l) (hnext : next = ((a ++ mid).length : Nat)) (hc : k ≤ l.countP (sval (varT a))) :
    ∀ c ∈ (leastR l k next).cs, cval (varT (a ++ (mid ++ (regsL a l k ++ post)))) c = true := by
  obtain ⟨hr, _⟩ := leastR_after h0
  obtain ⟨h1, h2, h3, _⟩ := right_among hr
  by_cases hk : k ≤ 0
  · rw [leastR_none hr hk]; intro c hc'; cases hc'
  by_cases hk2 : (l.length : Int) < k
  · have : l.countP (sval (varT a)) ≤ l.length := List.countP_le_length
    omega
  obtain ⟨m, rfl⟩ := Int.eq_ofNat_of_zero_le (show 0 ≤ k by omega)
  by_cases hb : 65536 < next + regs l.length m - 1 ∨ 65536 < 2 * (regs l.length m : Int) - l.length + 1
  · rw [leastR_bound hr (by omega) (by omega) hb] at h0; cases h0
  · rw [leastR_ok hr (by omega) (by omega) hb]
    have hreg : regsL a l (m : Int) = ranL (varT a) l m l.length := by unfold regsL; rw [if_pos (by omega), Int.toNat_natCast]
    rw [hreg]
    have hok := ran_ok (mid := mid) (post := post) (k := m) hA hnext
    obtain ⟨q1, q2⟩ := least_complete h1 (fun x hx => (hA x hx).1) (by omega) (by omega) hok
    intro c hc'
    have hc'' : c ∈ leastC l next m := hc'
    unfold leastC at hc''
    rcases List.mem_append.1 hc'' with h | h
    · exact q1 c h
    · rw [List.mem_singleton.1 h, q2, count_prefix hA]
      simpa using hc

/-- THE LAW of Least. -/
theorem can_least {l : List Int} {k : Int} {a : List Bool} (h0 : (leastR l k a.length).err = 0) : canB (leastR l k a.length).cs a ((leastR l k a.length).after - a.length).toNat = decide (k ≤ (manyT l a : Int)) := by
  obtain ⟨hr, hge, hle, hcs⟩ := leastR_after h0
  obtain ⟨h1, h2, h3, hA⟩ := right_among hr
  rw [manyT_count hA (Int.le_refl _), Bool.eq_iff_iff, canB_iff]
  simp only [decide_eq_true_eq]
  constructor
  · rintro ⟨e, he, hall⟩
    have := leastR_sound h0 ((allT_iff _ hcs hle).1 hall)
    rwa [count_prefix hA] at this
  · intro hc
    refine ⟨regsL a l k, regsL_len h0 a, (allT_iff _ hcs hle).2 ?_⟩
    have := leastR_complete h0 (mid := []) (post := []) hA (by simp) hc
    simpa using this
end Go.Proofs.Ytanbkdfffojpnaa
