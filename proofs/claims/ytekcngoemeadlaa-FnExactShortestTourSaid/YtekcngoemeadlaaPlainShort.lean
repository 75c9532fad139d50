/-
  The plain law of FnExactShortestTour: the reference's recursion and the program's walk through all orders find one tour.
-/
import Derived.Test.YtekcngoemeadlaaPlainTours
import Derived.Test.YtekcngoemeadlaaTx8
namespace Go.Proofs.Ytekcngoemeadlaa.PlainT
open Go.RowKit Go.Proofs.YtekcngoemeadlaaW.PrintWords Go.Proofs.YtekcngoemeadlaaW.PrintLast Go.Proofs.YtekcngoemeadlaaW.PrintMore
open Go.Proofs.Ytekcngoemeadlaa.T

/-! ### Ticks are small and never below zero -/
theorem switch_bd {a b c d : Int} (h1 : vdir a b = true) (h2 : vdir c d = true) : ∃ r, spec_l09Switch.f a b c d = some r ∧ 0 ≤ r ∧ r ≤ 8 := by
  have h1 := vdir_bd h1
  have h2 := vdir_bd h2
  unfold spec_l09Switch.f spec_l09Abs.f
  simp only [qmax, Option.bind_some]
  refine ⟨_, rfl, ?_⟩
  rw [w64 (n := a - c) (by omega) (by omega), w64 (n := b - d) (by omega) (by omega), w64 (n := -(a - c)) (by omega) (by omega), w64 (n := -(b - d)) (by omega) (by omega)]
  obtain ⟨m, hm, h0, h128⟩ : ∃ m, mx (mx (a - c) (-(a - c))) (mx (b - d) (-(b - d))) = m ∧ 0 ≤ m ∧ m ≤ 128 := by
    refine ⟨_, rfl, ?_⟩
    unfold mx
    constructor
    · split <;> split <;> split <;> omega
    · split <;> split <;> split <;> omega
  rw [hm, w64 (n := m + 15) (by omega) (by omega)]
  have e : Int.tdiv (m + 15) 16 = (m + 15) / 16 := Int.tdiv_eq_ediv_of_nonneg (by omega)
  rw [e, w64 (by omega) (by omega)]
  omega
theorem ticks_loop' (l : List S26) (o : List Int) (hv : l.all (fun x => vdir x.f0 x.f1) = true) (ho : ∀ x ∈ o, 0 ≤ x ∧ x < l.length) (hn : o.length ≤ 1000) : ∀ (d i : Nat) (c : Int), i + d = o.length → 0 ≤ c → c ≤ 8 * i →
    ∃ r, 0 ≤ r ∧ ∀ k, d < k → spec_l09Ticks.l0 k l o c (o.length : Int) (i : Int) = some r ∧ impl_tourTicks.l0 k l o c o (o.length : Int) (i : Int) = some r := by
  intro d
  induction d with
  | zero =>
    intro i c hi hc0 hc1
    refine ⟨c, hc0, fun k hk => ?_⟩
    obtain ⟨k, rfl⟩ : ∃ m, k = m + 1 := ⟨k - 1, by omega⟩
    simp only [spec_l09Ticks.l0, impl_tourTicks.l0]
    rw [if_neg (by omega), if_neg (by omega)]
    exact ⟨rfl, rfl⟩
  | succ d ih =>
    intro i c hi hc0 hc1
    have hlt : i < o.length := by omega
    have hp : 0 < o.length := by omega
    have hml : (i + 1) % o.length < o.length := Nat.mod_lt _ hp
    have ht : Int.tmod ((i + 1 : Nat) : Int) (o.length : Int) = (((i + 1) % o.length : Nat) : Int) := by rw [Int.tmod_eq_emod_of_nonneg (by omega)]; rfl
    have h1 := ho _ (List.getElem_mem hlt)
    have h2 := ho _ (List.getElem_mem hml)
    have v1 : vdir (rd_T26 l o[i]).f0 (rd_T26 l o[i]).f1 = true := by
      obtain ⟨x, hx⟩ := Int.eq_ofNat_of_zero_le h1.1
      rw [hx] at h1 ⊢
      rw [rd26 l x (by omega)]
      exact List.all_eq_true.1 hv _ (List.getElem_mem _)
    have v2 : vdir (rd_T26 l o[(i + 1) % o.length]).f0 (rd_T26 l o[(i + 1) % o.length]).f1 = true := by
      obtain ⟨x, hx⟩ := Int.eq_ofNat_of_zero_le h2.1
      rw [hx] at h2 ⊢
      rw [rd26 l x (by omega)]
      exact List.all_eq_true.1 hv _ (List.getElem_mem _)
    obtain ⟨s, hs, hs0, hs8⟩ := switch_bd v1 v2
    obtain ⟨r, hr0, hr⟩ := ih (i + 1) (wrap64 (c + s)) (by omega) (by rw [w64 (by omega) (by omega)]; omega) (by rw [w64 (by omega) (by omega)]; omega)
    refine ⟨r, hr0, fun k hk => ?_⟩
    obtain ⟨k, rfl⟩ : ∃ m, k = m + 1 := ⟨k - 1, by omega⟩
    simp only [spec_l09Ticks.l0, impl_tourTicks.l0]
    rw [w64_succ hlt (by omega), ht, rdI o i hlt, rdI o _ hml, qswitch, hs]
    simp only [Option.bind_some]
    rw [if_pos (by omega), if_pos (by omega), if_pos (by omega), if_pos (by omega), if_pos (by omega), if_neg (by omega), if_pos (by omega), if_pos (by omega), if_pos (by omega), if_pos (by omega)]
    rw [if_pos (by omega), if_pos (by omega), if_pos (by omega), if_pos (by omega), if_pos (by omega), if_neg (by omega), if_pos (by omega), if_pos (by omega), if_pos (by omega), if_pos (by omega)]
    exact hr k (by omega)
theorem ticks_f' (l : List S26) (o : List Int) (hv : l.all (fun x => vdir x.f0 x.f1) = true) (ho : ∀ x ∈ o, 0 ≤ x ∧ x < l.length) (hn : o.length ≤ 1000) :
    ∃ r, 0 ≤ r ∧ ∀ k, o.length < k → spec_l09Ticks.f k l o = some r ∧ impl_tourTicks.f k l o = some r := by
  obtain ⟨r, h0, hr⟩ := ticks_loop' l o hv ho hn o.length 0 0 (by omega) (by omega) (by omega)
  exact ⟨r, h0, fun k hk => hr k hk⟩

/-! ### The best of a list of orders -/
def comb (st bt : List Int × Int) : List Int × Int := if st.2 < 0 then bt else if bt.2 < st.2 then bt else st
theorem comb_assoc (st x y : List Int × Int) (hx : 0 ≤ x.2) (hy : 0 ≤ y.2) : comb (comb st x) y = comb st (comb x y) := by
  obtain ⟨xb, x⟩ := x
  obtain ⟨yb, y⟩ := y
  obtain ⟨sb, s⟩ := st
  simp only at hx hy
  simp only [comb]
  by_cases h0 : s < 0
  · simp only [if_pos h0]
  · simp only [if_neg h0]
    by_cases h1 : x < s <;> by_cases h2 : y < x <;> by_cases h3 : y < s <;> by_cases h4 : x < 0 <;> simp only [h0, h1, h2, h3, h4, if_true, if_false] <;> first | rfl | omega
theorem comb_good (n : Nat) (x y : List Int × Int) (hx : 0 ≤ x.2 ∧ x.1.length = n) (hy : 0 ≤ y.2 ∧ y.1.length = n) : 0 ≤ (comb x y).2 ∧ (comb x y).1.length = n := by
  unfold comb
  split
  · exact hy
  · split
    · exact hy
    · exact hx
theorem len_le {α : Type} [DecidableEq α] : ∀ (m l : List α), m.Nodup → (∀ x ∈ m, x ∈ l) → m.length ≤ l.length := by
  intro m
  induction m with
  | nil => intro l _ _; simp
  | cons a m ih =>
    intro l hm hs
    rw [List.nodup_cons] at hm
    have ha : a ∈ l := hs a (List.mem_cons_self ..)
    have hlen : (l.erase a).length = l.length - 1 := List.length_erase_of_mem ha
    have h1 := ih (l.erase a) hm.2 (fun x hx => (List.mem_erase_of_ne (by rintro rfl; exact hm.1 hx)).2 (hs x (List.mem_cons_of_mem _ hx)))
    have h2 := List.length_pos_of_mem ha
    simp only [List.length_cons]
    omega
theorem own_f (l : List Int) (h : l.length < 17592186044416) : spec_l00Own.f l = some l := by
  unfold spec_l00Own.f
  simp [h]
theorem drop_range (n i : Nat) (h : i < n) : (List.range n).drop i = i :: (List.range n).drop (i + 1) := by
  rw [List.drop_eq_getElem_cons (by simpa using h)]
  simp
/-- The fuel that the recursion asks for when m indices lack. -/
def fuel (n m : Nat) : Nat := m * (n + 3) + 2 * n + 5
theorem best_f (l : List S26) (hv : l.all (fun x => vdir x.f0 x.f1) = true) (h7 : l.length ≤ 7) : ∀ (m : Nat) (p : List Int), okO l.length p → p.length + m = l.length →
    ∃ bt : List Int × Int, (0 ≤ bt.2 ∧ bt.1.length = l.length) ∧ (∀ k, fuel l.length m ≤ k → spec_l09Best.f k l p = some bt) ∧ ∀ k, l.length < k → ∀ st, (ordersF l.length m p).foldlM (ostep k l) st = some (comb st bt) := by
  intro m
  induction m with
  | zero =>
    intro p hp hl
    obtain ⟨t, h0, ht⟩ := ticks_f' l p hv hp.2 (by omega)
    refine ⟨(p, t), ⟨h0, by omega⟩, fun k hk => ?_, fun k hk st => ?_⟩
    · unfold fuel at hk
      obtain ⟨k, rfl⟩ : ∃ m, k = m + 1 := ⟨k - 1, by omega⟩
      simp only [spec_l09Best.f]
      rw [if_pos (by omega), own_f p (by omega), (ht k (by omega)).1]
      rfl
    · simp only [ordersF, List.foldlM_cons, List.foldlM_nil, ostep]
      rw [(ht k (by omega)).2]
      simp only [Option.bind_some]
      unfold comb
      by_cases h1 : st.2 < 0
      · rw [if_pos h1, if_pos h1]; rfl
      · rw [if_neg h1, if_neg h1]
        by_cases h2 : t < st.2
        · rw [if_pos h2, if_pos h2]; rfl
        · rw [if_neg h2, if_neg h2]; rfl
  | succ m ih =>
    intro p hp hl
    have loop : ∀ (d i : Nat), i + d = l.length → ((∀ j : Nat, i ≤ j → j < l.length → (j : Int) ∈ p) ∧ (∀ k, fuel l.length m + d + 1 ≤ k → ∀ b t, spec_l09Best.l0 k l p b t (i : Int) = some (b, t)) ∧ (∀ k st, (((List.range l.length).drop i).flatMap (ordNext l.length m p)).foldlM (ostep k l) st = some st)) ∨
        ∃ bt : List Int × Int, (0 ≤ bt.2 ∧ bt.1.length = l.length) ∧ (∀ k, fuel l.length m + d + 1 ≤ k → ∀ b t, spec_l09Best.l0 k l p b t (i : Int) = some (comb (b, t) bt)) ∧ (∀ k, l.length < k → ∀ st, (((List.range l.length).drop i).flatMap (ordNext l.length m p)).foldlM (ostep k l) st = some (comb st bt)) := by
      intro d
      induction d with
      | zero =>
        intro i hi
        refine .inl ⟨fun j h1 h2 => absurd h1 (by omega), fun k hk b t => ?_, fun k st => ?_⟩
        · obtain ⟨k, rfl⟩ : ∃ m, k = m + 1 := ⟨k - 1, by omega⟩
          simp only [spec_l09Best.l0]
          rw [if_neg (by omega)]
        · rw [List.drop_of_length_le (by simp; omega)]
          rfl
      | succ d ihd =>
        intro i hi
        have hlt : i < l.length := by omega
        rw [drop_range _ i hlt, List.flatMap_cons]
        by_cases hm : (i : Int) ∈ p
        · have e : ordNext l.length m p i = [] := by unfold ordNext; rw [if_pos (by simpa using hm)]
          rw [e, List.nil_append]
          have hs : ∀ k, fuel l.length m + d + 2 ≤ k → ∀ b t, ∃ k', fuel l.length m + d + 1 ≤ k' ∧ spec_l09Best.l0 k l p b t (i : Int) = spec_l09Best.l0 k' l p b t ((i + 1 : Nat) : Int) := by
            intro k hk b t
            obtain ⟨k, rfl⟩ : ∃ m, k = m + 1 := ⟨k - 1, by omega⟩
            refine ⟨k, by omega, ?_⟩
            simp only [spec_l09Best.l0]
            rw [if_pos (by omega), has_f p _ (by omega) k (by unfold fuel at hk; omega), w64_succ hlt (by omega)]
            simp [hm]
          rcases ihd (i + 1) (by omega) with ⟨h1, h2, h3⟩ | ⟨bt, h0, h2, h3⟩
          · refine .inl ⟨fun j hj hj' => ?_, fun k hk b t => ?_, h3⟩
            · rcases Nat.eq_or_lt_of_le hj with rfl | h
              · exact hm
              · exact h1 j h hj'
            · obtain ⟨k', hk', e⟩ := hs k (by omega) b t
              rw [e]; exact h2 k' hk' b t
          · refine .inr ⟨bt, h0, fun k hk b t => ?_, h3⟩
            obtain ⟨k', hk', e⟩ := hs k (by omega) b t
            rw [e]; exact h2 k' hk' b t
        · have e : ordNext l.length m p i = ordersF l.length m (p ++ [(i : Int)]) := by unfold ordNext; rw [if_neg (by simpa using hm)]
          rw [e]
          obtain ⟨c, hc0, hc1, hc2⟩ := ih (p ++ [(i : Int)]) ⟨by
            rw [List.nodup_append]
            refine ⟨hp.1, by simp, fun a ha b hb hab => ?_⟩
            simp at hb
            subst hab; subst hb
            exact hm ha, fun x hx => by
              rcases List.mem_append.1 hx with h | h
              · exact hp.2 x h
              · simp at h; omega⟩ (by simp; omega)
          have hs : ∀ k, fuel l.length m + d + 2 ≤ k → ∀ b t, ∃ k', fuel l.length m + d + 1 ≤ k' ∧ spec_l09Best.l0 k l p b t (i : Int) = spec_l09Best.l0 k' l p (comb (b, t) c).1 (comb (b, t) c).2 ((i + 1 : Nat) : Int) := by
            intro k hk b t
            obtain ⟨k, rfl⟩ : ∃ m, k = m + 1 := ⟨k - 1, by omega⟩
            refine ⟨k, by omega, ?_⟩
            simp only [spec_l09Best.l0]
            rw [if_pos (by omega), has_f p _ (by omega) k (by unfold fuel at hk; omega), w64_succ hlt (by omega), own_f p (by omega)]
            simp only [Option.bind_some]
            rw [if_neg (by simpa using hm), if_pos (by omega), hc1 k (by omega)]
            simp only [Option.bind_some, comb]
            by_cases h1 : t < 0
            · rw [if_pos h1, if_pos h1]
            · rw [if_neg h1, if_neg h1]
              by_cases h2 : c.2 < t
              · rw [if_pos h2, if_pos h2]
              · rw [if_neg h2, if_neg h2]
          rcases ihd (i + 1) (by omega) with ⟨h1, h2, h3⟩ | ⟨bt, h0, h2, h3⟩
          · refine .inr ⟨c, hc0, fun k hk b t => ?_, fun k hk st => ?_⟩
            · obtain ⟨k', hk', e⟩ := hs k (by omega) b t
              rw [e]; exact h2 k' hk' _ _
            · rw [List.foldlM_append, hc2 k hk st]
              exact h3 k _
          · refine .inr ⟨comb c bt, comb_good _ _ _ hc0 h0, fun k hk b t => ?_, fun k hk st => ?_⟩
            · obtain ⟨k', hk', e⟩ := hs k (by omega) b t
              rw [e, h2 k' hk' _ _, comb_assoc _ _ _ hc0.1 h0.1]
            · rw [List.foldlM_append, hc2 k hk st, ← comb_assoc _ _ _ hc0.1 h0.1]
              exact h3 k hk _
    rcases loop l.length 0 (by omega) with ⟨h1, -, -⟩ | ⟨bt, h0, h2, h3⟩
    · have := len_le (upto l.length) p (upto_nodup _) (fun x hx => by
        obtain ⟨hx0, hx1⟩ := mem_upto.1 hx
        have := h1 x.toNat (by omega) (by omega)
        rwa [Int.toNat_of_nonneg hx0] at this)
      simp [upto] at this
      omega
    · refine ⟨bt, h0, fun k hk => ?_, h3⟩
      have hf : fuel l.length m + l.length + 2 ≤ k := by unfold fuel at hk ⊢; rw [Nat.succ_mul] at hk; omega
      obtain ⟨k, rfl⟩ : ∃ m, k = m + 1 := ⟨k - 1, by omega⟩
      simp only [spec_l09Best.f]
      rw [if_neg (by omega), show (0 : Int) = ((0 : Nat) : Int) from rfl, h2 k (by omega)]
      rfl
theorem shortest_f (l : List S26) (hn : l.length ≤ 9223372036854775807) : ∃ r : List Int × Int × Bool, r.1.length ≤ 7 ∧ ∀ k, l.length + 1000 < k → spec_ShortestTour.f k l = some r ∧ impl_ShortestTour.f k l = some r := by
  unfold spec_ShortestTour.f impl_ShortestTour.f
  rw [areDirections_f]
  simp only [Option.bind_some]
  cases h : areD l
  · refine ⟨([], 0, false), by simp, fun k hk => ?_⟩
    rw [specDirs_f l hn k (by omega), h]
    exact ⟨rfl, rfl⟩
  · simp only [areD, Bool.and_eq_true, inB_iff] at h
    have h7 : l.length ≤ 7 := by omega
    obtain ⟨bt, h0, h1, h2⟩ := best_f l h.1 h7 (l.length - 1) [0] ⟨by simp, fun x hx => by simp at hx; omega⟩ (by simp; omega)
    refine ⟨(bt.1, bt.2, true), by have := h0.2; simp only; omega, fun k hk => ?_⟩
    have hf : fuel l.length (l.length - 1) ≤ k := by
      unfold fuel
      have : (l.length - 1) * (l.length + 3) ≤ 6 * 10 := Nat.mul_le_mul (by omega) (by omega)
      omega
    have ha : areD l = true := by simp only [areD, Bool.and_eq_true, inB_iff]; exact h
    rw [specDirs_f l hn k (by omega), ha, h2 k (by omega)]
    simp only [Option.bind_some, if_true]
    rw [h1 k hf]
    exact ⟨rfl, rfl⟩

/-! ### The marks -/
theorem markDir_loop : ∀ (d k i : Nat) (x : List S26) (v : Int), i + d = x.length → x.length ≤ 9223372036854775807 → d < k → 0 ≤ v → v + 2 * d ≤ 9223372036854775807 → ∃ y, laws_markDirectionS.l0 k x v (i : Int) = some (v + 2 * d, y) := by
  intro d
  induction d with
  | zero =>
    intro k i x v hi hn hk h0 h1
    obtain ⟨k, rfl⟩ : ∃ m, k = m + 1 := ⟨k - 1, by omega⟩
    simp only [laws_markDirectionS.l0]
    rw [if_neg (by omega)]
    exact ⟨x, by simp⟩
  | succ d ih =>
    intro k i x v hi hn hk h0 h1
    obtain ⟨k, rfl⟩ : ∃ m, k = m + 1 := ⟨k - 1, by omega⟩
    have hlt : i < x.length := by omega
    simp only [laws_markDirectionS.l0]
    rw [if_pos (by omega), if_pos (by omega)]
    simp only [Option.bind_some]
    rw [w64_succ hlt (by omega), w64 (n := v + 1) (by omega) (by omega), w64 (n := v + 1 + 1) (by omega) (by omega)]
    obtain ⟨y, hy⟩ := ih k (i + 1) ((x.set ((i : Int)).toNat (⟨v, (rd_T26 x (i : Int)).f1⟩ : S26)).set ((i : Int)).toNat (⟨(rd_T26 (x.set ((i : Int)).toNat (⟨v, (rd_T26 x (i : Int)).f1⟩ : S26)) (i : Int)).f0, v + 1⟩ : S26)) (v + 1 + 1) (by simp; omega) (by simpa using hn) (by omega) (by omega) (by omega)
    refine ⟨y, ?_⟩
    rw [hy]
    congr 2
    omega
theorem markInt_loop : ∀ (d k i : Nat) (x : List Int), i + d = x.length → d < k → x.length ≤ 1000000 → (∀ j : Nat, j < i → rd x (j : Int) = 1 + j) →
    ∃ y, laws_markInt64S.l0 k x (1 + (i : Int)) (i : Int) = some (1 + (x.length : Int), y) ∧ y.length = x.length ∧ ∀ j : Nat, j < x.length → rd y (j : Int) = 1 + j := by
  intro d
  induction d with
  | zero =>
    intro k i x hi hk hn h
    obtain ⟨k, rfl⟩ : ∃ m, k = m + 1 := ⟨k - 1, by omega⟩
    simp only [laws_markInt64S.l0]
    rw [if_neg (by omega)]
    exact ⟨x, by congr 2; omega, rfl, fun j hj => h j (by omega)⟩
  | succ d ih =>
    intro k i x hi hk hn h
    obtain ⟨k, rfl⟩ : ∃ m, k = m + 1 := ⟨k - 1, by omega⟩
    have hlt : i < x.length := by omega
    simp only [laws_markInt64S.l0]
    rw [if_pos (by omega), if_pos (by omega), w64_succ hlt (by omega), w64 (n := 1 + (i : Int) + 1) (by omega) (by omega)]
    obtain ⟨y, h1, h2, h3⟩ := ih k (i + 1) (x.set ((i : Int)).toNat (1 + (i : Int))) (by simp; omega) (by omega) (by simpa using hn) (fun j hj => by
      rw [rdI _ j (by simp; omega)]
      rcases Nat.lt_or_ge j i with hji | hji
      · rw [List.getElem_set_ne (by simp; omega), ← rdI x j (by omega)]
        exact h j hji
      · obtain rfl : j = i := by omega
        simp)
    refine ⟨y, ?_, by simpa using h2, fun j hj => h3 j (by simpa using hj)⟩
    rw [show (1 + (i : Int) + 1) = 1 + ((i + 1 : Nat) : Int) by omega, h1]
    simp
theorem held_loop (x : List Int) (hn : x.length ≤ 1000000) (h : ∀ j : Nat, j < x.length → rd x (j : Int) = 1 + j) : ∀ (d k i : Nat), i + d = x.length → d < k →
    laws_heldInt64S.l0 k x (1 + (i : Int)) (i : Int) = some (1 + (x.length : Int)) := by
  intro d
  induction d with
  | zero =>
    intro k i hi hk
    obtain ⟨k, rfl⟩ : ∃ m, k = m + 1 := ⟨k - 1, by omega⟩
    simp only [laws_heldInt64S.l0]
    rw [if_neg (by omega)]
    congr 2
    omega
  | succ d ih =>
    intro k i hi hk
    obtain ⟨k, rfl⟩ : ∃ m, k = m + 1 := ⟨k - 1, by omega⟩
    have hlt : i < x.length := by omega
    simp only [laws_heldInt64S.l0]
    rw [if_pos (by omega), if_pos (by omega), h i hlt, if_pos rfl, w64_succ hlt (by omega), w64 (n := 1 + (i : Int) + 1) (by omega) (by omega), show (1 + (i : Int) + 1) = 1 + ((i + 1 : Nat) : Int) by omega]
    exact ih k (i + 1) (by omega) (by omega)

theorem shortestTour (l : List S23) (hn : l.length ≤ 9223372036854775807) : ∃ k, laws_FnExactShortestTour.f k l = some true := by
  refine ⟨l.length + 2000, ?_⟩
  unfold laws_FnExactShortestTour.f
  obtain ⟨r, hr, h⟩ := szDirS_f l 1048576 (by omega) hn
  rw [hr]
  simp only [Option.bind_some]
  by_cases h0 : r < 0
  · rw [if_pos h0]
  rw [if_neg h0]
  obtain ⟨h1, h2⟩ := h.resolve_left h0
  rw [toDirS_f l (by omega) _ (by omega)]
  obtain ⟨⟨o, t, z⟩, ho, hst⟩ := shortest_f (l.map convD) (by simpa using hn)
  simp only at ho
  have hi : ∀ k, l.length + 1900 < k → impl_ShortestTour.f k (l.map convD) = some (o, t, z) := fun k hk => (hst k (by simp; omega)).2
  simp only [Option.bind_some]
  rw [(hst (l.length + 2000) (by simp)).1, hi (l.length + 2000) (by omega)]
  simp only [Option.bind_some]
  rw [eqIntS_f o (by omega) _ (by omega)]
  simp only [Option.bind_some, if_true, bne_self_eq_false]
  simp only [laws_FnExactShortestTour.j0, Bool.false_eq_true, if_false]
  rw [toDirS_f l (by omega) _ (by omega)]
  simp only [Option.bind_some]
  rw [eqDirS_f _ (by simpa using hn) _ (by simp)]
  obtain ⟨y, hy⟩ := markDir_loop (l.map convD).length (l.length + 1999) 0 (l.map convD) 1 (by omega) (by simpa using hn) (by simp) (by omega) (by simp; omega)
  rw [show ((0 : Nat) : Int) = 0 from rfl] at hy
  simp only [Option.bind_some, if_true, laws_markDirectionS.f]
  rw [hy]
  simp only [Option.bind_some]
  rw [if_neg (by omega), eqIntS_f o (by omega) _ (by omega)]
  simp only [Option.bind_some, if_true, bne_self_eq_false, laws_FnExactShortestTour.j1, Bool.false_eq_true, if_false]
  obtain ⟨y', hy1, hy2, hy3⟩ := markInt_loop o.length (l.length + 1998) 0 o (by omega) (by omega) (by omega) (fun j hj => absurd hj (by omega))
  have hh := held_loop y' (by omega) (fun j hj => hy3 j (by omega))
  rw [show (1 : Int) + ((0 : Nat) : Int) = 1 from rfl, show ((0 : Nat) : Int) = 0 from rfl] at hy1
  simp only [laws_markInt64S.f, laws_heldInt64S.f]
  rw [hy1]
  simp only [Option.bind_some]
  have hh1 := hh o.length (l.length + 1998) 0 (by omega) (by omega)
  have hh2 := hh o.length (l.length + 1997) 0 (by omega) (by omega)
  rw [show (1 : Int) + ((0 : Nat) : Int) = 1 from rfl, show ((0 : Nat) : Int) = 0 from rfl, hy2] at hh1 hh2
  rw [hh1]
  simp only [Option.bind_some]
  rw [if_neg (by omega), if_pos True.intro, toDirS_f l (by omega) _ (by omega)]
  simp only [Option.bind_some]
  rw [hi (l.length + 1998) (by omega)]
  simp only [Option.bind_some]
  rw [eqIntS_f o (by omega) _ (by omega)]
  simp only [Option.bind_some, if_true, bne_self_eq_false, laws_FnExactShortestTour.j2, Bool.false_eq_true, if_false, laws_heldInt64S.f]
  rw [hh2]
  simp only [Option.bind_some]
  rw [if_neg (by omega), if_pos True.intro]
end Go.Proofs.Ytekcngoemeadlaa.PlainT
