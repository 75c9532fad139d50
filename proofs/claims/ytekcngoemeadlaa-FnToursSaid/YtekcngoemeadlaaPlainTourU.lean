/-
  Tours, the program's side alone: orders, their ticks, the best of them.
-/
import Derived.Test.YtekcngoemeadlaaPlainDraw
import Derived.Test.YtekcngoemeadlaaUx4
import Derived.Test.YtekcngoemeadlaaUx2
namespace Go.Proofs.Ytekcngoemeadlaa.PlainU
open Go.RowKit Go.Proofs.YtekcngoemeadlaaW.PrintWords Go.Proofs.YtekcngoemeadlaaW.PrintLast Go.Proofs.YtekcngoemeadlaaW.PrintMore
open Go.Proofs.Ytekcngoemeadlaa.U

theorem w64_succ {i : Nat} {n : Nat} (h : i < n) (hn : n ≤ 9223372036854775807) : wrap64 ((i : Int) + 1) = ((i + 1 : Nat) : Int) := by unfold wrap64; omega
def inB (a b c : Int) : Bool := decide (b ≤ a) && decide (a ≤ c)
theorem within_f (a b c : Int) : impl_within.f a b c = some (inB a b c) := by
  unfold impl_within.f inB
  by_cases h : a ≥ b
  · rw [if_pos h]; simp [h]
  · rw [if_neg h]; simp [h]
theorem inB_iff (a b c : Int) : inB a b c = true ↔ b ≤ a ∧ a ≤ c := by simp [inB]
def vdir (a b : Int) : Bool := inB a (-64) 64 && (inB b (-64) 64 && decide (a * a + b * b ≤ 4096))
theorem sq_le {a : Int} (h0 : -64 ≤ a) (h1 : a ≤ 64) : 0 ≤ a * a ∧ a * a ≤ 4096 := by
  constructor
  · rcases Int.le_total 0 a with h | h
    · exact Int.mul_nonneg h h
    · have := Int.mul_nonneg (show 0 ≤ -a by omega) (show 0 ≤ -a by omega)
      rwa [Int.neg_mul_neg] at this
  · have : (64 - a) * (64 + a) ≥ 0 := Int.mul_nonneg (by omega) (by omega)
    have e : (64 - a) * (64 + a) = 4096 - a * a := by
      rw [Int.sub_mul, Int.mul_add, Int.mul_add, Int.mul_comm a 64]; omega
    omega
theorem vdir_f (a b : Int) : impl_ValidDirection.f a b = some (vdir a b) := by
  unfold impl_ValidDirection.f vdir
  rw [within_f, within_f]
  simp only [Option.bind_some]
  cases ha : inB a (-64) 64
  · simp
  · cases hb : inB b (-64) 64
    · simp
    · have h1 := (inB_iff _ _ _).1 ha
      have h2 := (inB_iff _ _ _).1 hb
      have s1 := sq_le h1.1 h1.2
      have s2 := sq_le h2.1 h2.2
      rw [w64 (n := a * a) (by omega) (by omega), w64 (n := b * b) (by omega) (by omega), w64 (by omega) (by omega)]
      simp
theorem vdir_bd {a b : Int} (h : vdir a b = true) : -64 ≤ a ∧ a ≤ 64 ∧ -64 ≤ b ∧ b ≤ 64 := by
  simp only [vdir, Bool.and_eq_true, inB_iff] at h
  omega
theorem rdI (l : List Int) (i : Nat) (h : i < l.length) : rd l (i : Int) = l[i] := by
  unfold rd
  simp [List.getD_eq_getElem?_getD, List.getElem?_eq_getElem h]
theorem rd26 (l : List S26) (i : Nat) (h : i < l.length) : rd_T26 l (i : Int) = l[i] := by
  unfold rd_T26
  simp [List.getD_eq_getElem?_getD, List.getElem?_eq_getElem h]
def areD (l : List S26) : Bool := l.all (fun x => vdir x.f0 x.f1) && inB (l.length : Int) 1 7
theorem vldD_eq (x : S26) : vldD x = vdir x.f0 x.f1 := by unfold vldD; rw [vdir_f]; rfl
theorem areDirections_f (l : List S26) : impl_areDirections.f l = some (areD l) := by
  unfold impl_areDirections.f areD
  rw [within_f]
  simp only [Option.bind_some, show vldD = fun x => vdir x.f0 x.f1 from funext vldD_eq]
  cases inB (l.length : Int) 1 7 <;> simp
theorem mem_drop_step (l : List Int) (v : Int) (i : Nat) (h : i < l.length) : decide (v ∈ l.drop i) = (decide (v = l[i]) || decide (v ∈ l.drop (i + 1))) := by
  rw [← Bool.decide_or, decide_eq_decide, List.drop_eq_getElem_cons h, List.mem_cons]
theorem index_loop (l : List Int) (v : Int) (hn : l.length ≤ 9223372036854775807) : ∀ (d k i : Nat), i + d = l.length → d < k →
    ∃ r, slices_Index_int64_int64.l0 k l v (l.length : Int) (i : Int) = some r ∧ decide (r ≥ 0) = decide (v ∈ l.drop i) := by
  intro d
  induction d with
  | zero =>
    intro k i hi hk
    obtain ⟨k, rfl⟩ : ∃ m, k = m + 1 := ⟨k - 1, by omega⟩
    simp only [slices_Index_int64_int64.l0]
    rw [if_neg (by omega), List.drop_of_length_le (by omega)]
    exact ⟨_, rfl, by simp⟩
  | succ d ih =>
    intro k i hi hk
    obtain ⟨k, rfl⟩ : ∃ m, k = m + 1 := ⟨k - 1, by omega⟩
    have hlt : i < l.length := by omega
    simp only [slices_Index_int64_int64.l0]
    rw [if_pos (by omega), if_pos (by omega), if_pos (by omega), rdI l i hlt, w64_succ hlt hn, mem_drop_step l v i hlt]
    by_cases h : v = l[i]
    · rw [if_pos h, decide_eq_true h]; exact ⟨_, rfl, by simp⟩
    · rw [if_neg h]
      obtain ⟨r, h1, h2⟩ := ih k (i + 1) (by omega) (by omega)
      exact ⟨r, h1, by rw [h2, decide_eq_false h]; rfl⟩
theorem contains_f (l : List Int) (v : Int) (hn : l.length ≤ 9223372036854775807) (k : Nat) (hk : l.length < k) : slices_Contains_int64_int64.f k l v = some (decide (v ∈ l)) := by
  obtain ⟨r, h1, h2⟩ := index_loop l v hn l.length k 0 (by omega) hk
  unfold slices_Contains_int64_int64.f slices_Index_int64_int64.f
  rw [show ((0 : Nat) : Int) = 0 from rfl] at h1
  rw [h1]
  simp only [Option.bind_some, h2, List.drop_zero]
theorem once_of {α : Type} [DecidableEq α] : ∀ (m l : List α), m.Nodup → (∀ x ∈ m, x ∈ l) → l.length ≤ m.length → l.Nodup ∧ ∀ x ∈ l, x ∈ m := by
  intro m
  induction m with
  | nil =>
    intro l _ _ h
    have : l = [] := List.eq_nil_of_length_eq_zero (by simpa using h)
    subst this
    exact ⟨List.nodup_nil, fun x hx => hx⟩
  | cons a m ih =>
    intro l hm hs hl
    rw [List.nodup_cons] at hm
    have ha : a ∈ l := hs a (List.mem_cons_self ..)
    have hlen : (l.erase a).length = l.length - 1 := List.length_erase_of_mem ha
    obtain ⟨h1, h2⟩ := ih (l.erase a) hm.2 (fun x hx => (List.mem_erase_of_ne (by rintro rfl; exact hm.1 hx)).2 (hs x (List.mem_cons_of_mem _ hx))) (by rw [hlen]; simp at hl; omega)
    have hp := List.perm_cons_erase ha
    refine ⟨hp.nodup_iff.2 (List.nodup_cons.2 ⟨fun h => hm.1 (h2 _ h), h1⟩), fun x hx => ?_⟩
    rcases List.mem_cons.1 (hp.mem_iff.1 hx) with rfl | h
    · exact List.mem_cons_self ..
    · exact List.mem_cons_of_mem _ (h2 _ h)
def upto (n : Nat) : List Int := (List.range n).map (fun (i : Nat) => (i : Int))
theorem upto_nodup (n : Nat) : (upto n).Nodup := by
  unfold upto
  refine List.pairwise_map.2 (List.nodup_range.imp ?_)
  intro a b h; omega
theorem mem_upto {n : Nat} {x : Int} : x ∈ upto n ↔ 0 ≤ x ∧ x < n := by
  unfold upto
  simp only [List.mem_map, List.mem_range]
  constructor
  · rintro ⟨a, h, rfl⟩; omega
  · rintro ⟨h0, h1⟩; exact ⟨x.toNat, by omega, by omega⟩
def okO (n : Nat) (o : List Int) : Prop := o.Nodup ∧ ∀ x ∈ o, 0 ≤ x ∧ x < n
theorem okO_iff (n : Nat) (o : List Int) (h : o.length = n) : okO n o ↔ ∀ j : Nat, j < n → (j : Int) ∈ o := by
  constructor
  · rintro ⟨h1, h2⟩ j hj
    exact (once_of o (upto n) h1 (fun x hx => mem_upto.2 (h2 x hx)) (by simp [upto, h])).2 _ (mem_upto.2 ⟨by omega, by omega⟩)
  · intro hj
    obtain ⟨h1, h2⟩ := once_of (upto n) o (upto_nodup n) (fun x hx => by
      obtain ⟨h0, h1⟩ := mem_upto.1 hx
      have := hj x.toNat (by omega)
      rwa [Int.toNat_of_nonneg h0] at this) (by simp [upto, h])
    exact ⟨h1, fun x hx => mem_upto.1 (h2 x hx)⟩
open Classical in
theorem implTour_loop (l : List S26) (o : List Int) (hl : o.length = l.length) (h7 : l.length ≤ 1000) (r : Int) (hr : okO l.length o → ∀ k, o.length < k → impl_tourTicks.f k l o = some r) : ∀ (d k i : Nat), i + d = o.length → d + o.length + 1 < k → (∀ j : Nat, j < i → (j : Int) ∈ o) →
    impl_TourTicks.l0 k l o (o.length : Int) (i : Int) = some (if okO l.length o then (r, true) else (0, false)) := by
  intro d
  induction d with
  | zero =>
    intro k i hi hk h0
    obtain ⟨k, rfl⟩ : ∃ m, k = m + 1 := ⟨k - 1, by omega⟩
    have h1 : okO l.length o := (okO_iff _ o hl).2 (fun j hj => h0 j (by omega))
    simp only [impl_TourTicks.l0]
    rw [if_neg (by omega), hr h1 k (by omega), if_pos h1]
    rfl
  | succ d ih =>
    intro k i hi hk h0
    obtain ⟨k, rfl⟩ : ∃ m, k = m + 1 := ⟨k - 1, by omega⟩
    have hlt : i < o.length := by omega
    simp only [impl_TourTicks.l0]
    rw [if_pos (by omega), contains_f _ _ (by omega) _ (by omega)]
    simp only [Option.bind_some]
    by_cases hm : (i : Int) ∈ o
    · rw [if_pos (by simpa using hm), w64_succ hlt (by omega)]
      refine ih k (i + 1) (by omega) (by omega) (fun j hj => ?_)
      rcases Nat.lt_or_ge j i with h | h
      · exact h0 j h
      · obtain rfl : j = i := by omega
        exact hm
    · rw [if_neg (by simpa using hm), if_neg (fun h => hm ((okO_iff _ o hl).1 h i (by omega)))]
/-! ### Ticks, the program's side -/
theorem iswitch_bd {a b c d : Int} (h1 : vdir a b = true) (h2 : vdir c d = true) : ∃ r, impl_switchTicks.f a b c d = some r ∧ 0 ≤ r ∧ r ≤ 8 := by
  have h1 := vdir_bd h1
  have h2 := vdir_bd h2
  unfold impl_switchTicks.f impl_far.f
  simp only [Option.bind_some]
  refine ⟨_, rfl, ?_⟩
  rw [w64 (n := a - c) (by omega) (by omega), w64 (n := b - d) (by omega) (by omega), w64 (n := -(a - c)) (by omega) (by omega), w64 (n := -(b - d)) (by omega) (by omega)]
  obtain ⟨m, hm, h0, h128⟩ : ∃ m, mx (mx (a - c) (-(a - c))) (mx (b - d) (-(b - d))) = m ∧ 0 ≤ m ∧ m ≤ 128 := by
    refine ⟨_, rfl, ?_⟩
    unfold mx
    constructor
    · split <;> split <;> split <;> omega
    · split <;> split <;> split <;> omega
  rw [hm, w64 (n := m + 15) (by omega) (by omega)]
  have e : Int.tdiv (m + 15) 16 = (m + 15) / 16 := Int.tdiv_eq_ediv_of_nonneg (by omega)
  rw [e, w64 (by omega) (by omega)]
  omega
theorem iticks_loop (l : List S26) (o : List Int) (hv : l.all (fun x => vdir x.f0 x.f1) = true) (ho : ∀ x ∈ o, 0 ≤ x ∧ x < l.length) (hn : o.length ≤ 1000) : ∀ (d i : Nat) (c : Int), i + d = o.length → 0 ≤ c → c ≤ 8 * i →
    ∃ r, 0 ≤ r ∧ ∀ k, d < k → impl_tourTicks.l0 k l o c o (o.length : Int) (i : Int) = some r := by
  intro d
  induction d with
  | zero =>
    intro i c hi hc0 hc1
    refine ⟨c, hc0, fun k hk => ?_⟩
    obtain ⟨k, rfl⟩ : ∃ m, k = m + 1 := ⟨k - 1, by omega⟩
    simp only [impl_tourTicks.l0]
    rw [if_neg (by omega)]
  | succ d ih =>
    intro i c hi hc0 hc1
    have hlt : i < o.length := by omega
    have hp : 0 < o.length := by omega
    have hml : (i + 1) % o.length < o.length := Nat.mod_lt _ hp
    have ht : Int.tmod ((i + 1 : Nat) : Int) (o.length : Int) = (((i + 1) % o.length : Nat) : Int) := by rw [Int.tmod_eq_emod_of_nonneg (by omega)]; rfl
    have h1 := ho _ (List.getElem_mem hlt)
    have h2 := ho _ (List.getElem_mem hml)
    have v1 : vdir (rd_T26 l o[i]).f0 (rd_T26 l o[i]).f1 = true := by
      obtain ⟨x, hx⟩ := Int.eq_ofNat_of_zero_le h1.1
      rw [hx] at h1 ⊢
      rw [rd26 l x (by omega)]
      exact List.all_eq_true.1 hv _ (List.getElem_mem _)
    have v2 : vdir (rd_T26 l o[(i + 1) % o.length]).f0 (rd_T26 l o[(i + 1) % o.length]).f1 = true := by
      obtain ⟨x, hx⟩ := Int.eq_ofNat_of_zero_le h2.1
      rw [hx] at h2 ⊢
      rw [rd26 l x (by omega)]
      exact List.all_eq_true.1 hv _ (List.getElem_mem _)
    obtain ⟨s, hs, hs0, hs8⟩ := iswitch_bd v1 v2
    obtain ⟨r, hr0, hr⟩ := ih (i + 1) (wrap64 (c + s)) (by omega) (by rw [w64 (by omega) (by omega)]; omega) (by rw [w64 (by omega) (by omega)]; omega)
    refine ⟨r, hr0, fun k hk => ?_⟩
    obtain ⟨k, rfl⟩ : ∃ m, k = m + 1 := ⟨k - 1, by omega⟩
    simp only [impl_tourTicks.l0]
    rw [w64_succ hlt (by omega), ht, rdI o i hlt, rdI o _ hml, hs]
    simp only [Option.bind_some]
    rw [if_pos (by omega), if_pos (by omega), if_pos (by omega), if_pos (by omega), if_pos (by omega), if_neg (by omega), if_pos (by omega), if_pos (by omega), if_pos (by omega), if_pos (by omega)]
    exact hr k (by omega)
theorem iticks_f (l : List S26) (o : List Int) (hv : l.all (fun x => vdir x.f0 x.f1) = true) (ho : ∀ x ∈ o, 0 ≤ x ∧ x < l.length) (hn : o.length ≤ 1000) :
    ∃ r, 0 ≤ r ∧ ∀ k, o.length < k → impl_tourTicks.f k l o = some r := by
  obtain ⟨r, h0, hr⟩ := iticks_loop l o hv ho hn o.length 0 0 (by omega) (by omega) (by omega)
  exact ⟨r, h0, fun k hk => hr k hk⟩
/-! ### The orders that begin with some indices -/
theorem ordersF_mem (n : Nat) : ∀ (m : Nat) (p o : List Int), okO n p → p.length + m = n → (o ∈ ordersF n m p ↔ okO n o ∧ o.length = n ∧ o.take p.length = p) := by
  intro m
  induction m with
  | zero =>
    intro p o hp hl
    simp only [ordersF, List.mem_singleton]
    constructor
    · rintro rfl
      exact ⟨hp, by omega, List.take_length⟩
    · rintro ⟨-, h1, h2⟩
      rw [List.take_of_length_le (by omega)] at h2
      exact h2
  | succ m ih =>
    intro p o hp hl
    simp only [ordersF, List.mem_flatMap, List.mem_range]
    have hok : ∀ i : Nat, i < n → (i : Int) ∉ p → okO n (p ++ [(i : Int)]) := by
      intro i hi hm
      refine ⟨?_, fun x hx => ?_⟩
      · rw [List.nodup_append]
        refine ⟨hp.1, by simp, fun a ha b hb hab => ?_⟩
        simp at hb
        subst hab; subst hb
        exact hm ha
      · rcases List.mem_append.1 hx with h | h
        · exact hp.2 x h
        · simp at h; omega
    constructor
    · rintro ⟨i, hi, h⟩
      by_cases hm : (i : Int) ∈ p
      · rw [if_pos (by simpa using hm)] at h; cases h
      · rw [if_neg (by simpa using hm)] at h
        obtain ⟨h1, h2, h3⟩ := (ih (p ++ [(i : Int)]) o (hok i hi hm) (by simp; omega)).1 h
        refine ⟨h1, h2, ?_⟩
        have := congrArg (List.take p.length) h3
        rw [List.take_take, List.take_left'] at this
        · rwa [Nat.min_eq_left (by simp)] at this
        · rfl
    · rintro ⟨h1, h2, h3⟩
      have hlt : p.length < o.length := by omega
      have hr := h1.2 _ (List.getElem_mem hlt)
      have hnm : o[p.length] ∉ p := by
        have hnd := h1.1
        rw [← List.take_append_drop p.length o, List.drop_eq_getElem_cons hlt, List.nodup_append] at hnd
        intro hm
        exact hnd.2.2 _ (by rw [h3]; exact hm) _ (List.mem_cons_self ..) rfl
      obtain ⟨i, hi⟩ := Int.eq_ofNat_of_zero_le hr.1
      refine ⟨i, by omega, ?_⟩
      rw [hi] at hnm
      rw [if_neg (by simpa using hnm)]
      refine (ih (p ++ [(i : Int)]) o (hok i (by omega) hnm) (by simp; omega)).2 ⟨h1, h2, ?_⟩
      rw [List.length_append, List.length_singleton, List.take_succ_eq_append_getElem hlt, h3, hi]
/-! ### The best of the orders -/
def stepT (T : List Int → Int) (st : List Int × Int) (o : List Int) : List Int × Int := if st.2 < 0 then (o, T o) else if T o < st.2 then (o, T o) else st
theorem fold_pure (k : Nat) (l : List S26) (T : List Int → Int) : ∀ (L : List (List Int)) (st : List Int × Int), (∀ o ∈ L, impl_tourTicks.f k l o = some (T o)) → L.foldlM (ostep k l) st = some (L.foldl (stepT T) st) := by
  intro L
  induction L with
  | nil => intro st _; rfl
  | cons o L ih =>
    intro st h
    rw [List.foldlM_cons, List.foldl_cons]
    have e : ostep k l st o = some (stepT T st o) := by
      unfold ostep stepT
      rw [h o (List.mem_cons_self ..)]
      simp only [Option.bind_some]
      split
      · rfl
      · split <;> rfl
    rw [e]
    exact ih _ (fun x hx => h x (List.mem_cons_of_mem _ hx))
theorem fold_best (T : List Int → Int) (hT : ∀ o, 0 ≤ T o) : ∀ (L : List (List Int)) (st : List Int × Int), 0 ≤ st.2 →
    0 ≤ (L.foldl (stepT T) st).2 ∧ (L.foldl (stepT T) st).2 ≤ st.2 ∧ (∀ o ∈ L, (L.foldl (stepT T) st).2 ≤ T o) ∧ (L.foldl (stepT T) st = st ∨ (L.foldl (stepT T) st).1 ∈ L ∧ (L.foldl (stepT T) st).2 = T (L.foldl (stepT T) st).1) := by
  intro L
  induction L with
  | nil => intro st h; exact ⟨h, Int.le_refl _, by simp, .inl rfl⟩
  | cons o L ih =>
    intro st h
    have h0 := hT o
    rw [List.foldl_cons]
    by_cases h2 : T o < st.2
    · have e : stepT T st o = (o, T o) := by unfold stepT; rw [if_neg (by omega), if_pos h2]
      rw [e]
      obtain ⟨a, b, c, d⟩ := ih (o, T o) h0
      refine ⟨a, by simp only at b; omega, fun x hx => ?_, .inr ?_⟩
      · rcases List.mem_cons.1 hx with rfl | hx
        · exact b
        · exact c x hx
      · rcases d with d | ⟨d1, d2⟩
        · rw [d]; exact ⟨List.mem_cons_self .., rfl⟩
        · exact ⟨List.mem_cons_of_mem _ d1, d2⟩
    · have e : stepT T st o = st := by unfold stepT; rw [if_neg (by omega), if_neg h2]
      rw [e]
      obtain ⟨a, b, c, d⟩ := ih st h
      refine ⟨a, b, fun x hx => ?_, ?_⟩
      · rcases List.mem_cons.1 hx with rfl | hx
        · omega
        · exact c x hx
      · rcases d with d | ⟨d1, d2⟩
        · exact .inl d
        · exact .inr ⟨List.mem_cons_of_mem _ d1, d2⟩
open Classical in
theorem tour_val (l : List S26) (ha : areD l = true) (o : List Int) (r : Int) (h1 : okO l.length o) (h2 : o.length = l.length) (h7 : l.length ≤ 7) (hr : ∀ k, o.length < k → impl_tourTicks.f k l o = some r) (k : Nat) (hk : 100 < k) : impl_TourTicks.f k l o = some (r, true) := by
  unfold impl_TourTicks.f
  rw [areDirections_f, ha]
  obtain ⟨k, rfl⟩ : ∃ m, k = m + 1 := ⟨k - 1, by omega⟩
  have hne : ((o.length : Int) != (l.length : Int)) = false := by simp [h2]
  simp only [Option.bind_some, impl_TourTicks.j0, if_true, hne, Bool.false_eq_true, if_false]
  have := implTour_loop l o h2 (by omega) r (fun _ => hr) o.length k 0 (by omega) (by omega) (by simp)
  rw [if_pos h1] at this
  exact this
/-- Of directions: the best order, what both searches answer of it, and that no other order that begins with 0 has fewer ticks. -/
theorem shortest_best (l : List S26) (ha : areD l = true) : ∃ (b : List Int) (t : Int), okO l.length b ∧ b.length = l.length ∧ b.take 1 = [0] ∧ ∀ k, 2000 < k → impl_ShortestTour.f k l = some (b, t, true) ∧ impl_TourTicks.f k l b = some (t, true) ∧
    ∀ o, okO l.length o → o.length = l.length → o.take 1 = [0] → ∃ r, impl_TourTicks.f k l o = some (r, true) ∧ t ≤ r := by
  have ha' := ha
  simp only [areD, Bool.and_eq_true, inB_iff] at ha'
  obtain ⟨hv, h7⟩ := ha'
  have h7 : 1 ≤ l.length ∧ l.length ≤ 7 := by omega
  have hT : ∀ o : List Int, ∃ T : Int, 0 ≤ T ∧ (okO l.length o → o.length = l.length → ∀ k, o.length < k → impl_tourTicks.f k l o = some T) := by
    intro o
    by_cases h : (∀ x ∈ o, 0 ≤ x ∧ x < l.length) ∧ o.length = l.length
    · obtain ⟨r, h0, hr⟩ := iticks_f l o hv h.1 (by omega)
      exact ⟨r, h0, fun _ _ k hk => hr k hk⟩
    · exact ⟨0, by omega, fun h1 h2 => absurd ⟨h1.2, h2⟩ h⟩
  obtain ⟨T, hTT⟩ : ∃ T : List Int → Int, ∀ o, 0 ≤ T o ∧ (okO l.length o → o.length = l.length → ∀ k, o.length < k → impl_tourTicks.f k l o = some (T o)) := ⟨fun o => Classical.choose (hT o), fun o => Classical.choose_spec (hT o)⟩
  have hmem := fun o => ordersF_mem l.length (l.length - 1) [0] o ⟨by simp, fun x hx => by simp at hx; omega⟩ (by simp; omega)
  have hu : upto l.length ∈ ordersF l.length (l.length - 1) [0] := by
    refine (hmem _).2 ⟨⟨upto_nodup _, fun x hx => mem_upto.1 hx⟩, by simp [upto], ?_⟩
    obtain ⟨m, hm⟩ : ∃ m, l.length = m + 1 := ⟨l.length - 1, by omega⟩
    rw [hm]
    simp [upto, List.range_succ_eq_map]
  obtain ⟨o0, L, hL⟩ : ∃ o0 L, ordersF l.length (l.length - 1) [0] = o0 :: L := by
    cases h : ordersF l.length (l.length - 1) [0] with
    | nil => rw [h] at hu; cases hu
    | cons a b => exact ⟨a, b, rfl⟩
  rw [hL] at hmem
  obtain ⟨f0, f1, f2, f3⟩ := fold_best T (fun o => (hTT o).1) L (o0, T o0) (hTT o0).1
  have hst : (o0 :: L).foldl (stepT T) ([], -1) = L.foldl (stepT T) (o0, T o0) := by
    rw [List.foldl_cons]; rfl
  generalize hs : L.foldl (stepT T) (o0, T o0) = st at *
  have hb : st.1 ∈ o0 :: L ∧ st.2 = T st.1 := by
    rcases f3 with h | ⟨h1, h2⟩
    · rw [h]; exact ⟨List.mem_cons_self .., rfl⟩
    · exact ⟨List.mem_cons_of_mem _ h1, h2⟩
  obtain ⟨b1, b2, b3⟩ := (hmem _).1 hb.1
  refine ⟨st.1, st.2, b1, b2, b3, fun k hk => ⟨?_, ?_, fun o o1 o2 o3 => ⟨T o, ?_, ?_⟩⟩⟩
  · unfold impl_ShortestTour.f
    rw [areDirections_f, ha, hL]
    simp only [Option.bind_some, if_true]
    rw [fold_pure k l T (o0 :: L) ([], -1) (fun o ho => by
      obtain ⟨h1, h2, -⟩ := (hmem o).1 ho
      exact (hTT o).2 h1 h2 k (by omega)), hst]
    rfl
  · rw [hb.2]
    exact tour_val l ha st.1 (T st.1) b1 b2 h7.2 ((hTT _).2 b1 b2) k (by omega)
  · exact tour_val l ha o (T o) o1 o2 h7.2 ((hTT _).2 o1 o2) k (by omega)
  · rcases List.mem_cons.1 ((hmem o).2 ⟨o1, o2, o3⟩) with rfl | h
    · exact f1
    · exact f2 o h
end Go.Proofs.Ytekcngoemeadlaa.PlainU
