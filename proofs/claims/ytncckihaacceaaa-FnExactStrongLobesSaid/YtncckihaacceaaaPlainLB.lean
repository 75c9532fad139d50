/-
  Insertion sort, blocks that change places, rotation.
-/
import Derived.Test.YtncckihaacceaaaPlainLA
namespace Go.Proofs.Ytncckihaacceaaa.PlainL
open Go.RowKit Go.Proofs.YtncckihaacceaaaW.PrintWords Go.Proofs.YtncckihaacceaaaW.PrintLast Go.Proofs.YtncckihaacceaaaW.PrintMore
open Go.Proofs.Ytncckihaacceaaa.L Go.Proofs.Ytncckihaacceaaa.LOrder

theorem snoc_of {T : List Int} {n : Nat} (h : T.length = n + 1) : ∃ T' y, T = T' ++ [y] ∧ T'.length = n := by
  rcases List.eq_nil_or_concat T with rfl | ⟨T', y, rfl⟩
  · simp at h
  · exact ⟨T', y, by simp, by simpa using h⟩
/-- One number comes to its place. -/
theorem ins_l1 {v : List Nat} {P : List Int → Prop} (A Z : List Int) (x : Int) (a b i : Int) (ha : a = (A.length : Int)) :
    ∀ (n : Nat) (T U : List Int) (j : Int), T.length = n → j = a + (T.length : Int) → Ok v (T ++ x :: U) → Srt v (T ++ U) → (∀ u, u ∈ U → Bef v x u) → (∀ t, t ∈ T → t < x) → (A ++ (T ++ x :: U) ++ Z).length < 1073741824 →
      (∀ s, s.Perm (T ++ x :: U) → Srt v s → Ends (fun k => slices_insertionSortCmpFunc_int64.l0 k (A ++ s ++ Z) a b v (wrap64 (i + 1))) P) →
      Ends (fun k => slices_insertionSortCmpFunc_int64.l1 k (A ++ (T ++ x :: U) ++ Z) a b v i j) P := by
  intro n
  induction n with
  | zero =>
    intro T U j hn hj hok hs hu ht hl H
    obtain rfl := List.length_eq_zero_iff.1 hn
    refine Ends.step (h := fun k => slices_insertionSortCmpFunc_int64.l0 k (A ++ (x :: U) ++ Z) a b v (wrap64 (i + 1))) (fun k => ?_) (H _ (List.Perm.refl _) ?_)
    · simp only [slices_insertionSortCmpFunc_int64.l1]
      rw [if_neg (by simp at hj; omega)]
      rfl
    · exact List.pairwise_cons.2 ⟨hu, by simpa using hs⟩
  | succ n ih =>
    intro T U j hn hj hok hs hu ht hl H
    obtain ⟨T', y, rfl, hn'⟩ := snoc_of hn
    have hx : x ∈ (T' ++ [y]) ++ x :: U := by simp
    have hy : y ∈ (T' ++ [y]) ++ x :: U := by simp
    obtain ⟨c, hc, hc2⟩ := cmp_f hok hx hy
    have e0 : A ++ ((T' ++ [y]) ++ x :: U) ++ Z = (A ++ T') ++ y :: x :: (U ++ Z) := by simp
    have hlen : (((A ++ T') ++ y :: x :: (U ++ Z)).length : Int) = (A.length : Int) + (T'.length : Int) + 2 + (U.length : Int) + (Z.length : Int) := by simp; omega
    have hj1 : j = ((A ++ T').length : Int) + 1 := by simp at hj ⊢; omega
    have hl1 : (A ++ T').length < 1073741824 := by simp at hl ⊢; omega
    have hw : wrap64 (j - 1) = j - 1 := w64 (by omega) (by omega)
    have e1 : rd ((A ++ T') ++ y :: x :: (U ++ Z)) j = x := by
      rw [show (A ++ T') ++ y :: x :: (U ++ Z) = ((A ++ T') ++ [y]) ++ x :: (U ++ Z) by simp]
      exact rd_app _ _ _ _ (by simp at hj1 ⊢; omega)
    have e2 : rd ((A ++ T') ++ y :: x :: (U ++ Z)) (j - 1) = y := rd_app _ _ _ _ (by omega)
    have hAT : ((A ++ T').length : Int) = (A.length : Int) + (T'.length : Int) := by simp
    have hyx : y < x := ht y (by simp)
    have hsT : Srt v (T' ++ y :: U) := by simpa using hs
    by_cases hlt : c < 0
    · refine Ends.step (h := fun k => slices_insertionSortCmpFunc_int64.l1 k (A ++ (T' ++ x :: y :: U) ++ Z) a b v i (j - 1)) (fun k => ?_) (ih T' (y :: U) (j - 1) hn' (by omega) ?_ hsT ?_ (fun t h => ht t (by simp [h])) ?_ ?_)
      · simp only [slices_insertionSortCmpFunc_int64.l1]
        rw [e0, if_pos (by omega), if_pos (by omega), if_pos (by omega), hw, if_pos (by omega), if_pos (by omega)]
        rw [swap_prev (A ++ T') (U ++ Z) y x (j - 1) j (by omega) hj1, e1, e2, hc]
        simp only [Option.bind_some]
        rw [if_pos hlt]
        simp
      · intro z hz
        exact hok z (by simp at hz ⊢; rcases hz with h | h | h | h <;> simp [h])
      · intro u hu'
        rcases List.mem_cons.1 hu' with rfl | h
        · exact .inl (hc2.1 hlt)
        · exact hu u h
      · simp at hl ⊢
        omega
      · intro s hp hs'
        refine H s (hp.trans ?_) hs'
        simp only [List.append_assoc, List.singleton_append]
        exact List.Perm.append_left _ (List.Perm.swap _ _ _)
    · refine Ends.step (h := fun k => slices_insertionSortCmpFunc_int64.l0 k (A ++ ((T' ++ [y]) ++ x :: U) ++ Z) a b v (wrap64 (i + 1))) (fun k => ?_) (H _ (List.Perm.refl _) ?_)
      · simp only [slices_insertionSortCmpFunc_int64.l1]
        rw [e0, if_pos (by omega), if_pos (by omega), if_pos (by omega), hw, if_pos (by omega), if_pos (by omega), e1, e2, hc]
        simp only [Option.bind_some]
        rw [if_neg hlt]
      · have hyx' : Bef v y x := by
          have : ¬ K v y < K v x := fun h => hlt (hc2.2 h)
          unfold Bef
          omega
        have h1 := List.pairwise_append.1 hs
        have h2 := List.pairwise_append.1 h1.1
        refine List.pairwise_append.2 ⟨h1.1, List.pairwise_cons.2 ⟨hu, h1.2.1⟩, fun t ht' u hu' => ?_⟩
        rcases List.mem_cons.1 hu' with rfl | h
        · rcases List.mem_append.1 ht' with h3 | h3
          · exact (h2.2.2 t h3 y (by simp)).trans hyx'
          · rw [List.mem_singleton.1 h3]; exact hyx'
        · exact h1.2.2 t ht' u h
/-- The insertion sort sorts a segment whose places rise. -/
theorem ins_l0 {v : List Nat} {P : List Int → Prop} (A Z : List Int) (a b : Int) (ha : a = (A.length : Int)) :
    ∀ (U S : List Int) (i : Int), i = a + (S.length : Int) → b = i + (U.length : Int) → Ok v (S ++ U) → Srt v S → U.Pairwise (· < ·) → (∀ s, s ∈ S → ∀ u, u ∈ U → s < u) → (A ++ (S ++ U) ++ Z).length < 1073741824 →
      (∀ s, s.Perm (S ++ U) → Srt v s → P (A ++ s ++ Z)) →
      Ends (fun k => slices_insertionSortCmpFunc_int64.l0 k (A ++ (S ++ U) ++ Z) a b v i) P := by
  intro U
  induction U with
  | nil =>
    intro S i hi hb hok hs hu hsu hl H
    refine Ends.step (h := fun _ => some (A ++ (S ++ []) ++ Z)) (fun k => ?_) (Ends.now (by simpa using H S (by simp) hs))
    simp only [slices_insertionSortCmpFunc_int64.l0]
    rw [if_neg (by simp at hb; omega)]
  | cons x U ih =>
    intro S i hi hb hok hs hu hsu hl H
    refine Ends.step (h := fun k => slices_insertionSortCmpFunc_int64.l1 k (A ++ (S ++ x :: []) ++ (U ++ Z)) a b v i i) (fun k => ?_) (ins_l1 A (U ++ Z) x a b i ha S.length S [] i rfl hi ?_ (by simpa using hs) (by simp) (fun t ht => hsu t ht x (by simp)) ?_ ?_)
    · simp only [slices_insertionSortCmpFunc_int64.l0]
      rw [if_pos (by simp at hb; omega)]
      simp
    · intro z hz
      exact hok z (by simp at hz ⊢; rcases hz with h | h <;> simp [h])
    · simp at hl ⊢
      omega
    · intro s hp hs'
      have hlen : s.length = S.length + 1 := by simpa using hp.length_eq
      have hl' : A.length + S.length < 1073741824 := by simp at hl; omega
      have hw : wrap64 (i + 1) = i + 1 := w64 (by omega) (by omega)
      rw [hw]
      have hm : ∀ z, z ∈ s → z ∈ S ∨ z = x := fun z hz => by simpa using hp.mem_iff.1 hz
      have hu' := List.pairwise_cons.1 hu
      have := ih s (i + 1) (by omega) (by simp at hb; omega) ?_ hs' hu'.2 ?_ ?_ ?_
      · simpa using this
      · intro z hz
        rcases List.mem_append.1 hz with h | h
        · rcases hm z h with h | rfl
          · exact hok z (by simp [h])
          · exact hok z (by simp)
        · exact hok z (by simp [h])
      · intro z hz u hu2
        rcases hm z hz with h | rfl
        · exact hsu z h u (by simp [hu2])
        · exact hu'.1 u hu2
      · simp at hl ⊢
        omega
      · intro s2 hp2 hs2
        refine H s2 (hp2.trans ?_) hs2
        have := hp.append_right U
        simpa using this
theorem ins_f {v : List Nat} (A S Z : List Int) (a b : Int) (ha : a = (A.length : Int)) (hb : b = a + (S.length : Int)) (hne : S ≠ []) (hok : Ok v S) (hs : S.Pairwise (· < ·)) (hl : (A ++ S ++ Z).length < 1073741824) :
    Ends (fun k => slices_insertionSortCmpFunc_int64.f k (A ++ S ++ Z) a b v) (fun r => ∃ s, r = A ++ s ++ Z ∧ s.Perm S ∧ Srt v s) := by
  cases S with
  | nil => exact absurd rfl hne
  | cons x U =>
    have hl' : A.length < 1073741824 := by simp at hl; omega
    have hu := List.pairwise_cons.1 hs
    have := ins_l0 (v := v) (P := fun r => ∃ s, r = A ++ s ++ Z ∧ s.Perm (x :: U) ∧ Srt v s) A Z a b ha U [x] (a + 1) (by simp) (by simp at hb; omega) hok (List.pairwise_singleton _ _) hu.2 (fun s h u hu' => by rw [List.mem_singleton.1 h]; exact hu.1 u hu') hl (fun s hp hs' => ⟨s, rfl, hp, hs'⟩)
    unfold slices_insertionSortCmpFunc_int64.f
    rw [w64 (by omega) (by omega)]
    exact this

/-! Blocks change places. -/
theorem swp_l0 {P : List Int → Prop} (a b n : Int) :
    ∀ (X Y A M Z : List Int) (i : Int), X.length = Y.length → (A.length : Int) = a + i → (A.length : Int) + (X.length : Int) + (M.length : Int) = b + i → n = i + (X.length : Int) → 0 ≤ a → 0 ≤ b → 0 ≤ i → (A ++ X ++ M ++ Y ++ Z).length < 1073741824 → P (A ++ Y ++ M ++ X ++ Z) →
      Ends (fun k => slices_swapRangeCmpFunc_int64.l0 k (A ++ X ++ M ++ Y ++ Z) a b n i) P := by
  intro X
  induction X with
  | nil =>
    intro Y A M Z i hxy hA hB hn _ _ _ hl H
    obtain rfl := List.length_eq_zero_iff.1 (hxy.symm)
    refine Ends.step (h := fun _ => some (A ++ [] ++ M ++ [] ++ Z)) (fun k => ?_) (Ends.now H)
    simp only [slices_swapRangeCmpFunc_int64.l0]
    rw [if_neg (by simp at hn; omega)]
  | cons x X ih =>
    intro Y A M Z i hxy hA hB hn ha hb hi hl H
    cases Y with
    | nil => simp at hxy
    | cons y Y =>
      have hl' : A.length + X.length + 1 + M.length + Y.length + 1 + Z.length < 1073741824 := by simp at hl; omega
      have hX : ((x :: X).length : Int) = (X.length : Int) + 1 := by simp
      have w1 : wrap64 (b + i) = b + i := w64 (by omega) (by omega)
      have w2 : wrap64 (a + i) = a + i := w64 (by omega) (by omega)
      have w3 : wrap64 (i + 1) = i + 1 := w64 (by omega) (by omega)
      have e0 : A ++ (x :: X) ++ M ++ (y :: Y) ++ Z = A ++ x :: (X ++ M) ++ y :: (Y ++ Z) := by simp
      have hlen : ((A ++ x :: (X ++ M) ++ y :: (Y ++ Z)).length : Int) = (A.length : Int) + (X.length : Int) + 1 + (M.length : Int) + (Y.length : Int) + 1 + (Z.length : Int) := by simp; omega
      have hxy' : X.length = Y.length := by simpa using hxy
      refine Ends.step (h := fun k => slices_swapRangeCmpFunc_int64.l0 k ((A ++ [y]) ++ X ++ (M ++ [x]) ++ Y ++ Z) a b n (i + 1)) (fun k => ?_) (ih Y (A ++ [y]) (M ++ [x]) Z (i + 1) hxy' (by simp; omega) (by simp; omega) (by omega) ha hb (by omega) ?_ ?_)
      · simp only [slices_swapRangeCmpFunc_int64.l0]
        rw [e0, if_pos (by omega), w1, w2, w3, if_pos (by omega), if_pos (by omega), if_pos (by omega), if_pos (by omega)]
        rw [swap_far A (X ++ M) (Y ++ Z) x y (a + i) (b + i) (by omega) (by simp; omega)]
        simp
      · simp at hl ⊢
        omega
      · simpa using H
theorem swp_f {v : List Nat} (A X M Y Z : List Int) (a b n : Int) (hxy : X.length = Y.length) (ha : a = (A.length : Int)) (hb : b = (A.length : Int) + (X.length : Int) + (M.length : Int)) (hn : n = (X.length : Int)) (hl : (A ++ X ++ M ++ Y ++ Z).length < 1073741824) :
    Ends (fun k => slices_swapRangeCmpFunc_int64.f k (A ++ X ++ M ++ Y ++ Z) a b n v) (fun r => r = A ++ Y ++ M ++ X ++ Z) :=
  swp_l0 a b n X Y A M Z 0 hxy (by omega) (by omega) (by omega) (by omega) (by omega) (by omega) hl rfl
/-- Two neighbouring blocks change places. -/
theorem rot_l0 {v : List Nat} (m : Int) : ∀ (N : Nat) (A X Y Z : List Int) (i j : Int), X.length + Y.length ≤ N → i = (X.length : Int) → j = (Y.length : Int) → X ≠ [] → Y ≠ [] → m = (A.length : Int) + (X.length : Int) → (A ++ X ++ Y ++ Z).length < 1073741824 →
    Ends (fun k => slices_rotateCmpFunc_int64.l0 k (A ++ X ++ Y ++ Z) m v i j) (fun r => r = A ++ Y ++ X ++ Z) := by
  intro N
  induction N with
  | zero =>
    intro A X Y Z i j hN hi hj hX
    exact absurd (List.length_eq_zero_iff.1 (by omega)) hX
  | succ N ih =>
    intro A X Y Z i j hN hi hj hX hY hm hl
    have hX0 : 0 < X.length := List.length_pos_iff.2 hX
    have hY0 : 0 < Y.length := List.length_pos_iff.2 hY
    have hl' : A.length + X.length + Y.length + Z.length < 1073741824 := by simp at hl; omega
    have w1 : wrap64 (m - i) = m - i := w64 (by omega) (by omega)
    by_cases h0 : i = j
    · refine Ends.step (h := fun k => (slices_swapRangeCmpFunc_int64.f k (A ++ X ++ [] ++ Y ++ Z) (m - i) m i v).bind fun t => some t) (fun k => ?_) (Ends.bind (swp_f A X [] Y Z (m - i) m i (by omega) (by omega) (by simp; omega) hi (by simpa using hl)) (fun r hr => Ends.now (by simpa using hr)))
      simp only [slices_rotateCmpFunc_int64.l0]
      rw [if_pos h0, w1]
      simp
    · by_cases h1 : i > j
      · obtain ⟨X1, X2, rfl, hX1⟩ : ∃ X1 X2, X = X1 ++ X2 ∧ X1.length = Y.length := ⟨X.take Y.length, X.drop Y.length, (List.take_append_drop _ _).symm, by rw [List.length_take]; omega⟩
        have hlX : ((X1 ++ X2).length : Int) = (X1.length : Int) + (X2.length : Int) := by simp
        have hlX' : (X1 ++ X2).length = X1.length + X2.length := by simp
        have w2 : wrap64 (i - j) = i - j := w64 (by omega) (by omega)
        refine Ends.step (h := fun k => (slices_swapRangeCmpFunc_int64.f k (A ++ X1 ++ X2 ++ Y ++ Z) (m - i) m j v).bind fun t => slices_rotateCmpFunc_int64.l0 k t m v (i - j) j) (fun k => ?_) (Ends.bind (swp_f A X1 X2 Y Z (m - i) m j hX1 (by omega) (by omega) (by omega) (by simpa using hl)) (fun r hr => ?_))
        · simp only [slices_rotateCmpFunc_int64.l0]
          rw [if_neg h0, if_pos h1, w1, w2]
          simp
        · subst hr
          refine (ih (A ++ Y) X2 X1 Z (i - j) j (by omega) (by omega) (by omega) (fun h => ?_) (fun h => ?_) ?_ ?_).imp (fun r hr => ?_)
          · subst h; simp at hlX hi; omega
          · subst h; simp at hX1; omega
          · simp; omega
          · simp at hl ⊢; omega
          · simpa using hr
      · obtain ⟨Y1, Y2, rfl, hY2⟩ : ∃ Y1 Y2, Y = Y1 ++ Y2 ∧ X.length = Y2.length := ⟨Y.take (Y.length - X.length), Y.drop (Y.length - X.length), (List.take_append_drop _ _).symm, by rw [List.length_drop]; omega⟩
        have hlY : ((Y1 ++ Y2).length : Int) = (Y1.length : Int) + (Y2.length : Int) := by simp
        have hlY' : (Y1 ++ Y2).length = Y1.length + Y2.length := by simp
        have w2 : wrap64 (j - i) = j - i := w64 (by omega) (by omega)
        have w3 : wrap64 (m + j) = m + j := w64 (by omega) (by omega)
        have w4 : wrap64 (m + j - i) = m + j - i := w64 (by omega) (by omega)
        refine Ends.step (h := fun k => (slices_swapRangeCmpFunc_int64.f k (A ++ X ++ Y1 ++ Y2 ++ Z) (m - i) (m + j - i) i v).bind fun t => slices_rotateCmpFunc_int64.l0 k t m v i (j - i)) (fun k => ?_) (Ends.bind (swp_f A X Y1 Y2 Z (m - i) (m + j - i) i hY2 (by omega) (by omega) (by omega) (by simpa using hl)) (fun r hr => ?_))
        · simp only [slices_rotateCmpFunc_int64.l0]
          rw [if_neg h0, if_neg h1, w1, w2, w3, w4]
          simp
        · subst hr
          have n2 : Y2 ≠ [] := by
            intro h
            have h9 : Y2.length = 0 := by rw [h]; rfl
            omega
          have n1 : Y1 ≠ [] := by
            intro h
            have h9 : Y1.length = 0 := by rw [h]; rfl
            omega
          have := ih A Y2 Y1 (X ++ Z) i (j - i) (by omega) (by omega) (by omega) n2 n1 (by omega) (by simp at hl ⊢; omega)
          have e : A ++ Y2 ++ Y1 ++ X ++ Z = A ++ Y2 ++ Y1 ++ (X ++ Z) := by simp
          rw [e]
          exact this.imp (fun r hr => by simpa using hr)
theorem rot_f {v : List Nat} (A X Y Z : List Int) (a m b : Int) (ha : a = (A.length : Int)) (hm : m = a + (X.length : Int)) (hb : b = m + (Y.length : Int)) (hX : X ≠ []) (hY : Y ≠ []) (hl : (A ++ X ++ Y ++ Z).length < 1073741824) :
    Ends (fun k => slices_rotateCmpFunc_int64.f k (A ++ X ++ Y ++ Z) a m b v) (fun r => r = A ++ Y ++ X ++ Z) := by
  have hl' : A.length + X.length + Y.length + Z.length < 1073741824 := by simp at hl; omega
  unfold slices_rotateCmpFunc_int64.f
  rw [w64 (n := m - a) (by omega) (by omega), w64 (n := b - m) (by omega) (by omega)]
  exact rot_l0 m _ A X Y Z (m - a) (b - m) (Nat.le_refl _) (by omega) (by omega) hX hY (by omega) hl
end Go.Proofs.Ytncckihaacceaaa.PlainL
