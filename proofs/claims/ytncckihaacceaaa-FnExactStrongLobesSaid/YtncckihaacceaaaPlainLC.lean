/-
  Merging two sorted neighbours in place.
-/
import Derived.Test.YtncckihaacceaaaPlainLB
namespace Go.Proofs.Ytncckihaacceaaa.PlainL
open Go.RowKit Go.Proofs.YtncckihaacceaaaW.PrintWords Go.Proofs.YtncckihaacceaaaW.PrintLast Go.Proofs.YtncckihaacceaaaW.PrintMore
open Go.Proofs.Ytncckihaacceaaa.L Go.Proofs.Ytncckihaacceaaa.LOrder

/-- A search by halves. -/
theorem halves {α : Type} (g : Nat → Int → Int → Option α) (fin : Nat → Int → Option α) (p : Nat → Prop) (lo hi : Nat)
    (hstep : ∀ i j : Nat, lo ≤ i → i < j → j ≤ hi → (p ((i + j) / 2) → ∀ k, g (k + 1) (i : Int) (j : Int) = g k (((i + j) / 2 + 1 : Nat) : Int) (j : Int)) ∧ (¬ p ((i + j) / 2) → ∀ k, g (k + 1) (i : Int) (j : Int) = g k (i : Int) (((i + j) / 2 : Nat) : Int)))
    (hfin : ∀ i : Nat, lo ≤ i → i ≤ hi → ∀ k, g (k + 1) (i : Int) (i : Int) = fin k (i : Int))
    (hmono : ∀ s t : Nat, lo ≤ s → s ≤ t → t < hi → p t → p s) :
    ∀ (n i j : Nat), j - i ≤ n → lo ≤ i → i ≤ j → j ≤ hi → ∃ s : Nat, i ≤ s ∧ s ≤ j ∧ (∀ t, i ≤ t → t < s → p t) ∧ (∀ t, s ≤ t → t < j → ¬ p t) ∧ ∀ P : α → Prop, Ends (fun k => fin k (s : Int)) P → Ends (fun k => g k (i : Int) (j : Int)) P := by
  intro n
  induction n with
  | zero =>
    intro i j hn h0 h1 h2
    obtain rfl : i = j := by omega
    exact ⟨i, Nat.le_refl _, Nat.le_refl _, fun t _ _ => by omega, fun t _ _ => by omega, fun P H => Ends.step (hfin i h0 h2) H⟩
  | succ n ih =>
    intro i j hn h0 h1 h2
    by_cases he : i = j
    · subst he
      exact ⟨i, Nat.le_refl _, Nat.le_refl _, fun t _ _ => by omega, fun t _ _ => by omega, fun P H => Ends.step (hfin i h0 h2) H⟩
    · have hlt : i < j := by omega
      obtain ⟨s1, s2⟩ := hstep i j h0 hlt h2
      by_cases hp : p ((i + j) / 2)
      · obtain ⟨s, a1, a2, a3, a4, a5⟩ := ih ((i + j) / 2 + 1) j (by omega) (by omega) (by omega) h2
        refine ⟨s, by omega, a2, fun t t1 t2 => ?_, a4, fun P H => Ends.step (s1 hp) (a5 P H)⟩
        by_cases ht : (i + j) / 2 + 1 ≤ t
        · exact a3 t ht t2
        · exact hmono t ((i + j) / 2) (by omega) (by omega) (by omega) hp
      · obtain ⟨s, a1, a2, a3, a4, a5⟩ := ih i ((i + j) / 2) (by omega) h0 (by omega) (by omega)
        refine ⟨s, a1, by omega, a3, fun t t1 t2 => ?_, fun P H => Ends.step (s2 hp) (a5 P H)⟩
        by_cases ht : t < (i + j) / 2
        · exact a4 t t1 ht
        · exact fun h => hp (hmono ((i + j) / 2) t (by omega) (by omega) (by omega) h)

theorem rd_seg (A S B : List Int) (t : Nat) (ht : t < S.length) (i : Int) (hi : i = (A.length : Int) + (t : Int)) : rd (A ++ S ++ B) i = S.getD t 0 := by
  subst hi
  unfold rd
  rw [show ((A.length : Int) + (t : Int)).toNat = A.length + t by omega]
  simp only [List.getD_eq_getElem?_getD, List.append_assoc]
  rw [List.getElem?_append_right (by omega), List.getElem?_append_left (by omega)]
  congr 2
  omega
theorem getD_mem {S : List Int} {t : Nat} (ht : t < S.length) : S.getD t 0 ∈ S := by
  simp [List.getD_eq_getElem?_getD, List.getElem?_eq_getElem ht]
theorem srt_get {v : List Nat} {S : List Int} (h : Srt v S) {s t : Nat} (hst : s < t) (ht : t < S.length) : Bef v (S.getD s 0) (S.getD t 0) := by
  have := List.pairwise_iff_getElem.1 h s t (by omega) ht hst
  simpa [List.getD_eq_getElem?_getD, List.getElem?_eq_getElem ht, List.getElem?_eq_getElem (show s < S.length by omega)] using this
theorem srt_K {v : List Nat} {S : List Int} (h : Srt v S) {s t : Nat} (hst : s ≤ t) (ht : t < S.length) : K v (S.getD t 0) ≤ K v (S.getD s 0) := by
  by_cases he : s = t
  · subst he; omega
  · have := srt_get h (show s < t by omega) ht
    unfold Bef at this
    omega
theorem take_get {S : List Int} {n : Nat} {x : Int} (h : x ∈ S.take n) : ∃ t, t < n ∧ t < S.length ∧ x = S.getD t 0 := by
  obtain ⟨t, ht, rfl⟩ := List.mem_iff_getElem.1 h
  have h1 : t < n ∧ t < S.length := by rw [List.length_take] at ht; omega
  refine ⟨t, h1.1, h1.2, ?_⟩
  simp [List.getD_eq_getElem?_getD, List.getElem?_eq_getElem h1.2]
theorem drop_get {S : List Int} {n : Nat} {x : Int} (h : x ∈ S.drop n) : ∃ t, n ≤ t ∧ t < S.length ∧ x = S.getD t 0 := by
  obtain ⟨t, ht, rfl⟩ := List.mem_iff_getElem.1 h
  have h1 : n + t < S.length := by rw [List.length_drop] at ht; omega
  refine ⟨n + t, by omega, h1, ?_⟩
  simp [List.getD_eq_getElem?_getD, List.getElem?_eq_getElem h1]
theorem Ok.sub {v : List Nat} {xs ys : List Int} (h : Ok v xs) (hs : ∀ x, x ∈ ys → x ∈ xs) : Ok v ys := fun x hx => h x (hs x hx)

/-- One number goes up to its place. -/
theorem sym_l1 {P : List Int → Prop} (e : Int) : ∀ (R1 A Z : List Int) (x : Int) (i : Int), i = (A.length : Int) → e = i + (R1.length : Int) + 1 → (A ++ x :: R1 ++ Z).length < 1073741824 → P (A ++ R1 ++ x :: Z) →
    Ends (fun k => slices_symMergeCmpFunc_int64.l1 k (A ++ x :: R1 ++ Z) e i) P := by
  intro R1
  induction R1 with
  | nil =>
    intro A Z x i hi he hl H
    have hl' : A.length < 1073741824 := by simp at hl; omega
    refine Ends.step (h := fun _ => some (A ++ [x] ++ Z)) (fun k => ?_) (Ends.now (by simpa using H))
    simp only [slices_symMergeCmpFunc_int64.l1]
    have he' : e = i + 1 := by simpa using he
    rw [w64 (n := e - 1) (by omega) (by omega), if_neg (by omega)]
  | cons y R1 ih =>
    intro A Z x i hi he hl H
    have hl' : A.length + R1.length + 2 + Z.length < 1073741824 := by simp at hl; omega
    have he' : e = i + ((R1.length : Int) + 1) + 1 := by simpa using he
    have e0 : A ++ x :: (y :: R1) ++ Z = A ++ x :: y :: (R1 ++ Z) := by simp
    have hlen : ((A ++ x :: y :: (R1 ++ Z)).length : Int) = (A.length : Int) + 2 + (R1.length : Int) + (Z.length : Int) := by simp; omega
    refine Ends.step (h := fun k => slices_symMergeCmpFunc_int64.l1 k ((A ++ [y]) ++ x :: R1 ++ Z) e (i + 1)) (fun k => ?_) (ih (A ++ [y]) Z x (i + 1) (by simp; omega) (by omega) (by simp at hl ⊢; omega) (by simpa using H))
    simp only [slices_symMergeCmpFunc_int64.l1]
    rw [w64 (n := e - 1) (by omega) (by omega), w64 (n := i + 1) (by omega) (by omega), e0, if_pos (by omega), if_pos (by omega), if_pos (by omega), if_pos (by omega), if_pos (by omega), swap_next A (R1 ++ Z) x y i (i + 1) (by omega) (by omega)]
    simp
/-- .. and down. -/
theorem sym_l3 {P : List Int → Prop} (e : Int) : ∀ (n : Nat) (L2 A Z : List Int) (y : Int) (i : Int), L2.length = n → e = (A.length : Int) → i = e + (L2.length : Int) → (A ++ L2 ++ y :: Z).length < 1073741824 → P (A ++ y :: L2 ++ Z) →
    Ends (fun k => slices_symMergeCmpFunc_int64.l3 k (A ++ L2 ++ y :: Z) e i) P := by
  intro n
  induction n with
  | zero =>
    intro L2 A Z y i hn he hi hl H
    obtain rfl := List.length_eq_zero_iff.1 hn
    refine Ends.step (h := fun _ => some (A ++ [] ++ y :: Z)) (fun k => ?_) (Ends.now (by simpa using H))
    simp only [slices_symMergeCmpFunc_int64.l3]
    rw [if_neg (by simp at hi; omega)]
  | succ n ih =>
    intro L2 A Z y i hn he hi hl H
    obtain ⟨T, x, rfl, hT⟩ := snoc_of hn
    have hl' : A.length + T.length + 2 + Z.length < 1073741824 := by simp at hl; omega
    have hi' : i = e + ((T.length : Int) + 1) := by simpa using hi
    have e0 : A ++ (T ++ [x]) ++ y :: Z = (A ++ T) ++ x :: y :: Z := by simp
    have hlen : (((A ++ T) ++ x :: y :: Z).length : Int) = (A.length : Int) + (T.length : Int) + 2 + (Z.length : Int) := by simp; omega
    have hAT : ((A ++ T).length : Int) = (A.length : Int) + (T.length : Int) := by simp
    refine Ends.step (h := fun k => slices_symMergeCmpFunc_int64.l3 k (A ++ T ++ y :: (x :: Z)) e (i - 1)) (fun k => ?_) (ih T A (x :: Z) y (i - 1) hT he (by omega) (by simp at hl ⊢; omega) (by simpa using H))
    simp only [slices_symMergeCmpFunc_int64.l3]
    rw [w64 (n := i - 1) (by omega) (by omega), e0, if_pos (by omega), if_pos (by omega), if_pos (by omega), if_pos (by omega), if_pos (by omega), swap_prev (A ++ T) Z x y (i - 1) i (by omega) (by omega)]
/-- A single number ahead of a sorted list. -/
theorem sym_one {v : List Nat} (A R Z : List Int) (x : Int) (hok : Ok v (x :: R)) (hs : Srt v R) (hx : ∀ y, y ∈ R → x < y) (hl : (A ++ x :: R ++ Z).length < 1073741824) :
    Ends (fun k => slices_symMergeCmpFunc_int64.l0 k (A ++ x :: R ++ Z) ((A.length : Nat) : Int) v ((A.length + 1 : Nat) : Int) ((A.length + 1 + R.length : Nat) : Int)) (fun r => ∃ s, r = A ++ s ++ Z ∧ s.Perm (x :: R) ∧ Srt v s) := by
  have hl' : A.length + 1 + R.length + Z.length < 1073741824 := by simp at hl; omega
  have hlen : ((A ++ x :: R ++ Z).length : Int) = (A.length : Int) + 1 + (R.length : Int) + (Z.length : Int) := by simp; omega
  have ex : rd (A ++ x :: R ++ Z) (A.length : Int) = x := by rw [List.append_assoc]; exact rd_app A _ x _ rfl
  have eR : ∀ t : Nat, t < R.length → ∀ i : Int, i = ((A.length + 1 + t : Nat) : Int) → rd (A ++ x :: R ++ Z) i = R.getD t 0 := by
    intro t ht i hi
    rw [show A ++ x :: R ++ Z = (A ++ [x]) ++ R ++ Z by simp]
    exact rd_seg _ _ _ t ht i (by simp; omega)
  obtain ⟨s, a1, a2, a3, a4, a5⟩ := halves (fun k i j => slices_symMergeCmpFunc_int64.l0 k (A ++ x :: R ++ Z) ((A.length : Nat) : Int) v i j) (fun k i => slices_symMergeCmpFunc_int64.l1 k (A ++ x :: R ++ Z) i ((A.length : Nat) : Int))
    (fun h => K v x < K v (R.getD (h - (A.length + 1)) 0)) (A.length + 1) (A.length + 1 + R.length) (fun i j h0 h1 h2 => by
      have hh : (i + j) / 2 - (A.length + 1) < R.length := by omega
      obtain ⟨c, hc, hc2⟩ := cmp_f (i := R.getD ((i + j) / 2 - (A.length + 1)) 0) (j := x) hok (List.mem_cons_of_mem _ (getD_mem hh)) (by simp)
      have ew : wrap64 ((((i + j) / 2 : Nat) : Int) + 1) = (((i + j) / 2 + 1 : Nat) : Int) := by rw [w64 (by omega) (by omega)]; omega
      constructor
      all_goals
        intro hp k
        simp only [slices_symMergeCmpFunc_int64.l0]
        rw [mid64 i j (by omega), if_pos (by omega), if_pos (by omega), if_pos (by omega), if_pos (by omega), if_pos (by omega), ex, eR _ hh _ (by omega), hc]
        simp only [Option.bind_some]
      · rw [if_pos (hc2.2 hp), ew]
      · rw [if_neg (fun h => hp (hc2.1 h))]) (fun i h0 h1 k => by
      simp only [slices_symMergeCmpFunc_int64.l0]
      rw [if_neg (by omega)]) (fun s t h0 h1 h2 hp => by
      have := srt_K hs (s := s - (A.length + 1)) (t := t - (A.length + 1)) (by omega) (by omega)
      omega) R.length (A.length + 1) (A.length + 1 + R.length) (by omega) (by omega) (by omega) (by omega)
  obtain ⟨t, rfl⟩ : ∃ t, s = A.length + 1 + t := ⟨s - (A.length + 1), by omega⟩
  refine a5 _ ?_
  have hR : A ++ x :: R ++ Z = A ++ x :: R.take t ++ (R.drop t ++ Z) := by
    simp
    rw [← List.append_assoc, List.take_append_drop]
  rw [hR]
  have hlt : (R.take t).length = t := by rw [List.length_take]; omega
  refine sym_l1 ((A.length + 1 + t : Nat) : Int) (R.take t) A (R.drop t ++ Z) x (A.length : Int) rfl (by rw [hlt]; omega) (by rw [← hR]; exact hl) ⟨R.take t ++ x :: R.drop t, by simp, ?_, ?_⟩
  · conv => rhs; rw [← List.take_append_drop t R]
    exact List.perm_middle
  · have hs2 : Srt v (R.take t ++ R.drop t) := by rw [List.take_append_drop]; exact hs
    have hs3 := List.pairwise_append.1 hs2
    have h1 : ∀ y, y ∈ R.take t → Bef v y x := by
      intro y hy
      obtain ⟨u, u1, u2, rfl⟩ := take_get hy
      have := a3 (A.length + 1 + u) (by omega) (by omega)
      rw [show A.length + 1 + u - (A.length + 1) = u by omega] at this
      exact .inl this
    have h2 : ∀ y, y ∈ R.drop t → Bef v x y := by
      intro y hy
      have hy' := hx y (List.mem_of_mem_drop hy)
      obtain ⟨u, u1, u2, rfl⟩ := drop_get hy
      have := a4 (A.length + 1 + u) (by omega) (by omega)
      rw [show A.length + 1 + u - (A.length + 1) = u by omega] at this
      unfold Bef
      omega
    refine List.pairwise_append.2 ⟨hs3.1, List.pairwise_cons.2 ⟨h2, hs3.2.1⟩, fun y hy z hz => ?_⟩
    rcases List.mem_cons.1 hz with rfl | h
    · exact h1 y hy
    · exact hs3.2.2 y hy z h
/-- A single number behind a sorted list. -/
theorem sym_last {v : List Nat} (A L Z : List Int) (y : Int) (hok : Ok v (L ++ [y])) (hs : Srt v L) (hx : ∀ x, x ∈ L → x < y) (hl : (A ++ L ++ y :: Z).length < 1073741824) :
    Ends (fun k => slices_symMergeCmpFunc_int64.l2 k (A ++ L ++ y :: Z) ((A.length + L.length : Nat) : Int) v ((A.length : Nat) : Int) ((A.length + L.length : Nat) : Int)) (fun r => ∃ s, r = A ++ s ++ Z ∧ s.Perm (L ++ [y]) ∧ Srt v s) := by
  have hl' : A.length + 1 + L.length + Z.length < 1073741824 := by simp at hl; omega
  have hlen : ((A ++ L ++ y :: Z).length : Int) = (A.length : Int) + 1 + (L.length : Int) + (Z.length : Int) := by simp; omega
  have ey : rd (A ++ L ++ y :: Z) ((A.length + L.length : Nat) : Int) = y := rd_app (A ++ L) Z y _ (by simp)
  have eL : ∀ t : Nat, t < L.length → ∀ i : Int, i = ((A.length + t : Nat) : Int) → rd (A ++ L ++ y :: Z) i = L.getD t 0 := by
    intro t ht i hi
    exact rd_seg _ _ _ t ht i (by omega)
  obtain ⟨s, a1, a2, a3, a4, a5⟩ := halves (fun k i j => slices_symMergeCmpFunc_int64.l2 k (A ++ L ++ y :: Z) ((A.length + L.length : Nat) : Int) v i j) (fun k i => slices_symMergeCmpFunc_int64.l3 k (A ++ L ++ y :: Z) i ((A.length + L.length : Nat) : Int))
    (fun h => ¬ K v (L.getD (h - A.length) 0) < K v y) A.length (A.length + L.length) (fun i j h0 h1 h2 => by
      have hh : (i + j) / 2 - A.length < L.length := by omega
      obtain ⟨c, hc, hc2⟩ := cmp_f (i := y) (j := L.getD ((i + j) / 2 - A.length) 0) hok (by simp) (List.mem_append_left _ (getD_mem hh))
      have ew : wrap64 ((((i + j) / 2 : Nat) : Int) + 1) = (((i + j) / 2 + 1 : Nat) : Int) := by rw [w64 (by omega) (by omega)]; omega
      constructor
      all_goals
        intro hp k
        simp only [slices_symMergeCmpFunc_int64.l2]
        rw [mid64 i j (by omega), if_pos (by omega), if_pos (by omega), if_pos (by omega), if_pos (by omega), if_pos (by omega), ey, eL _ hh _ (by omega), hc]
        simp only [Option.bind_some]
      · rw [if_neg (fun h => hp (hc2.1 h)), ew]
      · rw [if_pos (hc2.2 (Decidable.not_not.1 hp))]) (fun i h0 h1 k => by
      simp only [slices_symMergeCmpFunc_int64.l2]
      rw [if_neg (by omega)]) (fun s t h0 h1 h2 hp => by
      have := srt_K hs (s := s - A.length) (t := t - A.length) (by omega) (by omega)
      omega) L.length A.length (A.length + L.length) (by omega) (by omega) (by omega) (by omega)
  obtain ⟨t, rfl⟩ : ∃ t, s = A.length + t := ⟨s - A.length, by omega⟩
  refine a5 _ ?_
  have hL : A ++ L ++ y :: Z = (A ++ L.take t) ++ L.drop t ++ y :: Z := by
    conv => lhs; rw [← List.take_append_drop t L]
    simp
  rw [hL]
  have hlt : (L.take t).length = t := by rw [List.length_take]; omega
  have hld : (L.drop t).length = L.length - t := List.length_drop
  refine sym_l3 ((A.length + t : Nat) : Int) _ (L.drop t) (A ++ L.take t) Z y ((A.length + L.length : Nat) : Int) rfl (by simp; omega) (by rw [hld]; omega) (by rw [← hL]; exact hl) ⟨L.take t ++ y :: L.drop t, by simp, ?_, ?_⟩
  · have h1 : (L.take t ++ y :: L.drop t).Perm (y :: (L.take t ++ L.drop t)) := List.perm_middle
    rw [List.take_append_drop] at h1
    exact h1.trans (List.perm_append_singleton y L).symm
  · have hs2 : Srt v (L.take t ++ L.drop t) := by rw [List.take_append_drop]; exact hs
    have hs3 := List.pairwise_append.1 hs2
    have h1 : ∀ z, z ∈ L.take t → Bef v z y := by
      intro z hz
      have hz' := hx z (List.mem_of_mem_take hz)
      obtain ⟨u, u1, u2, rfl⟩ := take_get hz
      have := a3 (A.length + u) (by omega) (by omega)
      rw [show A.length + u - A.length = u by omega] at this
      unfold Bef
      omega
    have h2 : ∀ z, z ∈ L.drop t → Bef v y z := by
      intro z hz
      obtain ⟨u, u1, u2, rfl⟩ := drop_get hz
      have := a4 (A.length + u) (by omega) (by omega)
      rw [show A.length + u - A.length = u by omega] at this
      exact .inl (Decidable.not_not.1 this)
    refine List.pairwise_append.2 ⟨hs3.1, List.pairwise_cons.2 ⟨h2, hs3.2.1⟩, fun z hz u hu => ?_⟩
    rcases List.mem_cons.1 hu with rfl | h
    · exact h1 z hz
    · exact hs3.2.2 z hz u h
end Go.Proofs.Ytncckihaacceaaa.PlainL
