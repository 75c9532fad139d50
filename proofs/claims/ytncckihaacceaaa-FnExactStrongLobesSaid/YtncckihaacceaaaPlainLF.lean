/-
  The stable sort.
-/
import Derived.Test.YtncckihaacceaaaPlainLE
namespace Go.Proofs.Ytncckihaacceaaa.PlainL
open Go.RowKit Go.Proofs.YtncckihaacceaaaW.PrintWords Go.Proofs.YtncckihaacceaaaW.PrintLast Go.Proofs.YtncckihaacceaaaW.PrintMore
open Go.Proofs.Ytncckihaacceaaa.L Go.Proofs.Ytncckihaacceaaa.LOrder

/-- Sorted blocks of bs numbers, whose places rise from block to block. -/
def Blk (v : List Nat) (bs : Nat) : Nat → List Int → Prop
  | 0, xs => xs.length ≤ bs ∧ Srt v xs
  | n + 1, xs => ∃ B R, xs = B ++ R ∧ B.length = bs ∧ Srt v B ∧ (∀ x, x ∈ B → ∀ y, y ∈ R → x < y) ∧ Blk v bs n R
theorem blk_two {v : List Nat} {bs c : Nat} {rest : List Int} (h : Blk v bs c rest) (hb : 0 < bs) (hl : 2 * bs ≤ rest.length) :
    ∃ B1 B2 R c', rest = B1 ++ B2 ++ R ∧ B1.length = bs ∧ B2.length = bs ∧ Srt v B1 ∧ Srt v B2 ∧ (∀ x, x ∈ B1 → ∀ y, y ∈ B2 → x < y) ∧ (∀ x, x ∈ B1 ++ B2 → ∀ y, y ∈ R → x < y) ∧ Blk v bs c' R := by
  cases c with
  | zero => have := h.1; omega
  | succ c =>
    obtain ⟨B1, R1, rfl, h1, h2, h3, h4⟩ := h
    rw [List.length_append] at hl
    cases c with
    | zero =>
      refine ⟨B1, R1, [], 0, by simp, h1, by have := h4.1; omega, h2, h4.2, h3, fun _ _ y hy => by simp at hy, by simp, List.Pairwise.nil⟩
    | succ c =>
      obtain ⟨B2, R, rfl, g1, g2, g3, g4⟩ := h4
      refine ⟨B1, B2, R, c, by simp, h1, g1, h2, g2, fun x hx y hy => h3 x hx y (List.mem_append_left _ hy), fun x hx y hy => ?_, g4⟩
      rcases List.mem_append.1 hx with h | h
      · exact h3 x h y (List.mem_append_right _ hy)
      · exact g3 x h y hy
theorem blk_one {v : List Nat} {bs c : Nat} {rest : List Int} (h : Blk v bs c rest) (hb : bs < rest.length) (hl : rest.length < 2 * bs) :
    ∃ B R, rest = B ++ R ∧ B.length = bs ∧ Srt v B ∧ Srt v R ∧ (∀ x, x ∈ B → ∀ y, y ∈ R → x < y) := by
  cases c with
  | zero => have := h.1; omega
  | succ c =>
    obtain ⟨B, R, rfl, h1, h2, h3, h4⟩ := h
    rw [List.length_append] at hl
    cases c with
    | zero => exact ⟨B, R, rfl, h1, h2, h4.2, h3⟩
    | succ c =>
      obtain ⟨B2, R2, rfl, g1, _⟩ := h4
      rw [List.length_append] at hl
      omega
theorem blk_all {v : List Nat} {bs c : Nat} {rest : List Int} (h : Blk v bs c rest) (hl : rest.length ≤ bs) : Srt v rest := by
  cases c with
  | zero => exact h.2
  | succ c =>
    obtain ⟨B, R, rfl, h1, h2, h3, h4⟩ := h
    rw [List.length_append] at hl
    obtain rfl := List.length_eq_zero_iff.1 (show R.length = 0 by omega)
    simpa using h2
theorem ins_f' {v : List Nat} (A S Z : List Int) (a b : Int) (ha : a = (A.length : Int)) (hb : b = a + (S.length : Int)) (hok : Ok v S) (hs : S.Pairwise (· < ·)) (hl : (A ++ S ++ Z).length < 1073741824) :
    Ends (fun k => slices_insertionSortCmpFunc_int64.f k (A ++ S ++ Z) a b v) (fun r => ∃ s, r = A ++ s ++ Z ∧ s.Perm S ∧ Srt v s) := by
  by_cases hne : S = []
  · subst hne
    have hl' : A.length < 1073741824 := by simp at hl; omega
    have hb' : b = a := by simpa using hb
    have hw : wrap64 (a + 1) = a + 1 := w64 (by omega) (by omega)
    have hn : ¬ a + 1 < b := by clear hw; omega
    refine Ends.congr (h := fun k => slices_insertionSortCmpFunc_int64.l0 k (A ++ [] ++ Z) a b v (a + 1)) (fun k => ?_) (Ends.step (h := fun _ => some (A ++ [] ++ Z)) (fun k => ?_) (Ends.now ⟨[], rfl, List.Perm.refl _, List.Pairwise.nil⟩))
    · unfold slices_insertionSortCmpFunc_int64.f
      rw [hw]
    · simp only [slices_insertionSortCmpFunc_int64.l0]
      rw [if_neg hn]
  · exact ins_f A S Z a b ha hb hne hok hs hl
/-- The blocks are sorted. -/
theorem st_l0 {v : List Nat} {P : List Int → Prop} (N : Nat) (hN : N < 1073741000) : ∀ (n : Nat) (A R : List Int) (a b : Nat), R.length ≤ n → a = A.length → b = a + 20 → N = A.length + R.length → Ok v R → R.Pairwise (· < ·) →
    (∀ R', R'.Perm R → (∃ c, Blk v 20 c R') → Ends (fun k => slices_stableCmpFunc_int64.l1 k (A ++ R') (N : Int) v 20) P) →
    Ends (fun k => slices_stableCmpFunc_int64.l0 k (A ++ R) (N : Int) v 20 (a : Int) (b : Int)) P := by
  intro n
  induction n with
  | zero =>
    intro A R a b hn ha hb hNe hok hs H
    obtain rfl := List.length_eq_zero_iff.1 (show R.length = 0 by omega)
    have c1 : ¬ (b : Int) ≤ (N : Int) := by simp at hNe; omega
    have hi := ins_f' (v := v) A [] [] (a : Int) (N : Int) (by omega) (by simp at hNe ⊢; omega) hok hs (by simp; omega)
    refine Ends.step (fun k => ?_) (Ends.bind (f := fun k t => slices_stableCmpFunc_int64.l1 k t (N : Int) v 20) hi (fun r hr => ?_))
    · simp only [slices_stableCmpFunc_int64.l0]
      rw [if_neg c1]
      simp
    · obtain ⟨s, rfl, h1, h2⟩ := hr
      obtain rfl := List.Perm.eq_nil h1
      simpa using H [] (List.Perm.refl _) ⟨0, by simp, List.Pairwise.nil⟩
  | succ n ih =>
    intro A R a b hn ha hb hNe hok hs H
    by_cases c : b ≤ N
    · obtain ⟨B, R1, rfl, hB⟩ : ∃ B R1, R = B ++ R1 ∧ B.length = 20 := ⟨R.take 20, R.drop 20, (List.take_append_drop _ _).symm, by rw [List.length_take]; omega⟩
      rw [List.length_append] at hn hNe
      have hs' := List.pairwise_append.1 hs
      have c1 : (b : Int) ≤ (N : Int) := by omega
      have n1 : (b : Int) + 20 = ((b + 20 : Nat) : Int) := by omega
      have n2 : b + 20 < 4294967296 := by omega
      have hi := ins_f' (v := v) A B R1 (a : Int) (b : Int) (by omega) (by omega) (hok.sub (fun x h => List.mem_append_left _ h)) hs'.1 (by simp; omega)
      refine Ends.step (h := fun k => (slices_insertionSortCmpFunc_int64.f k (A ++ B ++ R1) (a : Int) (b : Int) v).bind fun t => slices_stableCmpFunc_int64.l0 k t (N : Int) v 20 (b : Int) ((b + 20 : Nat) : Int)) (fun k => ?_) (Ends.bind (f := fun k t => slices_stableCmpFunc_int64.l0 k t (N : Int) v 20 (b : Int) ((b + 20 : Nat) : Int)) hi (fun r hr => ?_))
      · have wb := w64n n1 n2
        simp only [slices_stableCmpFunc_int64.l0]
        rw [if_pos c1, wb]
        simp
      · obtain ⟨s, rfl, h1, h2⟩ := hr
        have hsl := h1.length_eq
        refine ih (A ++ s) R1 b (b + 20) (by omega) (by rw [List.length_append]; omega) rfl (by rw [List.length_append]; omega) (hok.sub (fun x h => List.mem_append_right _ h)) hs'.2.1 (fun R' q1 q2 => ?_)
        obtain ⟨c', q2⟩ := q2
        have := H (s ++ R') (h1.append q1) ⟨c' + 1, s, R', rfl, by omega, h2, fun x hx y hy => hs'.2.2 x (h1.mem_iff.1 hx) y (q1.mem_iff.1 hy), q2⟩
        simpa using this
    · have c1 : ¬ (b : Int) ≤ (N : Int) := by omega
      have hi := ins_f' (v := v) A R [] (a : Int) (N : Int) (by omega) (by omega) hok hs (by simp; omega)
      refine Ends.step (fun k => ?_) (Ends.bind (f := fun k t => slices_stableCmpFunc_int64.l1 k t (N : Int) v 20) hi (fun r hr => ?_))
      · simp only [slices_stableCmpFunc_int64.l0]
        rw [if_neg c1]
        simp
      · obtain ⟨s, rfl, h1, h2⟩ := hr
        have hsl := h1.length_eq
        simpa using H s h1 ⟨0, by omega, h2⟩
/-- Blocks are merged two by two. -/
theorem st_l2 {v : List Nat} {P : List Int → Prop} (N bs : Nat) (hN : N < 1073741000) (hbs : 0 < bs) (hbN : bs < N) : ∀ (n : Nat) (A R : List Int) (a b c : Nat), R.length ≤ n → a = A.length → b = a + 2 * bs → N = A.length + R.length → Ok v R → Blk v bs c R →
    (∀ R', R'.Perm R → (∃ c', Blk v (2 * bs) c' R') → Ends (fun k => slices_stableCmpFunc_int64.l1 k (A ++ R') (N : Int) v ((2 * bs : Nat) : Int)) P) →
    Ends (fun k => slices_stableCmpFunc_int64.l2 k (A ++ R) (N : Int) v (bs : Int) (a : Int) (b : Int)) P := by
  intro n
  induction n with
  | zero =>
    intro A R a b c hn ha hb hNe hok hblk H
    have c1 : ¬ (b : Int) ≤ (N : Int) := by omega
    have c2 : ¬ ((a + bs : Nat) : Int) < (N : Int) := by omega
    have n1 : (a : Int) + (bs : Int) = ((a + bs : Nat) : Int) := by omega
    have n2 : a + bs < 4294967296 := by omega
    have n3 : (bs : Int) * 2 = ((2 * bs : Nat) : Int) := by omega
    have n4 : 2 * bs < 4294967296 := by omega
    have hsr := blk_all hblk (by omega)
    refine Ends.step (fun k => ?_) (H R (List.Perm.refl _) ⟨0, by omega, hsr⟩)
    have w1 := w64n n1 n2
    have w2 := w64n n3 n4
    simp only [slices_stableCmpFunc_int64.l2]
    rw [if_neg c1, w1, if_neg c2, w2]
  | succ n ih =>
    intro A R a b c hn ha hb hNe hok hblk H
    have n1 : (a : Int) + (bs : Int) = ((a + bs : Nat) : Int) := by omega
    have n2 : a + bs < 4294967296 := by omega
    have n3 : (bs : Int) * 2 = ((2 * bs : Nat) : Int) := by omega
    have n4 : 2 * bs < 4294967296 := by omega
    have n5 : 2 * (bs : Int) = ((2 * bs : Nat) : Int) := by omega
    by_cases g : b ≤ N
    · have c1 : (b : Int) ≤ (N : Int) := by omega
      have n6 : (b : Int) + ((2 * bs : Nat) : Int) = ((b + 2 * bs : Nat) : Int) := by omega
      have n7 : b + 2 * bs < 4294967296 := by omega
      obtain ⟨B1, B2, R1, c', rfl, l1, l2, s1, s2, x1, x2, hb2⟩ := blk_two hblk hbs (by omega)
      have ll : (B1 ++ B2 ++ R1).length = 2 * bs + R1.length := by simp only [List.length_append]; omega
      have hm := sym_f (v := v) A B1 B2 R1 a (a + bs) b ha (by omega) (by omega) (fun h => by rw [h] at l1; simp at l1; omega) (fun h => by rw [h] at l2; simp at l2; omega) (hok.sub (fun x h => List.mem_append_left _ h)) s1 s2 x1 (by rw [ll] at hNe; simp only [List.length_append]; omega)
      refine Ends.step (h := fun k => (slices_symMergeCmpFunc_int64.f k (A ++ B1 ++ B2 ++ R1) (a : Int) ((a + bs : Nat) : Int) (b : Int) v).bind fun t => slices_stableCmpFunc_int64.l2 k t (N : Int) v (bs : Int) (b : Int) ((b + 2 * bs : Nat) : Int)) (fun k => ?_) (Ends.bind (f := fun k t => slices_stableCmpFunc_int64.l2 k t (N : Int) v (bs : Int) (b : Int) ((b + 2 * bs : Nat) : Int)) hm (fun r hr => ?_))
      · have w1 := w64n n1 n2
        have w2 := w64n n5 n4
        have w3 := w64n n6 n7
        simp only [slices_stableCmpFunc_int64.l2]
        rw [if_pos c1, w1, w2, w3]
        simp
      · obtain ⟨s, rfl, h1, h2⟩ := hr
        have hsl := h1.length_eq
        rw [List.length_append] at hsl
        refine ih (A ++ s) R1 b (b + 2 * bs) c' (by omega) (by rw [List.length_append]; omega) rfl (by rw [List.length_append]; omega) (hok.sub (fun x h => List.mem_append_right _ h)) hb2 (fun R' q1 q2 => ?_)
        obtain ⟨c2, q2⟩ := q2
        have := H (s ++ R') (h1.append q1) ⟨c2 + 1, s, R', rfl, by omega, h2, fun x hx y hy => x2 x (h1.mem_iff.1 hx) y (q1.mem_iff.1 hy), q2⟩
        simpa using this
    · have c1 : ¬ (b : Int) ≤ (N : Int) := by omega
      by_cases g2 : a + bs < N
      · have c2 : ((a + bs : Nat) : Int) < (N : Int) := by omega
        obtain ⟨B1, R1, rfl, l1, s1, s2, x1⟩ := blk_one hblk (by omega) (by omega)
        have ll : (B1 ++ R1).length = bs + R1.length := by simp only [List.length_append]; omega
        have hm := sym_f (v := v) A B1 R1 [] a (a + bs) N ha (by omega) (by omega) (fun h => by rw [h] at l1; simp at l1; omega) (fun h => by rw [h] at ll; simp at ll; rw [h] at hNe; simp at hNe; omega) hok s1 s2 x1 (by rw [ll] at hNe; simp only [List.length_append, List.length_nil]; omega)
        refine Ends.step (h := fun k => (slices_symMergeCmpFunc_int64.f k (A ++ B1 ++ R1 ++ []) (a : Int) ((a + bs : Nat) : Int) (N : Int) v).bind fun t => slices_stableCmpFunc_int64.l1 k t (N : Int) v ((2 * bs : Nat) : Int)) (fun k => ?_) (Ends.bind (f := fun k t => slices_stableCmpFunc_int64.l1 k t (N : Int) v ((2 * bs : Nat) : Int)) hm (fun r hr => ?_))
        · have w1 := w64n n1 n2
          have w2 := w64n n3 n4
          simp only [slices_stableCmpFunc_int64.l2]
          rw [if_neg c1, w1, if_pos c2, w2]
          simp
        · obtain ⟨s, rfl, h1, h2⟩ := hr
          have hsl := h1.length_eq
          rw [ll] at hsl
          have := H s h1 ⟨0, by omega, h2⟩
          simpa using this
      · have c2 : ¬ ((a + bs : Nat) : Int) < (N : Int) := by omega
        have hsr := blk_all hblk (by omega)
        refine Ends.step (fun k => ?_) (H R (List.Perm.refl _) ⟨0, by omega, hsr⟩)
        have w1 := w64n n1 n2
        have w2 := w64n n3 n4
        simp only [slices_stableCmpFunc_int64.l2]
        rw [if_neg c1, w1, if_neg c2, w2]
theorem st_l1 {v : List Nat} {P : List Int → Prop} (N : Nat) (hN : N < 1073741000) : ∀ (n bs c : Nat) (d : List Int), N ≤ n + bs → 0 < bs → bs < 2147483648 → N = d.length → Ok v d → Blk v bs c d → (∀ d', d'.Perm d → Srt v d' → P d') → Ends (fun k => slices_stableCmpFunc_int64.l1 k d (N : Int) v (bs : Int)) P := by
  intro n
  induction n with
  | zero =>
    intro bs c d hn hb hb2 hd hok hblk H
    have c1 : ¬ (bs : Int) < (N : Int) := by omega
    refine Ends.step (h := fun _ => some d) (fun k => ?_) (Ends.now (H d (List.Perm.refl _) (blk_all hblk (by omega))))
    simp only [slices_stableCmpFunc_int64.l1]
    rw [if_neg c1]
  | succ n ih =>
    intro bs c d hn hb hb2 hd hok hblk H
    by_cases g : bs < N
    · have c1 : (bs : Int) < (N : Int) := by omega
      have n5 : 2 * (bs : Int) = ((2 * bs : Nat) : Int) := by omega
      have n4 : 2 * bs < 4294967296 := by omega
      have := st_l2 (v := v) (P := P) N bs hN hb g d.length [] d 0 (2 * bs) c (Nat.le_refl _) rfl (by omega) (by simpa using hd) hok hblk (fun R' q1 q2 => ?_)
      · refine Ends.step (fun k => ?_) this
        have w2 := w64n n5 n4
        simp only [slices_stableCmpFunc_int64.l1]
        rw [if_pos c1, w2]
        simp
      · obtain ⟨c2, q2⟩ := q2
        have hl := q1.length_eq
        have := ih (2 * bs) c2 R' (by omega) (by omega) (by omega) (by omega) (hok.sub (fun x h => q1.mem_iff.1 h)) q2 (fun d' h1 h2 => H d' (h1.trans q1) h2)
        simpa using this
    · have c1 : ¬ (bs : Int) < (N : Int) := by omega
      refine Ends.step (h := fun _ => some d) (fun k => ?_) (Ends.now (H d (List.Perm.refl _) (blk_all hblk (by omega))))
      simp only [slices_stableCmpFunc_int64.l1]
      rw [if_neg c1]
/-- The stable sort: sorted by value, and by place where values are equal. -/
theorem stable_f {v : List Nat} (d : List Int) (hl : d.length < 1073741000) (hok : Ok v d) (hs : d.Pairwise (· < ·)) : Ends (fun k => slices_SortStableFunc_int64_int64.f k d v) (fun r => r.Perm d ∧ Srt v r) := by
  have h1 : Ends (fun k => slices_stableCmpFunc_int64.f k d (d.length : Int) v) (fun r => r.Perm d ∧ Srt v r) := by
    refine Ends.congr (h := fun k => slices_stableCmpFunc_int64.l0 k ([] ++ d) (d.length : Int) v 20 ((0 : Nat) : Int) ((20 : Nat) : Int)) (fun k => rfl) (st_l0 d.length hl d.length [] d 0 20 (Nat.le_refl _) rfl rfl (by simp) hok hs (fun R' q1 q2 => ?_))
    obtain ⟨c, q2⟩ := q2
    exact st_l1 d.length hl d.length 20 c R' (by omega) (by omega) (by omega) q1.length_eq.symm (hok.sub (fun x h => q1.mem_iff.1 h)) q2 (fun d' g1 g2 => ⟨g1.trans q1, g2⟩)
  exact Ends.congr (h := fun k => (slices_stableCmpFunc_int64.f k d (d.length : Int) v).bind fun t => some t) (fun k => rfl) (Ends.bind (f := fun _ t => some t) h1 (fun r hr => Ends.now hr))
end Go.Proofs.Ytncckihaacceaaa.PlainL
