/-
  The merge in place, whole.
-/
import Derived.Test.YtncckihaacceaaaPlainLD
namespace Go.Proofs.Ytncckihaacceaaa.PlainL
open Go.RowKit Go.Proofs.YtncckihaacceaaaW.PrintWords Go.Proofs.YtncckihaacceaaaW.PrintLast Go.Proofs.YtncckihaacceaaaW.PrintMore
open Go.Proofs.Ytncckihaacceaaa.L Go.Proofs.Ytncckihaacceaaa.LOrder

/-- The two middle parts change places, if need be. -/
theorem sym_turn {v : List Nat} {P : List Int → Prop} (A X1 X2 Y1 Y2 Z : List Int) (a m b c s e : Nat) (hs : s = A.length + X1.length) (hm : m = s + X2.length) (he : e = m + Y1.length) (hl : (A ++ X1 ++ X2 ++ Y1 ++ (Y2 ++ Z)).length < 1073741824) (cm : Nat) (hcm : cm = s + e) (hsm : cm < 4294967296) (hcs : c + m = cm)
    (H : Ends (fun k => slices_symMergeCmpFunc_int64.j7 k (A ++ X1 ++ Y1 ++ (X2 ++ Y2 ++ Z)) (a : Int) (b : Int) v (c : Int) (s : Int) (e : Int)) P) :
    Ends (fun k => if (s : Int) < (m : Int) then (slices_symMergeCmpFunc_int64.j6 k (A ++ X1 ++ X2 ++ Y1 ++ (Y2 ++ Z)) (a : Int) (m : Int) (b : Int) v (c : Int) (s : Int) (wrap64 ((cm : Int) - (s : Int))) (decide ((m : Int) < wrap64 ((cm : Int) - (s : Int))))) else (slices_symMergeCmpFunc_int64.j6 k (A ++ X1 ++ X2 ++ Y1 ++ (Y2 ++ Z)) (a : Int) (m : Int) (b : Int) v (c : Int) (s : Int) (wrap64 ((cm : Int) - (s : Int))) false)) P := by
  have n1 : (cm : Int) - (s : Int) = (e : Int) := by omega
  have n2 : e < 4294967296 := by omega
  have r1 : (s : Int) = ((A ++ X1).length : Int) := by simp; omega
  have r2 : (m : Int) = (s : Int) + (X2.length : Int) := by omega
  have r3 : (e : Int) = (m : Int) + (Y1.length : Int) := by omega
  have we := w64n n1 n2
  rw [we]
  clear we n1 n2
  by_cases g1 : X2 = []
  · subst g1
    have c1 : ¬ (s : Int) < (m : Int) := by simp at hm; omega
    refine Ends.congr (h := fun k => slices_symMergeCmpFunc_int64.j6 k (A ++ X1 ++ [] ++ Y1 ++ (Y2 ++ Z)) (a : Int) (m : Int) (b : Int) v (c : Int) (s : Int) (e : Int) false) (fun k => ?_) (Ends.step (fun k => ?_) H)
    · rw [if_neg c1]
    · simp only [slices_symMergeCmpFunc_int64.j6, Bool.false_eq_true, if_false]
      simp
  · have g1' : 0 < X2.length := List.length_pos_iff.2 g1
    have c1 : (s : Int) < (m : Int) := by omega
    by_cases g2 : Y1 = []
    · subst g2
      have c2 : ¬ (m : Int) < (e : Int) := by simp at he; omega
      refine Ends.congr (h := fun k => slices_symMergeCmpFunc_int64.j6 k (A ++ X1 ++ X2 ++ [] ++ (Y2 ++ Z)) (a : Int) (m : Int) (b : Int) v (c : Int) (s : Int) (e : Int) false) (fun k => ?_) (Ends.step (fun k => ?_) H)
      · rw [if_pos c1, decide_eq_false c2]
      · simp only [slices_symMergeCmpFunc_int64.j6, Bool.false_eq_true, if_false]
        simp
    · have g2' : 0 < Y1.length := List.length_pos_iff.2 g2
      have c2 : (m : Int) < (e : Int) := by omega
      have rot := rot_f (v := v) (A ++ X1) X2 Y1 (Y2 ++ Z) (s : Int) (m : Int) (e : Int) r1 r2 r3 g1 g2 hl
      refine Ends.congr (h := fun k => slices_symMergeCmpFunc_int64.j6 k (A ++ X1 ++ X2 ++ Y1 ++ (Y2 ++ Z)) (a : Int) (m : Int) (b : Int) v (c : Int) (s : Int) (e : Int) true) (fun k => ?_) (Ends.step (fun k => ?_) (Ends.bind (f := fun k r => slices_symMergeCmpFunc_int64.j7 k r (a : Int) (b : Int) v (c : Int) (s : Int) (e : Int)) rot (fun r hr => ?_)))
      · rw [if_pos c1, decide_eq_true c2]
      · simp only [slices_symMergeCmpFunc_int64.j6, if_true]
      · subst hr
        have e9 : A ++ X1 ++ Y1 ++ X2 ++ (Y2 ++ Z) = A ++ X1 ++ Y1 ++ (X2 ++ Y2 ++ Z) := by simp
        rw [e9]
        exact H
/-- The four parts stand in order. -/
theorem sym_cross {v : List Nat} (X Y : List Int) (a h lo hi t : Nat) (hx : Srt v X) (hy : Srt v Y) (hxy : ∀ x, x ∈ X → ∀ y, y ∈ Y → x < y) (q : lo ≤ a + t ∧ a + t ≤ hi ∧ hi ≤ a + X.length ∧ hi ≤ a + h ∧ a + h ≤ lo + Y.length ∧ (lo = a ∨ a + h = lo + Y.length) ∧ (hi = a + h ∨ hi = a + X.length))
    (a3 : ∀ c, lo ≤ c → c < a + t → ¬ K v (X.getD (c - a) 0) < K v (Y.getD (a + h - 1 - c) 0)) (a4 : ∀ c, a + t ≤ c → c < hi → ¬ ¬ K v (X.getD (c - a) 0) < K v (Y.getD (a + h - 1 - c) 0)) :
    ∀ x, x ∈ X.take t ++ Y.take (h - t) → ∀ y, y ∈ X.drop t ++ Y.drop (h - t) → Bef v x y := by
  have sx : Srt v (X.take t ++ X.drop t) := by rw [List.take_append_drop]; exact hx
  have sy : Srt v (Y.take (h - t) ++ Y.drop (h - t)) := by rw [List.take_append_drop]; exact hy
  have sx' := (List.pairwise_append.1 sx).2.2
  have sy' := (List.pairwise_append.1 sy).2.2
  have c1 : ∀ x, x ∈ X.take t → ∀ y, y ∈ Y.drop (h - t) → Bef v x y := by
    intro x hx1 y hy1
    have hlt := hxy x (List.mem_of_mem_take hx1) y (List.mem_of_mem_drop hy1)
    obtain ⟨u, u1, u2, rfl⟩ := take_get hx1
    obtain ⟨w, w1, w2, rfl⟩ := drop_get hy1
    have p1 : lo ≤ a + t - 1 := by omega
    have p2 : a + t - 1 < a + t := by omega
    have p3 : a + t - 1 - a = t - 1 := by omega
    have p4 : a + h - 1 - (a + t - 1) = h - t := by omega
    have this := a3 (a + t - 1) p1 p2
    rw [p3, p4] at this
    have k1 := srt_K hx (s := u) (t := t - 1) (by omega) (by omega)
    have k2 := srt_K hy (s := h - t) (t := w) (by omega) (by omega)
    have k3 : ¬ K v (X.getD u 0) < K v (Y.getD w 0) := fun h => this (Int.lt_of_le_of_lt k1 (Int.lt_of_lt_of_le h k2))
    rcases Int.lt_trichotomy (K v (Y.getD w 0)) (K v (X.getD u 0)) with g | g | g
    · exact .inl g
    · exact .inr ⟨g.symm, hlt⟩
    · exact absurd g k3
  have c2 : ∀ y, y ∈ Y.take (h - t) → ∀ x, x ∈ X.drop t → Bef v y x := by
    intro y hy1 x hx1
    obtain ⟨u, u1, u2, rfl⟩ := drop_get hx1
    obtain ⟨w, w1, w2, rfl⟩ := take_get hy1
    have p2 : a + t < hi := by omega
    have p3 : a + t - a = t := by omega
    have p4 : a + h - 1 - (a + t) = h - t - 1 := by omega
    have this := a4 (a + t) (Nat.le_refl _) p2
    rw [p3, p4] at this
    have k1 := srt_K hx (s := t) (t := u) (by omega) (by omega)
    have k2 := srt_K hy (s := w) (t := h - t - 1) (by omega) (by omega)
    exact .inl (Int.lt_of_le_of_lt k1 (Int.lt_of_lt_of_le (Decidable.not_not.1 this) k2))
  intro x hx1 y hy1
  rcases List.mem_append.1 hx1 with h1 | h1
  · rcases List.mem_append.1 hy1 with h2 | h2
    · exact sx' x h1 y h2
    · exact c1 x h1 y h2
  · rcases List.mem_append.1 hy1 with h2 | h2
    · exact c2 x h1 y h2
    · exact sy' x h1 y h2
theorem parts_perm (X Y : List Int) (t u : Nat) : ((X.take t ++ Y.take u) ++ (X.drop t ++ Y.drop u)).Perm (X ++ Y) := by
  have q1 : ((X.take t ++ Y.take u) ++ (X.drop t ++ Y.drop u)).Perm ((X.take t ++ X.drop t) ++ (Y.take u ++ Y.drop u)) := by
    rw [List.append_assoc, List.append_assoc]
    refine List.Perm.append_left _ ?_
    rw [← List.append_assoc, ← List.append_assoc]
    exact List.Perm.append_right _ List.perm_append_comm
  rwa [List.take_append_drop, List.take_append_drop] at q1
theorem sym_all (v : List Nat) : ∀ N, SymN v N := by
  intro N
  induction N with
  | zero =>
    intro A X Y Z a m b hN _ _ _ hX
    exact absurd (List.length_eq_zero_iff.1 (by omega)) hX
  | succ N ih =>
    intro A X Y Z a m b hN ha hm hb hX hY hok hx hy hxy hl
    have hX0 : 0 < X.length := List.length_pos_iff.2 hX
    have hY0 : 0 < Y.length := List.length_pos_iff.2 hY
    have hl' : A.length + X.length + Y.length + Z.length < 1073741824 := by simp at hl; omega
    by_cases h1 : X.length = 1
    · obtain ⟨x, rfl⟩ := List.length_eq_one_iff.1 h1
      have e0 : A ++ [x] ++ Y ++ Z = A ++ x :: Y ++ Z := by simp
      have n1 : (m : Int) - (a : Int) = ((1 : Nat) : Int) := by simp at hm; omega
      have e2 : m = A.length + 1 := by simp at hm; omega
      have e3 : b = A.length + 1 + Y.length := by omega
      rw [e0]
      refine Ends.step (fun k => ?_) (sym_one A Y Z x (by simpa using hok) hy (fun y h => hxy x (by simp) y h) (by rw [← e0]; exact hl))
      have wm := w64n n1 (by decide)
      simp only [slices_symMergeCmpFunc_int64.f]
      rw [wm, if_pos (by decide), e2, e3, ha]
    · by_cases h2 : Y.length = 1
      · obtain ⟨y, rfl⟩ := List.length_eq_one_iff.1 h2
        have e0 : A ++ X ++ [y] ++ Z = A ++ X ++ y :: Z := by simp
        have n1 : (m : Int) - (a : Int) = (X.length : Int) := by omega
        have n2 : (b : Int) - (m : Int) = ((1 : Nat) : Int) := by simp at hb; omega
        have n3 : ¬ (X.length : Int) = 1 := by omega
        have n4 : X.length < 4294967296 := by omega
        have e2 : m = A.length + X.length := by omega
        rw [e0]
        refine Ends.step (fun k => ?_) (sym_last A X Z y hok hx (fun x h => hxy x h y (by simp)) (by rw [← e0]; exact hl))
        have wm := w64n n1 n4
        have wb := w64n n2 (by decide)
        simp only [slices_symMergeCmpFunc_int64.f]
        rw [wm, wb, if_neg n3, if_pos (by decide), e2, ha]
      · obtain ⟨h, hh⟩ : ∃ h, h = (X.length + Y.length) / 2 := ⟨_, rfl⟩
        obtain ⟨p, hp⟩ : ∃ p, p + 1 = a + h + m := ⟨a + h + m - 1, by omega⟩
        obtain ⟨lo, hi, ⟨q1, q2, q3, q4, q5, q6, q7⟩, hf⟩ := sym_lo (v := v) (A ++ X ++ Y ++ Z) a m b X.length Y.length h p hm hb (by omega) (by omega) (by omega) (by omega) hp (by omega)
        refine hf _ ?_
        obtain ⟨s, a1, a2, a3, a4, a5⟩ := sym_find (v := v) A X Y Z a m b h p lo hi hp ha hm q1 q2 q3 q4 q5 hok hx hy hl'
        refine a5 _ ?_
        obtain ⟨t, rfl⟩ : ∃ t, s = a + t := ⟨s - a, by omega⟩
        have cr := sym_cross X Y a h lo hi t hx hy hxy ⟨a1, a2, q3, q4, q5, q6, q7⟩ a3 a4
        clear a3 a4 a5 hf
        have tx : t ≤ X.length := by omega
        have th : t ≤ h := by omega
        have ty : h - t ≤ Y.length := by omega
        have lx1 : (X.take t).length = t := by rw [List.length_take]; omega
        have lx2 : (X.drop t).length = X.length - t := List.length_drop
        have ly1 : (Y.take (h - t)).length = h - t := by rw [List.length_take]; omega
        have ly2 : (Y.drop (h - t)).length = Y.length - (h - t) := List.length_drop
        have sx : Srt v (X.take t ++ X.drop t) := by rw [List.take_append_drop]; exact hx
        have sy : Srt v (Y.take (h - t) ++ Y.drop (h - t)) := by rw [List.take_append_drop]; exact hy
        have sx' := List.pairwise_append.1 sx
        have sy' := List.pairwise_append.1 sy
        have hperm := parts_perm X Y t (h - t)
        have eD : A ++ X ++ Y ++ Z = A ++ X.take t ++ X.drop t ++ Y.take (h - t) ++ (Y.drop (h - t) ++ Z) := by
          simp only [List.append_assoc]
          rw [← List.append_assoc (Y.take (h - t)), List.take_append_drop, ← List.append_assoc (X.take t), List.take_append_drop]
        rw [eD] at hl ⊢
        refine sym_turn A (X.take t) (X.drop t) (Y.take (h - t)) (Y.drop (h - t)) Z a m b (a + h) (a + t) (m + (h - t)) (by omega) (by omega) (by omega) hl (a + h + m) (by omega) (by omega) (by omega) ?_
        refine (sym_j8 ih A (X.take t) (Y.take (h - t)) (X.drop t) (Y.drop (h - t)) Z a (a + t) (a + h) (m + (h - t)) b (by omega) (by omega) ha (by omega) (by omega) (by omega) (by omega) ?_ ?_ sx'.1 sy'.1 sx'.2.1 sy'.2.1 ?_ ?_ ?_ cr).imp (fun r hr => ?_)
        · exact hok.sub (fun z hz => by
            rcases List.mem_append.1 hz with h | h
            · exact List.mem_append_left _ (List.mem_of_mem_take h)
            · exact List.mem_append_right _ (List.mem_of_mem_take h))
        · exact hok.sub (fun z hz => by
            rcases List.mem_append.1 hz with h | h
            · exact List.mem_append_left _ (List.mem_of_mem_drop h)
            · exact List.mem_append_right _ (List.mem_of_mem_drop h))
        · exact fun x hx y hy => hxy x (List.mem_of_mem_take hx) y (List.mem_of_mem_take hy)
        · exact fun x hx y hy => hxy x (List.mem_of_mem_drop hx) y (List.mem_of_mem_drop hy)
        · simp only [List.length_append, lx1, lx2, ly1, ly2]
          omega
        · obtain ⟨q, g1, g2, g3⟩ := hr
          exact ⟨q, g1, g2.trans hperm, g3⟩
theorem sym_f {v : List Nat} (A X Y Z : List Int) (a m b : Nat) (ha : a = A.length) (hm : m = a + X.length) (hb : b = m + Y.length) (hX : X ≠ []) (hY : Y ≠ []) (hok : Ok v (X ++ Y)) (hx : Srt v X) (hy : Srt v Y) (hxy : ∀ x, x ∈ X → ∀ y, y ∈ Y → x < y) (hl : (A ++ X ++ Y ++ Z).length < 1073741824) :
    Ends (fun k => slices_symMergeCmpFunc_int64.f k (A ++ X ++ Y ++ Z) (a : Int) (m : Int) (b : Int) v) (fun r => ∃ s, r = A ++ s ++ Z ∧ s.Perm (X ++ Y) ∧ Srt v s) :=
  sym_all v _ A X Y Z a m b (Nat.le_refl _) ha hm hb hX hY hok hx hy hxy hl
end Go.Proofs.Ytncckihaacceaaa.PlainL
