/-
  The merge in place.
-/
import Derived.Test.YtncckihaacceaaaPlainLC
namespace Go.Proofs.Ytncckihaacceaaa.PlainL
open Go.RowKit Go.Proofs.YtncckihaacceaaaW.PrintWords Go.Proofs.YtncckihaacceaaaW.PrintLast Go.Proofs.YtncckihaacceaaaW.PrintMore
open Go.Proofs.Ytncckihaacceaaa.L Go.Proofs.Ytncckihaacceaaa.LOrder

/-- What the merge is to show for lists of at most N numbers. -/
def SymN (v : List Nat) (N : Nat) : Prop := ∀ (A X Y Z : List Int) (a m b : Nat), X.length + Y.length ≤ N → a = A.length → m = a + X.length → b = m + Y.length → X ≠ [] → Y ≠ [] → Ok v (X ++ Y) → Srt v X → Srt v Y → (∀ x, x ∈ X → ∀ y, y ∈ Y → x < y) → (A ++ X ++ Y ++ Z).length < 1073741824 →
  Ends (fun k => slices_symMergeCmpFunc_int64.f k (A ++ X ++ Y ++ Z) (a : Int) (m : Int) (b : Int) v) (fun r => ∃ s, r = A ++ s ++ Z ∧ s.Perm (X ++ Y) ∧ Srt v s)
/-- The two halves are merged, each if need be. -/
theorem sym_j8 {v : List Nat} {N : Nat} (hN : SymN v N) (A X1 Y1 X2 Y2 Z : List Int) (a s c e b : Nat) (h1 : X1.length + Y1.length ≤ N) (h2 : X2.length + Y2.length ≤ N) (ha : a = A.length) (hs : s = a + X1.length) (hc : c = s + Y1.length) (he : e = c + X2.length) (hb : b = e + Y2.length)
    (ok1 : Ok v (X1 ++ Y1)) (ok2 : Ok v (X2 ++ Y2)) (x1 : Srt v X1) (y1 : Srt v Y1) (x2 : Srt v X2) (y2 : Srt v Y2) (p1 : ∀ x, x ∈ X1 → ∀ y, y ∈ Y1 → x < y) (p2 : ∀ x, x ∈ X2 → ∀ y, y ∈ Y2 → x < y)
    (hl : (A ++ X1 ++ Y1 ++ (X2 ++ Y2 ++ Z)).length < 1073741824) (cr : ∀ x, x ∈ X1 ++ Y1 → ∀ y, y ∈ X2 ++ Y2 → Bef v x y) :
    Ends (fun k => slices_symMergeCmpFunc_int64.j7 k (A ++ X1 ++ Y1 ++ (X2 ++ Y2 ++ Z)) (a : Int) (b : Int) v (c : Int) (s : Int) (e : Int)) (fun r => ∃ t, r = A ++ t ++ Z ∧ t.Perm ((X1 ++ Y1) ++ (X2 ++ Y2)) ∧ Srt v t) := by
  -- the second half
  have second : ∀ t1 : List Int, t1.Perm (X1 ++ Y1) → Srt v t1 → Ends (fun k => if (c : Int) < (e : Int) then (if (e : Int) < (b : Int) then ((slices_symMergeCmpFunc_int64.f k (A ++ t1 ++ (X2 ++ Y2 ++ Z)) (c : Int) (e : Int) (b : Int) v).bind fun t => some t) else some (A ++ t1 ++ (X2 ++ Y2 ++ Z))) else some (A ++ t1 ++ (X2 ++ Y2 ++ Z))) (fun r => ∃ t, r = A ++ t ++ Z ∧ t.Perm ((X1 ++ Y1) ++ (X2 ++ Y2)) ∧ Srt v t) := by
    intro t1 q1 q2
    have ql : t1.length = X1.length + Y1.length := by simpa using q1.length_eq
    have fin : ∀ t2 : List Int, t2.Perm (X2 ++ Y2) → Srt v t2 → ∃ t, A ++ (t1 ++ t2) ++ Z = A ++ t ++ Z ∧ t.Perm ((X1 ++ Y1) ++ (X2 ++ Y2)) ∧ Srt v t := fun t2 u1 u2 =>
      ⟨t1 ++ t2, rfl, q1.append u1, List.pairwise_append.2 ⟨q2, u2, fun x hx y hy => cr x (q1.mem_iff.1 hx) y (u1.mem_iff.1 hy)⟩⟩
    have e1 : A ++ t1 ++ (X2 ++ Y2 ++ Z) = (A ++ t1) ++ X2 ++ Y2 ++ Z := by simp
    by_cases hx : X2 = []
    · subst hx
      refine Ends.congr (h := fun _ => some (A ++ t1 ++ ([] ++ Y2 ++ Z))) (fun k => ?_) (Ends.now ?_)
      · rw [if_neg (by simp at he; omega)]
      · have := fin Y2 (by simp) y2
        simpa using this
    · have hx0 : 0 < X2.length := List.length_pos_iff.2 hx
      by_cases hy : Y2 = []
      · subst hy
        refine Ends.congr (h := fun _ => some (A ++ t1 ++ (X2 ++ [] ++ Z))) (fun k => ?_) (Ends.now ?_)
        · rw [if_pos (by omega), if_neg (by simp at hb; omega)]
        · have := fin X2 (by simp) x2
          simpa using this
      · have hy0 : 0 < Y2.length := List.length_pos_iff.2 hy
        refine Ends.congr (h := fun k => (slices_symMergeCmpFunc_int64.f k ((A ++ t1) ++ X2 ++ Y2 ++ Z) (c : Int) (e : Int) (b : Int) v).bind fun t => some t) (fun k => ?_) (Ends.bind (hN (A ++ t1) X2 Y2 Z c e b h2 (by simp; omega) he hb hx hy ok2 x2 y2 p2 (by simp at hl ⊢; omega)) (fun r hr => ?_))
        · rw [if_pos (by omega), if_pos (by omega), e1]
        · obtain ⟨t2, rfl, u1, u2⟩ := hr
          refine Ends.now ?_
          have := fin t2 u1 u2
          simpa using this
  by_cases hx : X1 = []
  · subst hx
    refine Ends.step (h := fun k => slices_symMergeCmpFunc_int64.j8 k (A ++ [] ++ Y1 ++ (X2 ++ Y2 ++ Z)) (a : Int) (b : Int) v (c : Int) (s : Int) (e : Int) false) (fun k => ?_) (Ends.step (fun k => ?_) (second Y1 (by simp) y1))
    · simp only [slices_symMergeCmpFunc_int64.j7]
      rw [if_neg (by simp at hs; omega)]
    · simp only [slices_symMergeCmpFunc_int64.j8, Bool.false_eq_true, if_false, List.append_nil]
  · have hx0 : 0 < X1.length := List.length_pos_iff.2 hx
    by_cases hy : Y1 = []
    · subst hy
      refine Ends.step (h := fun k => slices_symMergeCmpFunc_int64.j8 k (A ++ X1 ++ [] ++ (X2 ++ Y2 ++ Z)) (a : Int) (b : Int) v (c : Int) (s : Int) (e : Int) false) (fun k => ?_) (Ends.step (fun k => ?_) (second X1 (by simp) x1))
      · simp only [slices_symMergeCmpFunc_int64.j7]
        rw [if_pos (by omega), decide_eq_false (by simp at hc; omega)]
      · simp only [slices_symMergeCmpFunc_int64.j8, Bool.false_eq_true, if_false, List.append_nil]
    · have hy0 : 0 < Y1.length := List.length_pos_iff.2 hy
      refine Ends.step (h := fun k => slices_symMergeCmpFunc_int64.j8 k (A ++ X1 ++ Y1 ++ (X2 ++ Y2 ++ Z)) (a : Int) (b : Int) v (c : Int) (s : Int) (e : Int) true) (fun k => ?_) (Ends.step (fun k => ?_) (Ends.bind (f := fun k t => if (c : Int) < (e : Int) then (if (e : Int) < (b : Int) then ((slices_symMergeCmpFunc_int64.f k t (c : Int) (e : Int) (b : Int) v).bind fun t => some t) else some t) else some t) (hN A X1 Y1 (X2 ++ Y2 ++ Z) a s c h1 ha hs hc hx hy ok1 x1 y1 p1 hl) (fun r hr => ?_)))
      · simp only [slices_symMergeCmpFunc_int64.j7]
        rw [if_pos (by omega), decide_eq_true (by omega)]
      · simp only [slices_symMergeCmpFunc_int64.j8, if_true]
      · obtain ⟨t1, rfl, q1, q2⟩ := hr
        exact second t1 q1 q2
theorem w64n {n : Int} {x : Nat} (e : n = (x : Int)) (h : x < 4294967296) : wrap64 n = (x : Int) := by
  subst e
  exact w64 (by omega) (by omega)
theorem mid64' (a b c : Nat) (hc : (a + b) / 2 = c) (h : a + b < 4294967296) : wrap64 ((IntKind.u64.wrap (wrap64 ((a : Int) + (b : Int)))) / 2) = (c : Int) := by
  rw [mid64 a b (by omega), hc]
/-- Where the search begins. -/
theorem sym_lo {v : List Nat} (D : List Int) (a m b x y h p : Nat) (hm : m = a + x) (hb : b = m + y) (hx : 2 ≤ x) (hy : 2 ≤ y) (hh1 : 2 * h ≤ x + y) (hh2 : x + y ≤ 2 * h + 1) (hp : p + 1 = a + h + m) (hl : b < 1073741824) :
    ∃ lo hi : Nat, (lo ≤ hi ∧ a ≤ lo ∧ hi ≤ a + x ∧ hi ≤ a + h ∧ a + h ≤ lo + y ∧ (lo = a ∨ a + h = lo + y) ∧ (hi = a + h ∨ hi = a + x)) ∧
      ∀ P, Ends (fun k => slices_symMergeCmpFunc_int64.l4 k D (a : Int) (m : Int) (b : Int) v ((a + h : Nat) : Int) ((a + h + m : Nat) : Int) (lo : Int) (hi : Int) (p : Int)) P → Ends (fun k => slices_symMergeCmpFunc_int64.f k D (a : Int) (m : Int) (b : Int) v) P := by
  have hmid : (a + b) / 2 = a + h := by omega
  have n1 : (m : Int) - (a : Int) = (x : Int) := by omega
  have n2 : (b : Int) - (m : Int) = (y : Int) := by omega
  have n3 : ((a + h : Nat) : Int) + (m : Int) = ((a + h + m : Nat) : Int) := by omega
  have n4 : ((a + h + m : Nat) : Int) - 1 = (p : Int) := by omega
  have l1 : x < 4294967296 := by omega
  have l2 : y < 4294967296 := by omega
  have l3 : a + h + m < 4294967296 := by omega
  have l4 : p < 4294967296 := by omega
  have l5 : a + b < 4294967296 := by omega
  have z1 : ¬ (x : Int) = 1 := by omega
  have z2 : ¬ (y : Int) = 1 := by omega
  obtain ⟨lo, hi, hf, hc⟩ : ∃ lo hi : Nat, (lo ≤ hi ∧ a ≤ lo ∧ hi ≤ a + x ∧ hi ≤ a + h ∧ a + h ≤ lo + y ∧ (lo = a ∨ a + h = lo + y) ∧ (hi = a + h ∨ hi = a + x)) ∧ (((m : Int) > ((a + h : Nat) : Int) ∧ ((a + h + m : Nat) : Int) - (b : Int) = (lo : Int) ∧ lo < 4294967296 ∧ hi = a + h) ∨ (¬ (m : Int) > ((a + h : Nat) : Int) ∧ lo = a ∧ hi = m)) := by
    by_cases hg : h < x
    · obtain ⟨lo, hlo⟩ : ∃ lo, lo + y = a + h := ⟨a + h - y, by omega⟩
      exact ⟨lo, a + h, ⟨by omega, by omega, by omega, by omega, by omega, .inr (by omega), .inl rfl⟩, .inl ⟨by omega, by omega, by omega, rfl⟩⟩
    · exact ⟨a, m, ⟨by omega, by omega, by omega, by omega, by omega, .inl rfl, .inr hm⟩, .inr ⟨by omega, rfl, rfl⟩⟩
  have wm := w64n n1 l1
  have wb := w64n n2 l2
  have wmid := mid64' a b (a + h) hmid l5
  have wn := w64n n3 l3
  have wp := w64n n4 l4
  refine ⟨lo, hi, hf, fun P H => Ends.step (h := fun k => slices_symMergeCmpFunc_int64.j4 k D (a : Int) (m : Int) (b : Int) v ((a + h : Nat) : Int) ((a + h + m : Nat) : Int) (lo : Int) (hi : Int)) (fun k => ?_) (Ends.step (fun k => ?_) H)⟩
  · rcases hc with ⟨c1, c2, c3, rfl⟩ | ⟨c1, rfl, rfl⟩
    · have we := w64n c2 c3
      simp only [slices_symMergeCmpFunc_int64.f]
      rw [wm, wb, if_neg z1, if_neg z2, wmid, wn, if_pos c1, we]
    · simp only [slices_symMergeCmpFunc_int64.f]
      rw [wm, wb, if_neg z1, if_neg z2, wmid, wn, if_neg c1]
  · simp only [slices_symMergeCmpFunc_int64.j4]
    rw [wp]
/-- The search. -/
theorem sym_find {v : List Nat} (A X Y Z : List Int) (a m b h p lo hi : Nat) (hp : p + 1 = a + h + m) (ha : a = A.length) (hm : m = a + X.length) (hlh : lo ≤ hi) (hlo : a ≤ lo) (hhi : hi ≤ a + X.length) (b1 : hi ≤ a + h) (b2 : a + h ≤ lo + Y.length)
    (hok : Ok v (X ++ Y)) (hx : Srt v X) (hy : Srt v Y) (hlen : A.length + X.length + Y.length + Z.length < 1073741824) :
    ∃ s : Nat, lo ≤ s ∧ s ≤ hi ∧ (∀ t, lo ≤ t → t < s → ¬ K v (X.getD (t - a) 0) < K v (Y.getD (a + h - 1 - t) 0)) ∧ (∀ t, s ≤ t → t < hi → ¬ ¬ K v (X.getD (t - a) 0) < K v (Y.getD (a + h - 1 - t) 0)) ∧
      ∀ P : List Int → Prop, Ends (fun k => if (s : Int) < (m : Int) then (slices_symMergeCmpFunc_int64.j6 k (A ++ X ++ Y ++ Z) (a : Int) (m : Int) (b : Int) v ((a + h : Nat) : Int) (s : Int) (wrap64 (((a + h + m : Nat) : Int) - (s : Int))) (decide ((m : Int) < wrap64 (((a + h + m : Nat) : Int) - (s : Int))))) else (slices_symMergeCmpFunc_int64.j6 k (A ++ X ++ Y ++ Z) (a : Int) (m : Int) (b : Int) v ((a + h : Nat) : Int) (s : Int) (wrap64 (((a + h + m : Nat) : Int) - (s : Int))) false)) P →
        Ends (fun k => slices_symMergeCmpFunc_int64.l4 k (A ++ X ++ Y ++ Z) (a : Int) (m : Int) (b : Int) v ((a + h : Nat) : Int) ((a + h + m : Nat) : Int) (lo : Int) (hi : Int) (p : Int)) P := by
  have eX : ∀ t : Nat, t < X.length → ∀ i : Int, i = ((a + t : Nat) : Int) → rd (A ++ X ++ Y ++ Z) i = X.getD t 0 := by
    intro t ht i hi
    rw [show A ++ X ++ Y ++ Z = A ++ X ++ (Y ++ Z) by simp]
    exact rd_seg _ _ _ t ht i (by omega)
  have eY : ∀ t : Nat, t < Y.length → ∀ i : Int, i = ((m + t : Nat) : Int) → rd (A ++ X ++ Y ++ Z) i = Y.getD t 0 := by
    intro t ht i hi
    exact rd_seg (A ++ X) Y Z t ht i (by simp; omega)
  have hl2 : ((A ++ X ++ Y ++ Z).length : Int) = (A.length : Int) + (X.length : Int) + (Y.length : Int) + (Z.length : Int) := by simp; omega
  obtain ⟨D, hD⟩ : ∃ D, A ++ X ++ Y ++ Z = D := ⟨_, rfl⟩
  rw [hD] at eX eY hl2
  rw [hD]
  refine halves (fun k i j => slices_symMergeCmpFunc_int64.l4 k D (a : Int) (m : Int) (b : Int) v ((a + h : Nat) : Int) ((a + h + m : Nat) : Int) i j (p : Int))
    (fun k i => if i < (m : Int) then (slices_symMergeCmpFunc_int64.j6 k D (a : Int) (m : Int) (b : Int) v ((a + h : Nat) : Int) i (wrap64 (((a + h + m : Nat) : Int) - i)) (decide ((m : Int) < wrap64 (((a + h + m : Nat) : Int) - i)))) else (slices_symMergeCmpFunc_int64.j6 k D (a : Int) (m : Int) (b : Int) v ((a + h : Nat) : Int) i (wrap64 (((a + h + m : Nat) : Int) - i)) false))
    (fun c => ¬ K v (X.getD (c - a) 0) < K v (Y.getD (a + h - 1 - c) 0)) lo hi (fun i j h0 h1 h2 => ?_) (fun i h0 h1 k => ?_) (fun s t h0 h1 h2 hp => ?_) (hi - lo) lo hi (Nat.le_refl _) (Nat.le_refl _) hlh (Nat.le_refl _)
  · obtain ⟨g, hg⟩ : ∃ g, (i + j) / 2 = g := ⟨_, rfl⟩
    have g0 : i ≤ g := by omega
    have g1 : g < j := by omega
    have q1 : g - a < X.length := by omega
    have q2 : a + h - 1 - g < Y.length := by omega
    obtain ⟨c, hc, hc2⟩ := cmp_f (i := Y.getD (a + h - 1 - g) 0) (j := X.getD (g - a) 0) hok (List.mem_append_right _ (getD_mem q2)) (List.mem_append_left _ (getD_mem q1))
    have y1 := eY _ q2 _ rfl
    have x1 := eX _ q1 (g : Int) (by omega)
    have n1 : (i : Int) < (j : Int) := by omega
    have n2 : (0 : Int) ≤ ((m + (a + h - 1 - g) : Nat) : Int) := by omega
    have n3 : ((m + (a + h - 1 - g) : Nat) : Int) < (D.length : Int) := by omega
    have n4 : (0 : Int) ≤ (g : Int) := by omega
    have n5 : (g : Int) < (D.length : Int) := by omega
    have u1 : (g : Int) + 1 = ((g + 1 : Nat) : Int) := by omega
    have u2 : (p : Int) - (g : Int) = ((m + (a + h - 1 - g) : Nat) : Int) := by omega
    have u3 : m + (a + h - 1 - g) < 4294967296 := by omega
    have u4 : g + 1 < 4294967296 := by omega
    have u5 : i + j < 4294967296 := by omega
    have em := mid64' i j g hg u5
    have ew := w64n u1 u4
    have ed := w64n u2 u3
    rw [hg]
    constructor
    · intro hp k
      have hn : ¬ c < 0 := fun h => hp (hc2.1 h)
      simp only [slices_symMergeCmpFunc_int64.l4]
      rw [em, ed, if_pos n1, if_pos n2, if_pos n3, if_pos n4, if_pos n5, y1, x1, hc]
      simp only [Option.bind_some]
      rw [if_neg hn, ew]
    · intro hp k
      have hn : c < 0 := hc2.2 (Decidable.not_not.1 hp)
      simp only [slices_symMergeCmpFunc_int64.l4]
      rw [em, ed, if_pos n1, if_pos n2, if_pos n3, if_pos n4, if_pos n5, y1, x1, hc]
      simp only [Option.bind_some]
      rw [if_pos hn]
  · simp only [slices_symMergeCmpFunc_int64.l4]
    rw [if_neg (by omega)]
  · have k1 := srt_K hx (s := s - a) (t := t - a) (by omega) (by omega)
    have k2 := srt_K hy (s := a + h - 1 - t) (t := a + h - 1 - s) (by omega) (by omega)
    show ¬ K v (X.getD (s - a) 0) < K v (Y.getD (a + h - 1 - s) 0)
    have hp' : ¬ K v (X.getD (t - a) 0) < K v (Y.getD (a + h - 1 - t) 0) := hp
    omega
end Go.Proofs.Ytncckihaacceaaa.PlainL
