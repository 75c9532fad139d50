/-
  StrongLobes in plain Lean: runs of a function that end; the order by value and place; segments of a list; insertion.
-/
import Derived.Test.YtncckihaacceaaaLx9
import Derived.Test.YtncckihaacceaaaLOrder
namespace Go.Proofs.Ytncckihaacceaaa.PlainL
open Go.RowKit Go.Proofs.YtncckihaacceaaaW.PrintWords Go.Proofs.YtncckihaacceaaaW.PrintLast Go.Proofs.YtncckihaacceaaaW.PrintMore
open Go.Proofs.Ytncckihaacceaaa.L Go.Proofs.Ytncckihaacceaaa.LOrder

/-! Runs that end. -/
def Ends {α : Type} (g : Nat → Option α) (P : α → Prop) : Prop := ∃ r K, (∀ k, K ≤ k → g k = some r) ∧ P r
theorem Ends.step {α : Type} {g h : Nat → Option α} {P : α → Prop} (e : ∀ k, g (k + 1) = h k) (H : Ends h P) : Ends g P := by
  obtain ⟨r, K, hk, hr⟩ := H
  refine ⟨r, K + 1, fun k h => ?_, hr⟩
  obtain ⟨k, rfl⟩ : ∃ j, k = j + 1 := ⟨k - 1, by omega⟩
  rw [e]
  exact hk k (by omega)
theorem Ends.now {α : Type} {r : α} {P : α → Prop} (h : P r) : Ends (fun _ => some r) P := ⟨r, 0, fun _ _ => rfl, h⟩
theorem Ends.bind {α β : Type} {g : Nat → Option α} {f : Nat → α → Option β} {P : α → Prop} {Q : β → Prop} (H : Ends g P) (hf : ∀ r, P r → Ends (fun k => f k r) Q) : Ends (fun k => (g k).bind (f k)) Q := by
  obtain ⟨r, K, hk, hr⟩ := H
  obtain ⟨s, L, hl, hs⟩ := hf r hr
  refine ⟨s, K + L, fun k h => ?_, hs⟩
  show (g k).bind (f k) = _
  rw [hk k (by omega)]
  exact hl k (by omega)
theorem Ends.imp {α : Type} {g : Nat → Option α} {P Q : α → Prop} (H : Ends g P) (h : ∀ r, P r → Q r) : Ends g Q := by
  obtain ⟨r, K, hk, hr⟩ := H
  exact ⟨r, K, hk, h r hr⟩
theorem Ends.congr {α : Type} {g h : Nat → Option α} {P : α → Prop} (e : ∀ k, g k = h k) (H : Ends h P) : Ends g P := by
  rw [funext e]
  exact H
theorem w64 {n : Int} (h0 : -9223372036854775808 ≤ n) (h1 : n ≤ 9223372036854775807) : wrap64 n = n := by unfold wrap64; omega
theorem mid64 (a b : Nat) (h : a + b < 2305843009213693952) : wrap64 ((IntKind.u64.wrap (wrap64 ((a : Int) + (b : Int)))) / 2) = (((a + b) / 2 : Nat) : Int) := by
  have e1 : wrap64 ((a : Int) + (b : Int)) = (a : Int) + (b : Int) := w64 (by omega) (by omega)
  have e2 : IntKind.u64.wrap ((a : Int) + (b : Int)) = (a : Int) + (b : Int) := by
    simp only [IntKind.wrap, IntKind.signed, IntKind.bits]
    simp
    omega
  rw [e1, e2, w64 (by omega) (by omega)]
  omega

/-! The order. -/
/-- What the word at a place stands for. -/
def K (v : List Nat) (i : Int) : Int := key (rdOf (0 : Nat) v i)
/-- Place i comes ahead of place j. -/
def Bef (v : List Nat) (i j : Int) : Prop := K v j < K v i ∨ (K v i = K v j ∧ i < j)
theorem Bef.trans {v : List Nat} {a b c : Int} (h : Bef v a b) (k : Bef v b c) : Bef v a c := by
  unfold Bef at *; omega
theorem Bef.irrefl {v : List Nat} {a : Int} (h : Bef v a a) : False := by unfold Bef at h; omega
/-- Places that hold numbers. -/
def Ok (v : List Nat) (xs : List Int) : Prop := ∀ x, x ∈ xs → 0 ≤ x ∧ x < (v.length : Int) ∧ (FloatKind.f32.decode (rdOf (0 : Nat) v x)).isNaN = false
theorem cmp_f {v : List Nat} {xs : List Int} (h : Ok v xs) {i j : Int} (hi : i ∈ xs) (hj : j ∈ xs) : ∃ c, impl_StrongLobes_1.f i j v = some c ∧ (c < 0 ↔ K v j < K v i) := by
  obtain ⟨i0, i1, i2⟩ := h i hi
  obtain ⟨j0, j1, j2⟩ := h j hj
  unfold impl_StrongLobes_1.f
  rw [if_pos ⟨i0, i1, j0, j1⟩]
  refine ⟨_, rfl, ?_⟩
  unfold cmpF K
  rw [gt_key _ _ i2 j2, lt_key _ _ i2 j2]
  simp only [decide_eq_true_eq]
  constructor
  · intro h
    split at h
    · assumption
    · split at h <;> omega
  · intro h
    rw [if_pos h]
    decide

/-! Segments. -/
theorem rd_app (A B : List Int) (x : Int) (i : Int) (hi : i = (A.length : Int)) : rd (A ++ x :: B) i = x := by
  subst hi
  unfold rd
  simp [List.getD_eq_getElem?_getD]
theorem set_app (A B : List Int) (x y : Int) (n : Nat) (hn : n = A.length) : (A ++ x :: B).set n y = A ++ y :: B := by
  subst hn
  simp
/-- Two neighbours change places. -/
theorem swap_next (A B : List Int) (x y : Int) (i j : Int) (hi : i = (A.length : Int)) (hj : j = (A.length : Int) + 1) :
    ((A ++ x :: y :: B).set i.toNat (rd (A ++ x :: y :: B) j)).set j.toNat (rd (A ++ x :: y :: B) i) = A ++ y :: x :: B := by
  rw [rd_app A (y :: B) x i hi, show rd (A ++ x :: y :: B) j = y from by rw [show A ++ x :: y :: B = (A ++ [x]) ++ y :: B by simp]; exact rd_app _ _ _ _ (by simp; omega)]
  rw [set_app A (y :: B) x y _ (by omega), show A ++ y :: y :: B = (A ++ [y]) ++ y :: B by simp, set_app (A ++ [y]) B y x _ (by simp; omega)]
  simp
theorem swap_prev (A B : List Int) (x y : Int) (i j : Int) (hi : i = (A.length : Int)) (hj : j = (A.length : Int) + 1) :
    ((A ++ x :: y :: B).set j.toNat (rd (A ++ x :: y :: B) i)).set i.toNat (rd (A ++ x :: y :: B) j) = A ++ y :: x :: B := by
  rw [rd_app A (y :: B) x i hi, show rd (A ++ x :: y :: B) j = y from by rw [show A ++ x :: y :: B = (A ++ [x]) ++ y :: B by simp]; exact rd_app _ _ _ _ (by simp; omega)]
  rw [show A ++ x :: y :: B = (A ++ [x]) ++ y :: B by simp, set_app (A ++ [x]) B y x _ (by simp; omega), show (A ++ [x]) ++ x :: B = A ++ x :: x :: B by simp, set_app A (x :: B) x y _ (by omega)]
/-- Two places far from one another. -/
theorem swap_far (A M B : List Int) (x y : Int) (i j : Int) (hi : i = (A.length : Int)) (hj : j = (A.length : Int) + 1 + (M.length : Int)) :
    ((A ++ x :: M ++ y :: B).set i.toNat (rd (A ++ x :: M ++ y :: B) j)).set j.toNat (rd (A ++ x :: M ++ y :: B) i) = A ++ y :: M ++ x :: B := by
  have e1 : rd (A ++ x :: M ++ y :: B) j = y := rd_app (A ++ x :: M) B y j (by simp; omega)
  have e2 : rd (A ++ x :: M ++ y :: B) i = x := by
    rw [List.append_assoc, List.cons_append]
    exact rd_app A _ x i hi
  rw [e1, e2, List.append_assoc, List.cons_append, set_app A _ x y _ (by omega), show A ++ y :: (M ++ y :: B) = (A ++ y :: M) ++ y :: B by simp, set_app (A ++ y :: M) B y x _ (by simp; omega)]
/-- Sorted by the order. -/
abbrev Srt (v : List Nat) (xs : List Int) : Prop := xs.Pairwise (Bef v)
end Go.Proofs.Ytncckihaacceaaa.PlainL
