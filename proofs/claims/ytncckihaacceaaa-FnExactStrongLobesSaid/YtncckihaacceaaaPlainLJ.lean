/-
  The plain law of FnExactStrongLobes.
-/
import Derived.Test.YtncckihaacceaaaPlainLI
namespace Go.Proofs.Ytncckihaacceaaa.PlainL
open Go.RowKit Go.Proofs.YtncckihaacceaaaW.PrintWords Go.Proofs.YtncckihaacceaaaW.PrintLast Go.Proofs.YtncckihaacceaaaW.PrintMore
open Go.Proofs.Ytncckihaacceaaa.L Go.Proofs.Ytncckihaacceaaa.LOrder

theorem rdF (l : List Nat) (i : Nat) (h : i < l.length) : rdOf 0 l (i : Int) = l[i] := by
  unfold rdOf
  simp [List.getD_eq_getElem?_getD, List.getElem?_eq_getElem h]
theorem take_set_self {α : Type} (l : List α) (i : Nat) (a : α) : (l.set i a).take i = l.take i := by
  apply List.ext_getElem?
  intro j
  rw [List.getElem?_take, List.getElem?_take]
  split
  · rw [List.getElem?_set_ne (by omega)]
  · rfl
theorem toF_loop (l : List Nat) (hn : l.length ≤ 1048576) : ∀ (d i : Nat) (x : List Nat), x.length = l.length → i + d = l.length → Ends (fun k => laws_toFloat32S.l0 k l x (i : Int)) (fun r => r = x.take i ++ l.drop i) := by
  intro d
  induction d with
  | zero =>
    intro i x hx hi
    have c1 : ¬ (i : Int) < (l.length : Int) := by omega
    refine Ends.step (h := fun _ => some x) (fun k => ?_) (Ends.now ?_)
    · simp only [laws_toFloat32S.l0]
      rw [if_neg c1]
    · rw [List.drop_of_length_le (by omega), List.take_of_length_le (by omega)]
      simp
  | succ d ih =>
    intro i x hx hi
    have hlt : i < l.length := by omega
    have c1 : (i : Int) < (l.length : Int) := by omega
    have c2 : (0 : Int) ≤ (i : Int) := by omega
    have c3 : (i : Int) < (x.length : Int) := by omega
    have n1 : (i : Int) + 1 = ((i + 1 : Nat) : Int) := by omega
    have n2 : i + 1 < 4294967296 := by omega
    have nx := ih (i + 1) (x.set (i : Int).toNat l[i]) (by simpa using hx) (by omega)
    refine Ends.step (fun k => ?_) (nx.imp (fun r hr => ?_))
    · have w := w64n n1 n2
      simp only [laws_toFloat32S.l0]
      rw [if_pos c1, if_pos c2, if_pos c3, rdF l i hlt, w]
    · rw [hr, List.drop_eq_getElem_cons hlt, Int.toNat_natCast, List.take_succ_eq_append_getElem (by simp; omega)]
      simp [take_set_self]
theorem toF_f (l : List Nat) (hn : l.length ≤ 1048576) : Ends (fun k => laws_toFloat32S.f k l) (fun r => r = l) := by
  have h := toF_loop l hn l.length 0 (List.replicate ((l.length : Int)).toNat 0) (by simp) (by omega)
  refine Ends.congr (fun k => ?_) (h.imp (fun r hr => by simpa using hr))
  unfold laws_toFloat32S.f
  rw [if_pos (by omega), if_pos (by omega)]
  rfl
theorem eqI_l0 : ∀ (B A : List Int) (i : Nat), i = A.length → (A ++ B).length < 1073741824 → Ends (fun k => laws_eqInt64S.l0 k (A ++ B) (A ++ B) (i : Int)) (fun b => b = true) := by
  intro B
  induction B with
  | nil =>
    intro A i hi hl
    have c1 : ¬ (i : Int) < ((A ++ []).length : Int) := by simp; omega
    refine Ends.step (h := fun _ => some true) (fun k => ?_) (Ends.now rfl)
    simp only [laws_eqInt64S.l0]
    rw [if_neg c1]
  | cons y B ih =>
    intro A i hi hl
    have c1 : (i : Int) < ((A ++ y :: B).length : Int) := by simp; omega
    have c2 : (0 : Int) ≤ (i : Int) := by omega
    have n1 : (i : Int) + 1 = ((i + 1 : Nat) : Int) := by omega
    have n2 : i + 1 < 4294967296 := by simp at hl; omega
    have nx := ih (A ++ [y]) (i + 1) (by simp; omega) (by simpa using hl)
    rw [show A ++ [y] ++ B = A ++ y :: B by simp] at nx
    refine Ends.step (fun k => ?_) nx
    have w := w64n n1 n2
    simp only [laws_eqInt64S.l0]
    rw [if_pos c1, if_pos c2, if_pos c1, if_pos trivial, w]
theorem eqI_f (o : List Int) (hl : o.length < 1073741824) : Ends (fun k => laws_eqInt64S.f k o o) (fun b => b = true) := by
  refine Ends.congr (fun k => ?_) (eqI_l0 o [] 0 rfl hl)
  unfold laws_eqInt64S.f
  rw [if_pos rfl]
  rfl
theorem markF_l0 : ∀ (d i : Nat) (x : List Nat) (m : Nat), i + d = x.length → x.length ≤ 1048576 → m ≤ 2097152 → Ends (fun k => laws_markFloat32S.l0 k x ((m : Nat) + i : Nat) (i : Int)) (fun r => ¬ r.1 < 0) := by
  intro d
  induction d with
  | zero =>
    intro i x m hi hl hm
    have c1 : ¬ (i : Int) < (x.length : Int) := by omega
    refine Ends.step (h := fun _ => some ((((m : Nat) + i : Nat) : Int), x)) (fun k => ?_) (Ends.now (by show ¬ (((m : Nat) + i : Nat) : Int) < 0; omega))
    simp only [laws_markFloat32S.l0]
    rw [if_neg c1]
  | succ d ih =>
    intro i x m hi hl hm
    have c1 : (i : Int) < (x.length : Int) := by omega
    have c2 : (0 : Int) ≤ (i : Int) := by omega
    have n1 : (i : Int) + 1 = ((i + 1 : Nat) : Int) := by omega
    have n2 : i + 1 < 4294967296 := by omega
    have n3 : ((m + i : Nat) : Int) + 1 = ((m + (i + 1) : Nat) : Int) := by omega
    have n4 : m + (i + 1) < 4294967296 := by omega
    refine Ends.step (fun k => ?_) (ih (i + 1) (x.set (i : Int).toNat (floatOfInt .f32 ((m + i : Nat) : Int))) m (by simp; omega) (by simpa using hl) hm)
    have w := w64n n1 n2
    have w2 := w64n n3 n4
    simp only [laws_markFloat32S.l0]
    rw [if_pos c1, if_pos c2, w, w2]
theorem markF_f (x : List Nat) (hl : x.length ≤ 1048576) : Ends (fun k => laws_markFloat32S.f k x 1) (fun r => ¬ r.1 < 0) := markF_l0 x.length 0 x 1 (by omega) hl (by omega)
/-- The marks: m, m + 1, .. -/
def marks : Nat → Int → List Int
  | 0, _ => []
  | n + 1, m => m :: marks n (m + 1)
theorem marks_length : ∀ n m, (marks n m).length = n := by
  intro n
  induction n with
  | zero => intro m; rfl
  | succ n ih => intro m; simp [marks, ih]
theorem markI_l0 : ∀ (B A : List Int) (i m : Nat), i = A.length → (A ++ B).length < 1073741824 → m ≤ i + 1 → Ends (fun k => laws_markInt64S.l0 k (A ++ B) (m : Int) (i : Int)) (fun r => r = (((m + B.length : Nat) : Int), A ++ marks B.length (m : Int))) := by
  intro B
  induction B with
  | nil =>
    intro A i m hi hl hm
    have c1 : ¬ (i : Int) < ((A ++ []).length : Int) := by simp; omega
    refine Ends.step (h := fun _ => some ((m : Int), A ++ [])) (fun k => ?_) (Ends.now (by simp [marks]))
    simp only [laws_markInt64S.l0]
    rw [if_neg c1]
  | cons y B ih =>
    intro A i m hi hl hm
    have c1 : (i : Int) < ((A ++ y :: B).length : Int) := by simp; omega
    have c2 : (0 : Int) ≤ (i : Int) := by omega
    have hil : i < 1073741824 := by simp at hl; omega
    have n1 : (i : Int) + 1 = ((i + 1 : Nat) : Int) := by omega
    have n2 : i + 1 < 4294967296 := by omega
    have n3 : (m : Int) + 1 = ((m + 1 : Nat) : Int) := by omega
    have n4 : m + 1 < 4294967296 := by omega
    have es : (A ++ y :: B).set (i : Int).toNat (m : Int) = A ++ [(m : Int)] ++ B := by rw [set_app A B y (m : Int) _ (by omega)]; simp
    have nx := ih (A ++ [(m : Int)]) (i + 1) (m + 1) (by simp; omega) (by simp at hl ⊢; omega) (by omega)
    refine Ends.step (fun k => ?_) (nx.imp (fun r hr => ?_))
    · have w := w64n n1 n2
      have w2 := w64n n3 n4
      simp only [laws_markInt64S.l0]
      rw [if_pos c1, if_pos c2, w, w2, es]
    · rw [hr, ← n3]
      simp [marks]
      omega
theorem markI_f (x : List Int) (hl : x.length < 1073741824) : Ends (fun k => laws_markInt64S.f k x 1) (fun r => r = (((1 + x.length : Nat) : Int), marks x.length 1)) := markI_l0 x [] 0 1 rfl hl (by omega)
theorem held_l0 : ∀ (n : Nat) (A : List Int) (i m : Nat), i = A.length → A.length + n < 1073741824 → m ≤ i + 1 → Ends (fun k => laws_heldInt64S.l0 k (A ++ marks n (m : Int)) (m : Int) (i : Int)) (fun r => r = ((m + n : Nat) : Int)) := by
  intro n
  induction n with
  | zero =>
    intro A i m hi hl hm
    have c1 : ¬ (i : Int) < ((A ++ marks 0 (m : Int)).length : Int) := by simp [marks]; omega
    refine Ends.step (h := fun _ => some (m : Int)) (fun k => ?_) (Ends.now rfl)
    simp only [laws_heldInt64S.l0]
    rw [if_neg c1]
  | succ n ih =>
    intro A i m hi hl hm
    have c1 : (i : Int) < ((A ++ marks (n + 1) (m : Int)).length : Int) := by simp [marks_length]; omega
    have c2 : (0 : Int) ≤ (i : Int) := by omega
    have n1 : (i : Int) + 1 = ((i + 1 : Nat) : Int) := by omega
    have n2 : i + 1 < 4294967296 := by omega
    have n3 : (m : Int) + 1 = ((m + 1 : Nat) : Int) := by omega
    have n4 : m + 1 < 4294967296 := by omega
    have e : rd (A ++ marks (n + 1) (m : Int)) (i : Int) = (m : Int) := rd_app A _ (m : Int) (i : Int) (by omega)
    have nx := ih (A ++ [(m : Int)]) (i + 1) (m + 1) (by simp; omega) (by simp; omega) (by omega)
    have e2 : A ++ [(m : Int)] ++ marks n ((m + 1 : Nat) : Int) = A ++ marks (n + 1) (m : Int) := by rw [← n3]; simp [marks]
    rw [e2] at nx
    refine Ends.step (fun k => ?_) (nx.imp (fun r hr => by rw [hr]; omega))
    have w := w64n n1 n2
    have w2 := w64n n3 n4
    simp only [laws_heldInt64S.l0]
    rw [if_pos c1, if_pos c2, e, if_pos rfl, w, w2]
theorem held_f (n : Nat) (hl : n < 1073741824) : Ends (fun k => laws_heldInt64S.f k (marks n 1) 1) (fun r => r = ((1 + n : Nat) : Int)) := held_l0 n [] 0 1 rfl (by simpa using hl) (by omega)

theorem law_j2 (n : Nat) (hl : n < 1073741824) : Ends (fun k => laws_FnExactStrongLobes.j2 k (marks n 1) ((1 + n : Nat) : Int) false) (fun b => b = true) := by
  refine Ends.step (h := fun k => (laws_heldInt64S.f k (marks n 1) 1).bind fun t280 => (if t280 < 0 then none else (if t280 = ((1 + n : Nat) : Int) then some true else none))) (fun k => ?_) (Ends.bind (f := fun _ t280 => (if t280 < 0 then none else (if t280 = ((1 + n : Nat) : Int) then some true else none))) (held_f n hl) (fun r hr => ?_))
  · simp only [laws_FnExactStrongLobes.j2]
    rfl
  · subst hr
    refine Ends.congr (h := fun _ => some true) (fun k => ?_) (Ends.now rfl)
    rw [if_neg (by omega), if_pos rfl]
theorem law_j1 (v : List Nat) (c : Int) (w : List Int) (b : Bool) (hv : v.length ≤ 1048576) (hw : w.length ≤ 129) (hI : Ends (fun k => impl_StrongLobes.f k v c) (fun r => r = (w, b))) : Ends (fun k => laws_FnExactStrongLobes.j1 k v c w b w false) (fun b => b = true) := by
  refine Ends.step (fun k => by simp only [laws_FnExactStrongLobes.j1]; rw [if_neg (by decide)]) ?_
  refine Ends.bind (markI_f w (by omega)) (fun r hr => ?_)
  subst hr
  refine Ends.bind (held_f w.length (by omega)) (fun r hr => ?_)
  subst hr
  refine Ends.congr (fun k => by rw [if_neg (by omega), if_pos rfl]) ?_
  refine Ends.bind (toF_f v hv) (fun r hr => ?_)
  subst hr
  refine Ends.bind hI (fun r hr => ?_)
  subst hr
  refine Ends.bind (eqI_f w (by omega)) (fun r hr => ?_)
  subst hr
  refine Ends.congr (fun k => by rw [if_pos rfl]) ?_
  refine Ends.congr (fun k => by rw [show (b != b) = false by cases b <;> rfl]) ?_
  exact law_j2 w.length (by omega)
theorem law_j0 (v : List Nat) (c : Int) (w : List Int) (b : Bool) (hv : v.length ≤ 1048576) (hw : w.length ≤ 129) (hI : Ends (fun k => impl_StrongLobes.f k v c) (fun r => r = (w, b))) : Ends (fun k => laws_FnExactStrongLobes.j0 k v c w b v w b false) (fun b => b = true) := by
  refine Ends.step (fun k => by simp only [laws_FnExactStrongLobes.j0]; rw [if_neg (by decide)]) ?_
  refine Ends.bind (toF_f v hv) (fun r hr => ?_)
  subst hr
  refine Ends.bind (P := fun t => t = true) (Ends.congr (h := fun _ => some true) (fun k => by unfold laws_eqFloat32S.f; rw [if_pos rfl]) (Ends.now rfl)) (fun t ht => ?_)
  subst ht
  refine Ends.congr (fun k => by rw [if_pos rfl]) ?_
  refine Ends.bind (markF_f r hv) (fun q hq => ?_)
  refine Ends.congr (fun k => by rw [if_neg hq]) ?_
  refine Ends.bind (eqI_f w (by omega)) (fun t ht => ?_)
  subst ht
  refine Ends.congr (fun k => by rw [if_pos rfl]) ?_
  refine Ends.congr (fun k => by rw [show (b != b) = false by cases b <;> rfl]) ?_
  exact law_j1 r c w b hv hw hI
theorem strongLobes (v : List Nat) (c : Int) : ∃ k, laws_FnExactStrongLobes.f k v c = some true := by
  have main : Ends (fun k => laws_FnExactStrongLobes.f k v c) (fun b => b = true) := by
    by_cases h0 : (v.length : Int) > 1048576
    · refine Ends.congr (h := fun _ => some true) (fun k => ?_) (Ends.now rfl)
      unfold laws_FnExactStrongLobes.f
      rw [if_pos h0]
    · have hv : v.length ≤ 1048576 := by omega
      obtain ⟨⟨w, b⟩, hS, hI, hw⟩ := lobes_both v c
      have hw' : w.length ≤ 129 := hw
      refine Ends.congr (fun k => by unfold laws_FnExactStrongLobes.f; rw [if_neg h0]) ?_
      refine Ends.bind (toF_f v hv) (fun r hr => ?_)
      subst hr
      refine Ends.bind hS (fun q hq => ?_)
      subst hq
      refine Ends.bind (toF_f r hv) (fun q hq => ?_)
      subst hq
      refine Ends.bind hI (fun t ht => ?_)
      subst ht
      refine Ends.bind (eqI_f w (by omega)) (fun t ht => ?_)
      subst ht
      refine Ends.congr (fun k => by rw [if_pos rfl]) ?_
      refine Ends.congr (fun k => by rw [show (b != b) = false by cases b <;> rfl]) ?_
      exact law_j0 q c w b hv hw' hI
  obtain ⟨r, K, hK, rfl⟩ := main
  exact ⟨K, hK K (Nat.le_refl _)⟩
end Go.Proofs.Ytncckihaacceaaa.PlainL
