/-
  The reference's picks, and the program's.
-/
import Derived.Test.YtncckihaacceaaaPlainLG
namespace Go.Proofs.Ytncckihaacceaaa.PlainL
open Go.RowKit Go.Proofs.YtncckihaacceaaaW.PrintWords Go.Proofs.YtncckihaacceaaaW.PrintLast Go.Proofs.YtncckihaacceaaaW.PrintMore
open Go.Proofs.Ytncckihaacceaaa.L Go.Proofs.Ytncckihaacceaaa.LOrder

/-- Lists that rise and hold the same are equal. -/
theorem rise_eq : ∀ (a b : List Int), a.Pairwise (· < ·) → b.Pairwise (· < ·) → (∀ z, z ∈ a ↔ z ∈ b) → a = b := by
  intro a
  induction a with
  | nil =>
    intro b _ _ h
    cases b with
    | nil => rfl
    | cons y b => exact absurd ((h y).2 (by simp)) (by simp)
  | cons x a ih =>
    intro b ha hb h
    cases b with
    | nil => exact absurd ((h x).1 (by simp)) (by simp)
    | cons y b =>
      have ha' := List.pairwise_cons.1 ha
      have hb' := List.pairwise_cons.1 hb
      have e : x = y := by
        rcases List.mem_cons.1 ((h x).1 (by simp)) with h1 | h1
        · exact h1
        · rcases List.mem_cons.1 ((h y).2 (by simp)) with h2 | h2
          · exact h2.symm
          · have := hb'.1 x h1
            have := ha'.1 y h2
            omega
      subst e
      congr 1
      refine ih b ha'.2 hb'.2 (fun z => ⟨fun hz => ?_, fun hz => ?_⟩)
      · rcases List.mem_cons.1 ((h z).1 (by simp [hz])) with rfl | h1
        · have := ha'.1 z hz; omega
        · exact h1
      · rcases List.mem_cons.1 ((h z).2 (by simp [hz])) with rfl | h1
        · have := hb'.1 z hz; omega
        · exact h1
theorem has_l0 (x : Int) : ∀ (B A : List Int) (i : Nat), i = A.length → (A ++ B).length < 1073741824 → ¬ x ∈ A → Ends (fun k => spec_l00Has.l0 k (A ++ B) x (i : Int)) (fun b => b = decide (x ∈ A ++ B)) := by
  intro B
  induction B with
  | nil =>
    intro A i hi hl hx
    have c1 : ¬ (i : Int) < ((A ++ []).length : Int) := by simp; omega
    refine Ends.step (h := fun _ => some false) (fun k => ?_) (Ends.now (by simpa using hx))
    simp only [spec_l00Has.l0]
    rw [if_neg c1]
  | cons y B ih =>
    intro A i hi hl hx
    have c1 : (i : Int) < ((A ++ y :: B).length : Int) := by simp; omega
    have c2 : (0 : Int) ≤ (i : Int) := by omega
    have e := rd_app A B y (i : Int) (by omega)
    have n1 : (i : Int) + 1 = ((i + 1 : Nat) : Int) := by omega
    have n2 : i + 1 < 4294967296 := by simp at hl; omega
    by_cases h : y = x
    · refine Ends.step (h := fun _ => some true) (fun k => ?_) (Ends.now (by simp [h]))
      simp only [spec_l00Has.l0]
      rw [if_pos c1, if_pos c2, e, if_pos h]
    · have := ih (A ++ [y]) (i + 1) (by simp; omega) (by simpa using hl) (by simp; exact ⟨hx, fun h2 => h h2.symm⟩)
      rw [show A ++ [y] ++ B = A ++ y :: B by simp] at this
      refine Ends.step (fun k => ?_) this
      have w := w64n n1 n2
      simp only [spec_l00Has.l0]
      rw [if_pos c1, if_pos c2, e, if_neg h, w]
theorem has_f (o : List Int) (x : Int) (hl : o.length < 1073741824) : Ends (fun k => spec_l00Has.f k o x) (fun b => b = decide (x ∈ o)) := has_l0 x o [] 0 rfl hl (by simp)
theorem put_done (x : Int) : ∀ (B A out : List Int) (i : Nat), i = A.length → (A ++ B).length < 1073741824 → out.length + B.length < 1073741824 → Ends (fun k => spec_l00Put.l0 k (A ++ B) x out true (i : Int)) (fun r => r = out ++ B) := by
  intro B
  induction B with
  | nil =>
    intro A out i hi hl ho
    have c1 : ¬ (i : Int) < ((A ++ []).length : Int) := by simp; omega
    refine Ends.step (h := fun _ => some out) (fun k => ?_) (Ends.now (by simp))
    simp only [spec_l00Put.l0]
    rw [if_neg c1]
    rfl
  | cons y B ih =>
    intro A out i hi hl ho
    have c1 : (i : Int) < ((A ++ y :: B).length : Int) := by simp; omega
    have c2 : (0 : Int) ≤ (i : Int) := by omega
    have c3 : out.length < 17592186044416 := by omega
    have e := rd_app A B y (i : Int) (by omega)
    have n1 : (i : Int) + 1 = ((i + 1 : Nat) : Int) := by omega
    have n2 : i + 1 < 4294967296 := by simp at hl; omega
    have nx := ih (A ++ [y]) (out ++ [y]) (i + 1) (by simp; omega) (by simpa using hl) (by simp at ho ⊢; omega)
    rw [show A ++ [y] ++ B = A ++ y :: B by simp] at nx
    refine Ends.step (h := fun k => spec_l00Put.j1 k (A ++ y :: B) x out true (i : Int) false) (fun k => ?_) (Ends.step (fun k => ?_) (nx.imp (fun r hr => by simpa using hr)))
    · simp only [spec_l00Put.l0]
      rw [if_pos c1]
      rfl
    · have w := w64n n1 n2
      simp only [spec_l00Put.j1]
      rw [if_neg (by decide), if_pos c2, if_pos c1, if_pos c3, e, w]
theorem put_l0 (x : Int) : ∀ (B A : List Int) (i : Nat), i = A.length → (A ++ B).length < 1073741820 → (A ++ B).Pairwise (· < ·) → ¬ x ∈ A ++ B → (∀ a, a ∈ A → a < x) →
    Ends (fun k => spec_l00Put.l0 k (A ++ B) x A false (i : Int)) (fun r => ∃ A' B', A ++ B = A' ++ B' ∧ r = A' ++ x :: B' ∧ (∀ a, a ∈ A' → a < x) ∧ (∀ b, b ∈ B' → x < b)) := by
  intro B
  induction B with
  | nil =>
    intro A i hi hl hs hx ha
    have c1 : ¬ (i : Int) < ((A ++ []).length : Int) := by simp; omega
    have c3 : A.length < 17592186044416 := by simp at hl; omega
    refine Ends.step (h := fun _ => some (A ++ [x])) (fun k => ?_) (Ends.now ⟨A, [], rfl, rfl, ha, by simp⟩)
    simp only [spec_l00Put.l0]
    rw [if_neg c1, if_neg (by decide), if_pos c3]
  | cons y B ih =>
    intro A i hi hl hs hx ha
    have c1 : (i : Int) < ((A ++ y :: B).length : Int) := by simp; omega
    have c2 : (0 : Int) ≤ (i : Int) := by omega
    have c3 : A.length < 17592186044416 := by simp at hl; omega
    have e := rd_app A B y (i : Int) (by omega)
    have n1 : (i : Int) + 1 = ((i + 1 : Nat) : Int) := by omega
    have n2 : i + 1 < 4294967296 := by simp at hl; omega
    have hy : y ≠ x := fun h => hx (by simp [h])
    have hs' := List.pairwise_cons.1 (List.pairwise_append.1 hs).2.1
    by_cases h : x < y
    · have c4 : (A ++ [x]).length < 17592186044416 := by simp at hl ⊢; omega
      have g1 : y ≥ x := by omega
      have nx := put_done x B (A ++ [y]) (A ++ [x] ++ [y]) (i + 1) (by simp; omega) (by simp at hl ⊢; omega) (by simp at hl ⊢; omega)
      rw [show A ++ [y] ++ B = A ++ y :: B by simp] at nx
      refine Ends.step (h := fun k => spec_l00Put.j1 k (A ++ y :: B) x A false (i : Int) true) (fun k => ?_) (Ends.step (fun k => ?_) (nx.imp (fun r hr => ⟨A, y :: B, rfl, by simpa using hr, ha, fun b hb => ?_⟩)))
      · simp only [spec_l00Put.l0]
        rw [if_pos c1, if_neg (by decide), if_pos c2, e, decide_eq_true g1]
      · have w := w64n n1 n2
        simp only [spec_l00Put.j1]
        rw [if_pos trivial, if_pos c2, if_pos c1, e, if_pos h, if_pos c3]
        simp only [Option.bind_some]
        rw [if_pos c4, w]
      · rcases List.mem_cons.1 hb with rfl | hb
        · exact h
        · have := hs'.1 b hb; omega
    · have g1 : ¬ y ≥ x := by omega
      have nx := ih (A ++ [y]) (i + 1) (by simp; omega) (by simpa using hl) (by simpa using hs) (by simpa using hx) (fun a h2 => by
        rcases List.mem_append.1 h2 with h2 | h2
        · exact ha a h2
        · rw [List.mem_singleton.1 h2]; omega)
      rw [show A ++ [y] ++ B = A ++ y :: B by simp] at nx
      refine Ends.step (h := fun k => spec_l00Put.j1 k (A ++ y :: B) x A false (i : Int) false) (fun k => ?_) (Ends.step (fun k => ?_) nx)
      · simp only [spec_l00Put.l0]
        rw [if_pos c1, if_neg (by decide), if_pos c2, e, decide_eq_false g1]
      · have w := w64n n1 n2
        simp only [spec_l00Put.j1]
        rw [if_neg (by decide), if_pos c2, if_pos c1, if_pos c3, e, w]
theorem put_f (o : List Int) (x : Int) (hl : o.length < 1073741820) (hs : o.Pairwise (· < ·)) (hx : ¬ x ∈ o) : Ends (fun k => spec_l00Put.f k o x) (fun r => r.Pairwise (· < ·) ∧ r.length = o.length + 1 ∧ ∀ z, z ∈ r ↔ z = x ∨ z ∈ o) := by
  refine (put_l0 x o [] 0 rfl hl hs hx (by simp)).imp (fun r hr => ?_)
  obtain ⟨A, B, h1, rfl, h3, h4⟩ := hr
  rw [List.nil_append] at h1
  subst h1
  have hs' := List.pairwise_append.1 hs
  refine ⟨List.pairwise_append.2 ⟨hs'.1, List.pairwise_cons.2 ⟨h4, hs'.2.1⟩, fun a ha b hb => ?_⟩, by simp; omega, fun z => ?_⟩
  · rcases List.mem_cons.1 hb with rfl | hb
    · exact h3 a ha
    · exact hs'.2.2 a ha b hb
  · simp only [List.mem_append, List.mem_cons]
    constructor
    · rintro (h | h | h)
      · exact .inr (.inl h)
      · exact .inl h
      · exact .inr (.inr h)
    · rintro (h | h | h)
      · exact .inr (.inl h)
      · exact .inl h
      · exact .inr (.inr h)

/-- The best of a part of the lobes that is not picked yet. -/
def BestOf (v : List Nat) (o A : List Int) (best : Int) : Prop := (best = -1 ∧ ∀ a, a ∈ A → a ∈ o) ∨ (best ∈ A ∧ ¬ best ∈ o ∧ ∀ a, a ∈ A → ¬ a ∈ o → a = best ∨ Bef v best a)
theorem best_l1 {v : List Nat} {P : List Int × Bool → Prop} (c : Int) (ls o : List Int) (hll : ls.length < 1073741824) (hol : o.length < 1073741824) (hok : Ok v ls) (hs : ls.Pairwise (· < ·))
    (H : ∀ best, BestOf v o ls best → Ends (fun k => (spec_l00Put.f k o best).bind fun t => spec_StrongLobes.l0 k v (wrap64 (c - 1)) ls t) P) :
    ∀ (B A : List Int) (i : Nat) (best : Int), ls = A ++ B → i = A.length → BestOf v o A best → Ends (fun k => spec_StrongLobes.l1 k v c ls o best (ls.length : Int) (i : Int)) P := by
  intro B
  induction B with
  | nil =>
    intro A i best he hi hb
    rw [List.append_nil] at he
    subst he
    have c1 : ¬ (i : Int) < (ls.length : Int) := by omega
    refine Ends.step (fun k => ?_) (H best hb)
    simp only [spec_StrongLobes.l1]
    rw [if_neg c1]
  | cons y B ih =>
    intro A i best he hi hb
    have hlen : ls.length = A.length + B.length + 1 := by rw [he]; simp; omega
    have c1 : (i : Int) < (ls.length : Int) := by omega
    have c2 : (0 : Int) ≤ (i : Int) := by omega
    have e : rd ls (i : Int) = y := by rw [he]; exact rd_app A B y (i : Int) (by omega)
    have n1 : (i : Int) + 1 = ((i + 1 : Nat) : Int) := by omega
    have n2 : i + 1 < 4294967296 := by omega
    have hy : y ∈ ls := by rw [he]; simp
    obtain ⟨y0, y1, y2⟩ := hok y hy
    have hAy : ∀ a, a ∈ A → a < y := fun a ha => by
      rw [he] at hs
      exact (List.pairwise_append.1 hs).2.2 a ha y (by simp)
    have nx := fun best' (hb' : BestOf v o (A ++ [y]) best') => ih (A ++ [y]) (i + 1) best' (by rw [he]; simp) (by simp; omega) hb'
    have w := w64n n1 n2
    have fin : ∀ best', BestOf v o (A ++ [y]) best' → ((if decide (y ∈ o) = true then best else if best < 0 then y else if K v best < K v y then y else best) = best') → Ends (fun k => spec_StrongLobes.l1 k v c ls o best (ls.length : Int) (i : Int)) P := by
      intro best' hb' hsel
      refine Ends.step (h := fun k => (spec_l00Has.f k o y).bind fun t163 => if t163 = true then (spec_StrongLobes.l1 k v c ls o best (ls.length : Int) ((i + 1 : Nat) : Int)) else (if best < 0 then (spec_StrongLobes.l1 k v c ls o y (ls.length : Int) ((i + 1 : Nat) : Int)) else (if 0 ≤ y then (if y < (v.length : Int) then (if 0 ≤ best then (if best < (v.length : Int) then (if (FloatKind.f32.format.order (rdOf (0 : Nat) v y) (rdOf (0 : Nat) v best) == some .gt) = true then (spec_StrongLobes.l1 k v c ls o y (ls.length : Int) ((i + 1 : Nat) : Int)) else (spec_StrongLobes.l1 k v c ls o best (ls.length : Int) ((i + 1 : Nat) : Int))) else none) else none) else none) else none))) (fun k => ?_) (Ends.bind (f := fun k t163 => if t163 = true then (spec_StrongLobes.l1 k v c ls o best (ls.length : Int) ((i + 1 : Nat) : Int)) else (if best < 0 then (spec_StrongLobes.l1 k v c ls o y (ls.length : Int) ((i + 1 : Nat) : Int)) else (if 0 ≤ y then (if y < (v.length : Int) then (if 0 ≤ best then (if best < (v.length : Int) then (if (FloatKind.f32.format.order (rdOf (0 : Nat) v y) (rdOf (0 : Nat) v best) == some .gt) = true then (spec_StrongLobes.l1 k v c ls o y (ls.length : Int) ((i + 1 : Nat) : Int)) else (spec_StrongLobes.l1 k v c ls o best (ls.length : Int) ((i + 1 : Nat) : Int))) else none) else none) else none) else none))) (has_f o y hol) (fun r hr => ?_))
      · simp only [spec_StrongLobes.l1]
        rw [if_pos c1, if_pos c2, if_pos c1, e, w]
      · subst hr
        have nx' := nx best' hb'
        by_cases hin : y ∈ o
        · rw [if_pos (decide_eq_true hin)] at hsel
          subst hsel
          refine Ends.congr (fun k => ?_) nx'
          rw [if_pos (decide_eq_true hin)]
        · have hin' : ¬ decide (y ∈ o) = true := by simpa using hin
          rw [if_neg hin'] at hsel
          by_cases hneg : best < 0
          · rw [if_pos hneg] at hsel
            subst hsel
            refine Ends.congr (fun k => ?_) nx'
            rw [if_neg hin', if_pos hneg]
          · rw [if_neg hneg] at hsel
            have hbA : best ∈ ls := by
              rcases hb with ⟨h1, _⟩ | ⟨h1, _⟩
              · clear w; omega
              · rw [he]; simp [h1]
            obtain ⟨b0, b1, b2⟩ := hok best hbA
            have g : (FloatKind.f32.format.order (rdOf (0 : Nat) v y) (rdOf (0 : Nat) v best) == some .gt) = decide (K v best < K v y) := gt_key _ _ y2 b2
            by_cases hK : K v best < K v y
            · rw [if_pos hK] at hsel
              subst hsel
              refine Ends.congr (fun k => ?_) nx'
              rw [if_neg hin', if_neg hneg, if_pos y0, if_pos y1, if_pos b0, if_pos b1, g, if_pos (decide_eq_true hK)]
            · rw [if_neg hK] at hsel
              subst hsel
              refine Ends.congr (fun k => ?_) nx'
              rw [if_neg hin', if_neg hneg, if_pos y0, if_pos y1, if_pos b0, if_pos b1, g, if_neg (by simpa using hK)]
    clear w nx
    refine fin _ ?_ rfl
    by_cases hin : y ∈ o
    · rw [if_pos (decide_eq_true hin)]
      rcases hb with ⟨h1, h2⟩ | ⟨h1, h2, h3⟩
      · exact .inl ⟨h1, fun a ha => by
          rcases List.mem_append.1 ha with h | h
          · exact h2 a h
          · rw [List.mem_singleton.1 h]; exact hin⟩
      · exact .inr ⟨List.mem_append_left _ h1, h2, fun a ha hno => by
          rcases List.mem_append.1 ha with h | h
          · exact h3 a h hno
          · rw [List.mem_singleton.1 h] at hno; exact absurd hin hno⟩
    · have hin' : ¬ decide (y ∈ o) = true := by simpa using hin
      rw [if_neg hin']
      rcases hb with ⟨h1, h2⟩ | ⟨h1, h2, h3⟩
      · rw [if_pos (by omega)]
        exact .inr ⟨by simp, hin, fun a ha hno => by
          rcases List.mem_append.1 ha with h | h
          · exact absurd (h2 a h) hno
          · exact .inl (List.mem_singleton.1 h)⟩
      · have hb0 : 0 ≤ best := (hok best (by rw [he]; simp [h1])).1
        have hby := hAy best h1
        rw [if_neg (by omega)]
        by_cases hK : K v best < K v y
        · rw [if_pos hK]
          exact .inr ⟨by simp, hin, fun a ha hno => by
            rcases List.mem_append.1 ha with h | h
            · rcases h3 a h hno with rfl | h4
              · exact .inr (.inl hK)
              · exact .inr (Bef.trans (.inl hK) h4)
            · exact .inl (List.mem_singleton.1 h)⟩
        · rw [if_neg hK]
          exact .inr ⟨List.mem_append_left _ h1, h2, fun a ha hno => by
            rcases List.mem_append.1 ha with h | h
            · exact h3 a h hno
            · rw [List.mem_singleton.1 h]
              refine .inr ?_
              unfold Bef
              omega⟩
end Go.Proofs.Ytncckihaacceaaa.PlainL
