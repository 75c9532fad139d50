/-
  The runs of the program and of the reference.
-/
import Derived.Test.YtncckihaacceaaaPlainLF
import Derived.Test.YtncckihaacceaaaFloatFacts
namespace Go.Proofs.Ytncckihaacceaaa.PlainL
open Go.RowKit Go.Proofs.YtncckihaacceaaaW.PrintWords Go.Proofs.YtncckihaacceaaaW.PrintLast Go.Proofs.YtncckihaacceaaaW.PrintMore
open Go.Proofs.Ytncckihaacceaaa.L Go.Proofs.Ytncckihaacceaaa.LOrder Go.Proofs.Ytncckihaacceaaa.FloatFacts

/-- Two runs tell the same. -/
def Both {α : Type} (g h : Nat → Option α) (P : α → Prop) : Prop := ∃ r, Ends g (fun x => x = r) ∧ Ends h (fun x => x = r) ∧ P r
theorem Both.left {α : Type} {g g' h : Nat → Option α} {P : α → Prop} (e : ∀ k, g (k + 1) = g' k) (H : Both g' h P) : Both g h P := by
  obtain ⟨r, h1, h2, h3⟩ := H
  exact ⟨r, Ends.step e h1, h2, h3⟩
theorem Both.right {α : Type} {g h h' : Nat → Option α} {P : α → Prop} (e : ∀ k, h (k + 1) = h' k) (H : Both g h' P) : Both g h P := by
  obtain ⟨r, h1, h2, h3⟩ := H
  exact ⟨r, h1, Ends.step e h2, h3⟩
/-- Is the word at j less than the one at i? -/
def lessB (v : List Nat) (j i : Nat) : Bool := FloatKind.f32.format.order (rdOf (0 : Nat) v (j : Int)) (rdOf (0 : Nat) v (i : Int)) == some .lt
/-- What a run adds. -/
def addB (v : List Nat) (i e : Nat) : Bool := (decide (i = 0) || lessB v (i - 1) i) && (decide (e = v.length) || lessB v e i)
def added (v : List Nat) (out : List Int) (i e : Nat) : List Int := if addB v i e = true then out ++ [(i : Int)] else out
theorem impl_j2 (v : List Nat) (out : List Int) (i e : Nat) (hi : i < e) (he : e ≤ v.length) (hl : v.length ≤ 129) (ho : out.length ≤ 129) (hn : FloatKind.f32.format.order (rdOf (0 : Nat) v (i : Int)) (rdOf (0 : Nat) v (i : Int)) = some .eq) (k : Nat) :
    impl_runs.j2 (k + 1) v out (i : Int) (e : Int) = impl_runs.l0 k v (added v out i e) (e : Int) := by
  have a1 : (0 : Int) ≤ (i : Int) := by omega
  have a2 : (i : Int) < (v.length : Int) := by omega
  have a3 : out.length < 17592186044416 := by omega
  have a4 : (0 : Int) ≤ (e : Int) := by omega
  have tail : ∀ z : Option (List Int), (if (e : Int) = (v.length : Int) then (if out.length < 17592186044416 then (impl_runs.l0 k v (out ++ [(i : Int)]) (e : Int)) else none) else (if 0 ≤ (e : Int) then (if (e : Int) < (v.length : Int) then ((impl_LobesOf_1.f (rdOf (0 : Nat) v (e : Int)) (rdOf (0 : Nat) v (i : Int))).bind fun t182 => (if t182 = true then (if out.length < 17592186044416 then (impl_runs.l0 k v (out ++ [(i : Int)]) (e : Int)) else none) else (impl_runs.l0 k v out (e : Int)))) else none) else none)) =
      impl_runs.l0 k v (if (decide (e = v.length) || lessB v e i) = true then out ++ [(i : Int)] else out) (e : Int) := by
    intro _
    by_cases he' : e = v.length
    · rw [if_pos (by omega), if_pos a3]
      simp [he']
    · have a5 : (e : Int) < (v.length : Int) := by omega
      rw [if_neg (by omega), if_pos a4, if_pos a5]
      unfold impl_LobesOf_1.f
      simp only [Option.bind_some, decide_eq_false he', Bool.false_or]
      by_cases hb : lessB v e i = true
      · have hb' := hb
        unfold lessB at hb'
        rw [if_pos hb', if_pos a3, if_pos hb]
      · have hb' := hb
        unfold lessB at hb'
        rw [if_neg hb', if_neg hb]
  simp only [impl_runs.j2]
  rw [if_pos a1, if_pos a2, hn, if_pos (by decide)]
  unfold added addB
  by_cases h0 : i = 0
  · rw [if_pos (by omega), tail none]
    simp [h0]
  · have w : wrap64 ((i : Int) - 1) = ((i - 1 : Nat) : Int) := w64n (by omega) (by omega)
    have a6 : (0 : Int) ≤ ((i - 1 : Nat) : Int) := by clear w; omega
    have a7 : ((i - 1 : Nat) : Int) < (v.length : Int) := by clear w; omega
    have a8 : ¬ (i : Int) = 0 := by clear w; omega
    rw [if_neg a8, w, if_pos a6, if_pos a7]
    conv => lhs; unfold impl_LobesOf_1.f
    simp only [Option.bind_some, decide_eq_false h0, Bool.false_or]
    by_cases hb : lessB v (i - 1) i = true
    · have hb' := hb
      unfold lessB at hb'
      rw [if_pos hb']
      have := tail none
      unfold impl_LobesOf_1.f at this
      simp only [Option.bind_some] at this
      rw [this, hb]
      simp
    · have hb' := hb
      unfold lessB at hb'
      rw [if_neg hb']
      have hb2 : lessB v (i - 1) i = false := by simpa using hb
      rw [hb2]
      simp
theorem spec_j2 (v : List Nat) (out : List Int) (i e x : Nat) (hi : i < e) (hx : x + 1 = e) (he : e ≤ v.length) (hl : v.length ≤ 129) (ho : out.length ≤ 129) (k : Nat) :
    spec_l03Runs.j2 (k + 1 + 1) v true out (i : Int) (x : Int) = spec_l03Runs.l0 k v true (added v out i e) (e : Int) := by
  have a1 : (0 : Int) ≤ (i : Int) := by omega
  have a2 : (i : Int) < (v.length : Int) := by omega
  have a3 : out.length < 17592186044416 := by omega
  have a4 : (0 : Int) ≤ (e : Int) := by omega
  have j3 : ∀ c : Bool, spec_l03Runs.j3 (k + 1) v true out (i : Int) (x : Int) c = spec_l03Runs.l0 k v true (if (c && (decide (e = v.length) || lessB v e i)) = true then out ++ [(i : Int)] else out) (e : Int) := by
    intro c
    have w : wrap64 ((x : Int) + 1) = (e : Int) := w64n (by omega) (by omega)
    simp only [spec_l03Runs.j3]
    rw [w]
    clear w
    by_cases he' : e = v.length
    · rw [if_neg (by omega)]
      cases c
      · simp
      · simp [he', a3]
    · have a5 : (e : Int) < (v.length : Int) := by omega
      rw [if_pos a5]
      cases c
      · simp
      · rw [if_pos rfl, if_pos trivial, if_pos a4, if_pos a1, if_pos a2, if_pos a3]
        simp only [decide_eq_false he', Bool.false_or, Bool.true_and]
        by_cases hb : lessB v e i = true
        · have hb' := hb
          unfold lessB at hb'
          rw [if_pos hb', if_pos hb]
        · have hb' := hb
          unfold lessB at hb'
          rw [if_neg hb', if_neg hb]
  simp only [spec_l03Runs.j2]
  unfold added addB
  by_cases h0 : i = 0
  · rw [if_neg (by omega), j3]
    simp [h0]
  · have w : wrap64 ((i : Int) - 1) = ((i - 1 : Nat) : Int) := w64n (by omega) (by omega)
    have a6 : (0 : Int) ≤ ((i - 1 : Nat) : Int) := by clear w; omega
    have a7 : ((i - 1 : Nat) : Int) < (v.length : Int) := by clear w; omega
    have a8 : (i : Int) > 0 := by clear w; omega
    rw [if_pos a8, if_pos trivial, w, if_pos a6, if_pos a7, if_pos a1, if_pos a2]
    simp only [decide_eq_false h0, Bool.false_or]
    by_cases hb : lessB v (i - 1) i = true
    · have hb' := hb
      unfold lessB at hb'
      rw [if_pos hb', j3, hb]
    · have hb' := hb
      unfold lessB at hb'
      have hb2 : lessB v (i - 1) i = false := by simpa using hb
      rw [if_neg hb', j3, hb2]
/-- A run is looked through. -/
theorem run_l1 {P : List Int → Prop} (v : List Nat) (out : List Int) (i : Nat) (hl : v.length ≤ 129) (ho : out.length ≤ 129) (hn : FloatKind.f32.format.order (rdOf (0 : Nat) v (i : Int)) (rdOf (0 : Nat) v (i : Int)) = some .eq)
    (H : ∀ e : Nat, i < e → e ≤ v.length → Both (fun k => impl_runs.l0 k v (added v out i e) (e : Int)) (fun k => spec_l03Runs.l0 k v true (added v out i e) (e : Int)) P) :
    ∀ (n e x : Nat), v.length - e ≤ n → i < e → e ≤ v.length → x + 1 = e → Both (fun k => impl_runs.l1 k v out (i : Int) (e : Int)) (fun k => spec_l03Runs.l1 k v true out (i : Int) (x : Int)) P := by
  intro n
  induction n with
  | zero =>
    intro e x hn' hi he hx
    have c1 : ¬ (e : Int) < (v.length : Int) := by omega
    have w : wrap64 ((x : Int) + 1) = (e : Int) := w64n (by omega) (by omega)
    have fin : Both (fun k => impl_runs.j2 k v out (i : Int) (e : Int)) (fun k => spec_l03Runs.j2 k v true out (i : Int) (x : Int)) P :=
      Both.left (impl_j2 v out i e hi he hl ho hn) (Both.right (h' := fun k => spec_l03Runs.j2 (k + 1) v true out (i : Int) (x : Int)) (fun k => rfl) (Both.right (h' := fun k => spec_l03Runs.l0 k v true (added v out i e) (e : Int)) (fun k => spec_j2 v out i e x hi hx he hl ho k) (H e hi he)))
    refine Both.left (fun k => ?_) (Both.right (fun k => ?_) fin)
    · simp only [impl_runs.l1]
      rw [if_neg c1]
    · simp only [spec_l03Runs.l1]
      rw [w, if_neg c1]
  | succ n ih =>
    intro e x hn' hi he hx
    have w : wrap64 ((x : Int) + 1) = (e : Int) := w64n (by omega) (by omega)
    have fin : Both (fun k => impl_runs.j2 k v out (i : Int) (e : Int)) (fun k => spec_l03Runs.j2 k v true out (i : Int) (x : Int)) P :=
      Both.left (impl_j2 v out i e hi he hl ho hn) (Both.right (h' := fun k => spec_l03Runs.j2 (k + 1) v true out (i : Int) (x : Int)) (fun k => rfl) (Both.right (h' := fun k => spec_l03Runs.l0 k v true (added v out i e) (e : Int)) (fun k => spec_j2 v out i e x hi hx he hl ho k) (H e hi he)))
    by_cases c1 : (e : Int) < (v.length : Int)
    · have a1 : (0 : Int) ≤ (i : Int) := by clear w; omega
      have a2 : (i : Int) < (v.length : Int) := by clear w; omega
      have a4 : (0 : Int) ≤ (e : Int) := by clear w; omega
      by_cases hb : (FloatKind.f32.format.order (rdOf (0 : Nat) v (e : Int)) (rdOf (0 : Nat) v (i : Int)) == some .eq) = true
      · have w2 : wrap64 ((e : Int) + 1) = ((e + 1 : Nat) : Int) := w64n (by clear w; omega) (by clear w; omega)
        refine Both.left (g' := fun k => impl_runs.l1 k v out (i : Int) ((e + 1 : Nat) : Int)) (fun k => ?_) (Both.right (h' := fun k => spec_l03Runs.l1 k v true out (i : Int) (e : Int)) (fun k => ?_) (ih (e + 1) e (by clear w w2; omega) (by clear w w2; omega) (by clear w w2; omega) rfl))
        · simp only [impl_runs.l1]
          rw [if_pos c1, if_pos a4, if_pos a1, if_pos a2, if_pos hb, w2]
        · simp only [spec_l03Runs.l1]
          rw [w, if_pos c1, if_pos a4, if_pos a1, if_pos a2, if_pos hb]
      · refine Both.left (fun k => ?_) (Both.right (fun k => ?_) fin)
        · simp only [impl_runs.l1]
          rw [if_pos c1, if_pos a4, if_pos a1, if_pos a2, if_neg hb]
        · simp only [spec_l03Runs.l1]
          rw [w, if_pos c1, if_pos a4, if_pos a1, if_pos a2, if_neg hb]
    · refine Both.left (fun k => ?_) (Both.right (fun k => ?_) fin)
      · simp only [impl_runs.l1]
        rw [if_neg c1]
      · simp only [spec_l03Runs.l1]
        rw [w, if_neg c1]
/-- The runs of the program are those of the reference: places that rise, of numbers. -/
theorem run_l0 (v : List Nat) (hl : v.length ≤ 129) : ∀ (n i : Nat) (out : List Int), v.length - i ≤ n → i ≤ v.length → out.length ≤ i →
    Both (fun k => impl_runs.l0 k v out (i : Int)) (fun k => spec_l03Runs.l0 k v true out (i : Int)) (fun r => ∃ Y, r = out ++ Y ∧ Y.Pairwise (· < ·) ∧ ∀ y, y ∈ Y → (i : Int) ≤ y ∧ y < (v.length : Int) ∧ (FloatKind.f32.decode (rdOf (0 : Nat) v y)).isNaN = false) := by
  intro n
  induction n with
  | zero =>
    intro i out hn hi ho
    have c1 : ¬ (i : Int) < (v.length : Int) := by omega
    refine ⟨out, Ends.step (h := fun _ => some out) (fun k => ?_) (Ends.now rfl), Ends.step (h := fun _ => some out) (fun k => ?_) (Ends.now rfl), [], by simp, List.Pairwise.nil, fun y hy => by simp at hy⟩
    · simp only [impl_runs.l0]
      rw [if_neg c1]
    · simp only [spec_l03Runs.l0]
      rw [if_neg c1]
  | succ n ih =>
    intro i out hn hi ho
    by_cases c1 : (i : Int) < (v.length : Int)
    · have a1 : (0 : Int) ≤ (i : Int) := by omega
      have n1 : (i : Int) + 1 = ((i + 1 : Nat) : Int) := by omega
      have n2 : i + 1 < 4294967296 := by omega
      by_cases hnan : (FloatKind.f32.decode (rdOf (0 : Nat) v (i : Int))).isNaN = true
      · have o1 := order_nan .f32 _ (rdOf (0 : Nat) v (i : Int)) hnan
        have nx := ih (i + 1) out (by omega) (by omega) (by omega)
        have nx' : Both (fun k => impl_runs.l0 k v out ((i + 1 : Nat) : Int)) (fun k => spec_l03Runs.l0 k v true out ((i + 1 : Nat) : Int)) (fun r => ∃ Y, r = out ++ Y ∧ Y.Pairwise (· < ·) ∧ ∀ y, y ∈ Y → (i : Int) ≤ y ∧ y < (v.length : Int) ∧ (FloatKind.f32.decode (rdOf (0 : Nat) v y)).isNaN = false) := by
          obtain ⟨r, h1, h2, Y, h3, h4, h5⟩ := nx
          exact ⟨r, h1, h2, Y, h3, h4, fun y hy => ⟨by have := (h5 y hy).1; omega, (h5 y hy).2⟩⟩
        have a4 : (0 : Int) ≤ ((i + 1 : Nat) : Int) := by omega
        have w := w64n n1 n2
        refine Both.right (fun k => ?_) (Both.left (g' := fun k => impl_runs.l1 k v out (i : Int) ((i + 1 : Nat) : Int)) (fun k => ?_) (Both.left (g' := fun k => impl_runs.j2 k v out (i : Int) ((i + 1 : Nat) : Int)) (fun k => ?_) (Both.left (fun k => ?_) nx')))
        · simp only [spec_l03Runs.l0]
          rw [if_pos c1, if_pos a1, o1, if_pos (by decide), w]
        · simp only [impl_runs.l0]
          rw [if_pos c1, w]
        · simp only [impl_runs.l1]
          by_cases c2 : ((i + 1 : Nat) : Int) < (v.length : Int)
          · rw [if_pos c2, if_pos a4, if_pos a1, if_pos c1, order_nan' .f32 (rdOf (0 : Nat) v ((i + 1 : Nat) : Int)) _ hnan, if_neg (by decide)]
          · rw [if_neg c2]
        · simp only [impl_runs.j2]
          rw [if_pos a1, if_pos c1, o1, if_neg (by decide)]
      · have hnum : (FloatKind.f32.decode (rdOf (0 : Nat) v (i : Int))).isNaN = false := by simpa using hnan
        have o1 := order_self .f32 _ hnum
        refine Both.left (g' := fun k => impl_runs.l1 k v out (i : Int) ((i + 1 : Nat) : Int)) (fun k => ?_) (Both.right (h' := fun k => spec_l03Runs.l1 k v true out (i : Int) (i : Int)) (fun k => ?_) (run_l1 v out i hl (by omega) o1 (fun e h1 h2 => ?_) (v.length - (i + 1)) (i + 1) i (by omega) (by omega) (by omega) rfl))
        · have w := w64n n1 n2
          simp only [impl_runs.l0]
          rw [if_pos c1, w]
        · simp only [spec_l03Runs.l0]
          rw [if_pos c1, if_pos a1, o1, if_neg (by decide)]
        · unfold added
          by_cases hb : addB v i e = true
          · rw [if_pos hb]
            obtain ⟨r, g1, g2, Y, g3, g4, g5⟩ := ih e (out ++ [(i : Int)]) (by omega) h2 (by simp; omega)
            refine ⟨r, g1, g2, (i : Int) :: Y, by simpa using g3, List.pairwise_cons.2 ⟨fun y hy => by have := (g5 y hy).1; omega, g4⟩, fun y hy => ?_⟩
            rcases List.mem_cons.1 hy with rfl | hy
            · exact ⟨Int.le_refl _, c1, hnum⟩
            · exact ⟨by have := (g5 y hy).1; omega, (g5 y hy).2⟩
          · rw [if_neg hb]
            obtain ⟨r, g1, g2, Y, g3, g4, g5⟩ := ih e out (by omega) h2 (by omega)
            exact ⟨r, g1, g2, Y, g3, g4, fun y hy => ⟨by have := (g5 y hy).1; omega, (g5 y hy).2⟩⟩
    · refine ⟨out, Ends.step (h := fun _ => some out) (fun k => ?_) (Ends.now rfl), Ends.step (h := fun _ => some out) (fun k => ?_) (Ends.now rfl), [], by simp, List.Pairwise.nil, fun y hy => by simp at hy⟩
      · simp only [impl_runs.l0]
        rw [if_neg c1]
      · simp only [spec_l03Runs.l0]
        rw [if_neg c1]
theorem run_f (v : List Nat) (hl : v.length ≤ 129) : Both (fun k => impl_runs.f k v) (fun k => spec_l03Runs.f k v true) (fun r => r.Pairwise (· < ·) ∧ Ok v r) := by
  obtain ⟨r, h1, h2, Y, h3, h4, h5⟩ := run_l0 v hl v.length 0 [] (by omega) (by omega) (by simp)
  obtain rfl : r = Y := by simpa using h3
  exact ⟨r, h1, h2, h4, fun y hy => ⟨by have := (h5 y hy).1; omega, (h5 y hy).2⟩⟩
end Go.Proofs.Ytncckihaacceaaa.PlainL
