/-
  The law of normed weights behind its first half: the places that failed, and what stands without them.
-/
import Derived.Test.YtnfcbacdggkfeaaNx3
import Derived.Test.YtnfcbacdggkfeaaPlainWithout
namespace Go.Proofs.Ytnfcbacdggkfeaa.PlainN
open Go.RowKit Go.Proofs.YtnfcbacdggkfeaaW.PrintWords Go.Proofs.YtnfcbacdggkfeaaW.PrintLast Go.Proofs.YtnfcbacdggkfeaaW.PrintMore
open Go.Proofs.Ytnfcbacdggkfeaa.N Go.Proofs.Ytnfcbacdggkfeaa.PlainP

abbrev T1 : Bool → Prop := fun r => r = true
theorem same_loop (l : List C64) (f : List Int) (left : List C64) (hn : l.length ≤ 16) (hfl : f.length < 1000) (hlen : left.length = l.length) (hf : Inc f) (hl : ∀ x ∈ l, Fi x)
    (hs : ∀ j : Nat, j < l.length → (Has f f.length (j : Int) → rdOf c64z left (j : Int) = ⟨0, 0⟩) ∧ (¬ Has f f.length (j : Int) → rdOf c64z left (j : Int) = rdOf c64z l (j : Int))) :
    ∀ (d i p : Nat), i + d = l.length → p ≤ f.length → (∀ j : Nat, j < p → rd f (j : Int) < i) → (∀ j : Nat, p ≤ j → j < f.length → (i : Int) ≤ rd f (j : Int)) → Ends (fun k => laws_FnNormed.l1 k l f left (p : Int) (i : Int)) T1 := by
  intro d
  induction d with
  | zero =>
    intro i p hi hp h1 h2
    refine Ends.step (h := fun _ => some true) (fun k => ?_) (Ends.now rfl)
    show laws_FnNormed.l1 (k + 1) _ _ _ _ _ = _
    rw [laws_FnNormed.l1, if_neg (by omega)]
  | succ d ih =>
    intro i p hi hp h1 h2
    obtain ⟨s1, s2⟩ := hs i (by omega)
    have go : ∀ b : Bool, (b = true → p < f.length ∧ rd f (p : Int) = i) → (b = false → p < f.length → rd f (p : Int) ≠ i) → Ends (fun k => laws_FnNormed.j5 k l f left (p : Int) (i : Int) (rdOf c64z l (i : Int)) b) T1 := by
      intro b ht hfa
      cases b with
      | true =>
        obtain ⟨g1, g2⟩ := ht rfl
        refine Ends.step (h := fun k => (impl_SameComplex.f k (rdOf c64z left (i : Int)) (⟨0, 0⟩ : C64)).bind fun t196 => (if t196 = true then (laws_FnNormed.l1 k l f left ((p + 1 : Nat) : Int) ((i + 1 : Nat) : Int)) else (none))) (fun k => ?_) ?_
        · show laws_FnNormed.j5 (k + 1) _ _ _ _ _ _ _ = _
          rw [laws_FnNormed.j5, if_pos rfl, if_pos (by omega), if_pos (by omega), w64 (n := (p : Int) + 1) (by omega) (by omega), w64 (n := (i : Int) + 1) (by omega) (by omega)]
          rfl
        · rw [s1 ⟨p, g1, g2⟩]
          refine Ends.bind (f := fun k t196 => (if t196 = true then (laws_FnNormed.l1 k l f left ((p + 1 : Nat) : Int) ((i + 1 : Nat) : Int)) else (none))) same_nought (fun r hr => ?_)
          refine Ends.congr (fun k => if_pos hr) (ih (i + 1) (p + 1) (by omega) (by omega) (fun j hj => ?_) (fun j hj hj2 => ?_))
          · rcases Nat.lt_or_ge j p with h | h
            · have := h1 j h; omega
            · obtain rfl : j = p := by omega
              omega
          · have := hf p j (by omega) hj2
            omega
      | false =>
        have hno : ¬ Has f f.length (i : Int) := fun ⟨j, j1, j2⟩ => by
          rcases Nat.lt_trichotomy j p with h | h | h
          · have := h1 j h; omega
          · subst h; exact hfa rfl j1 j2
          · have a := hf p j h j1
            have b := h2 p (Nat.le_refl _) (by omega)
            omega
        refine Ends.step (h := fun k => (impl_SameComplex.f k (rdOf c64z left (i : Int)) (rdOf c64z l (i : Int))).bind fun t198 => (if t198 = true then (laws_FnNormed.l1 k l f left (p : Int) ((i + 1 : Nat) : Int)) else (none))) (fun k => ?_) ?_
        · show laws_FnNormed.j5 (k + 1) _ _ _ _ _ _ _ = _
          rw [laws_FnNormed.j5, if_neg Bool.false_ne_true, if_pos (by omega), if_pos (by omega), w64 (n := (i : Int) + 1) (by omega) (by omega)]
          rfl
        · rw [s2 hno]
          refine Ends.bind (f := fun k t198 => (if t198 = true then (laws_FnNormed.l1 k l f left (p : Int) ((i + 1 : Nat) : Int)) else (none))) (same_fine (hl _ (rdOf_mem l i (by omega)))) (fun r hr => ?_)
          refine Ends.congr (fun k => if_pos hr) (ih (i + 1) p (by omega) hp (fun j hj => ?_) (fun j hj hj2 => ?_))
          · have := h1 j hj; omega
          · have a := h2 j hj hj2
            have b : rd f (j : Int) ≠ i := fun e => hno ⟨j, hj2, e⟩
            omega
    by_cases hpf : p < f.length
    · refine Ends.step (fun k => ?_) (go (rd f (p : Int) == (i : Int)) (fun h => ⟨hpf, by simpa using h⟩) (fun h _ => by simpa using h))
      show laws_FnNormed.l1 (k + 1) _ _ _ _ _ = _
      rw [laws_FnNormed.l1, if_pos (by omega), if_pos (by omega), if_pos (by omega), if_pos (by omega), if_pos (by omega)]
    · refine Ends.step (fun k => ?_) (go false (fun h => absurd h Bool.false_ne_true) (fun _ h => absurd h hpf))
      show laws_FnNormed.l1 (k + 1) _ _ _ _ _ = _
      rw [laws_FnNormed.l1, if_pos (by omega), if_pos (by omega), if_pos (by omega), if_neg (by omega)]
theorem rd_nat (f : List Int) (j : Nat) : rd f (j : Int) = f.getD j 0 := rfl
theorem rd_snoc (f : List Int) (x : Int) (j : Nat) : rd (f ++ [x]) (j : Int) = if j < f.length then rd f (j : Int) else if j = f.length then x else 0 := by
  rw [rd_nat, rd_nat]
  simp only [List.getD_eq_getElem?_getD, List.getElem?_append]
  split
  · rfl
  · rename_i h
    split
    · rename_i h2
      simp [h2]
    · rename_i h2
      obtain ⟨d, hd⟩ : ∃ d, j - f.length = d + 1 := ⟨j - f.length - 1, by omega⟩
      simp [hd]
theorem failed_loop (l1 : List Int) (hl1 : ∀ x ∈ l1, 0 ≤ x ∧ x ≤ 255) (l : List C64) (hl : ∀ x ∈ l, Fi x) (h1 : 1 ≤ l.length) (h2 : l.length ≤ 16) : ∀ (d i : Nat) (f : List Int), i + d = l.length → f.length ≤ i → Inc f → (∀ j : Nat, j < f.length → 0 ≤ rd f (j : Int) ∧ rd f (j : Int) < i) →
    Ends (fun k => laws_FnNormed.l0 k l1 l f (i : Int)) T1 := by
  intro d
  induction d with
  | zero =>
    intro i f hi hfi hf hr
    obtain rfl : i = l.length := by omega
    refine Ends.step (h := fun k => (impl_WithoutElements.f k l f).bind fun bt189 => (if bt189.2 = true then (laws_FnNormed.j3 k l f bt189.1 ((bt189.1.length : Int) != (l.length : Int))) else (none))) (fun k => ?_) ?_
    · show laws_FnNormed.l0 (k + 1) _ _ _ _ = _
      rw [laws_FnNormed.l0, if_neg (by omega)]
    · refine Ends.bind (f := fun k bt189 => (if bt189.2 = true then (laws_FnNormed.j3 k l f bt189.1 ((bt189.1.length : Int) != (l.length : Int))) else (none))) (without_some l f h1 h2 hf hr (by omega)) (fun r hr2 => ?_)
      obtain ⟨r1, r2, r3⟩ := hr2
      have e : ((r.1.length : Int) != (l.length : Int)) = false := by rw [r2]; simp
      rw [e]
      refine Ends.congr (fun k => if_pos r1) (Ends.step (fun k => ?_) (same_loop l f r.1 h2 (by omega) r2 hf hl r3 l.length 0 0 (by omega) (by omega) (fun j hj => by omega) (fun j _ hj => (hr j hj).1)))
      show laws_FnNormed.j3 (k + 1) _ _ _ _ = _
      rw [laws_FnNormed.j3, if_neg Bool.false_ne_true]
      rfl
  | succ d ih =>
    intro i f hi hfi hf hr
    obtain ⟨v, ev, -, -⟩ := at_some l1 hl1 (i : Int) 3 (by omega) (by omega)
    by_cases h0 : v = 0
    · refine Ends.step (fun k => ?_) (ih (i + 1) (f ++ [(i : Int)]) (by omega) (by simp; omega) (fun a b hab hb => ?_) (fun j hj => ?_))
      · show laws_FnNormed.l0 (k + 1) _ _ _ _ = laws_FnNormed.l0 k _ _ _ _
        rw [laws_FnNormed.l0, if_pos (by omega), ev]
        simp only [Option.bind_some]
        rw [if_pos h0, if_pos (by omega), w64 (by omega) (by omega), Int.natCast_add i 1]
        rfl
      · rw [List.length_append, List.length_singleton] at hb
        rw [rd_snoc, rd_snoc, if_pos (by omega)]
        split
        · exact hf a b hab (by omega)
        · rw [if_pos (by omega)]
          exact (hr a (by omega)).2
      · rw [List.length_append, List.length_singleton] at hj
        rw [rd_snoc]
        split
        · have := hr j (by omega); omega
        · rw [if_pos (by omega)]; omega
    · refine Ends.step (fun k => ?_) (ih (i + 1) f (by omega) (by omega) hf (fun j hj => by have := hr j hj; omega))
      show laws_FnNormed.l0 (k + 1) _ _ _ _ = laws_FnNormed.l0 k _ _ _ _
      rw [laws_FnNormed.l0, if_pos (by omega), ev]
      simp only [Option.bind_some]
      rw [if_neg h0, w64 (by omega) (by omega), Int.natCast_add i 1]
      rfl
/-- The law's second half. -/
theorem tail_some (l1 : List Int) (hl1 : ∀ x ∈ l1, 0 ≤ x ∧ x ≤ 255) (l : List C64) (hl : ∀ x ∈ l, Fi x) (h1 : 1 ≤ l.length) (h2 : l.length ≤ 16) : Ends (fun k => laws_FnNormed.j1 k l1 l) T1 := by
  refine Ends.step (fun k => ?_) (failed_loop l1 hl1 l hl h1 h2 l.length 0 [] (by omega) (by simp) (fun a b _ hb => by simp at hb) (fun j hj => by simp at hj))
  show laws_FnNormed.j1 (k + 1) _ _ = _
  rw [laws_FnNormed.j1]
  rfl
end Go.Proofs.Ytnfcbacdggkfeaa.PlainN
