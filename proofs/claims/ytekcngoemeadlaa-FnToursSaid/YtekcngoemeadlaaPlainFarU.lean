/-
  Groups of beams that are far from one another: each beam once, and no two of a group near.
-/
import Derived.Test.YtekcngoemeadlaaPlainDraw
import Derived.Test.YtekcngoemeadlaaUx5
namespace Go.Proofs.Ytekcngoemeadlaa.PlainU
open Go.RowKit Go.Proofs.YtekcngoemeadlaaW.PrintWords Go.Proofs.YtekcngoemeadlaaW.PrintLast Go.Proofs.YtekcngoemeadlaaW.PrintMore
open Go.Proofs.Ytekcngoemeadlaa.U

theorem count_set (gs : List (List Int)) (j : Nat) (hj : j < gs.length) (x a : Int) : ((gs.set j (gs.getD j [] ++ [x])).flatten).count a = gs.flatten.count a + [x].count a := by
  have hg : gs.getD j [] = gs[j] := by simp [List.getD_eq_getElem?_getD, List.getElem?_eq_getElem hj]
  rw [hg, List.set_eq_take_append_cons_drop, if_pos hj]
  have h2 : gs = gs.take j ++ gs[j] :: gs.drop (j + 1) := by
    rw [← List.drop_eq_getElem_cons hj, List.take_append_drop]
  conv => rhs; rw [h2]
  simp only [List.flatten_append, List.flatten_cons, List.count_append]
  omega
theorem farG_count (l : List S54) (ap : Int) : ∀ (i : Nat) (a : Int), ((farG l ap i).flatten).count a = if 0 ≤ a ∧ a < i then 1 else 0 := by
  intro i
  induction i with
  | zero => intro a; simp [farG]
  | succ i ih =>
    intro a
    have key : ((farG l ap (i + 1)).flatten).count a = ((farG l ap i).flatten).count a + [(i : Int)].count a := by
      simp only [farG, farStep]
      split
      · rw [List.flatten_append, List.count_append]; simp
      · rename_i hneg
        exact count_set _ _ (pickI_lt _ _ _ _ _ hneg).1 _ _
    rw [key, ih a]
    by_cases h : (i : Int) = a
    · subst h
      rw [if_neg (by omega), if_pos (by omega)]
      simp
    · have : [(i : Int)].count a = 0 := by simp [h]
      rw [this]
      by_cases h1 : 0 ≤ a ∧ a < i
      · rw [if_pos h1, if_pos (by omega)]
      · rw [if_neg h1, if_neg (by omega)]
/-- Two beams of one group are far: the later one's place is not near the earlier one. -/
theorem farG_far (l : List S54) (ap : Int) : ∀ (i : Nat), ∀ g ∈ farG l ap i, ∀ p q : Nat, (hq : q < g.length) → (hpq : p < q) → ∃ x y : Nat, g[q] = (x : Int) ∧ g[p]'(by omega) = (y : Int) ∧ nearB l ap (l.getD x z54).f0.f0 (l.getD x z54).f0.f1 y = false := by
  intro i
  induction i with
  | zero => intro g hg; cases hg
  | succ i ih =>
    intro g hg p q hq hpq
    simp only [farG, farStep] at hg
    split at hg
    · rcases List.mem_append.1 hg with h | h
      · exact ih g h p q hq hpq
      · simp at h; subst h; simp at hq; omega
    · rename_i hneg
      obtain ⟨hlt, hj⟩ := pickI_lt _ _ _ _ _ hneg
      rcases List.mem_or_eq_of_mem_set hg with h | h
      · exact ih g h p q hq hpq
      · generalize hy0 : (l.getD i z54).f0.f0 = y0 at *
        generalize hy1 : (l.getD i z54).f0.f1 = y1 at *
        generalize hjj : (pickI l ap y0 y1 (farG l ap i)).toNat = j at *
        have hgd : (farG l ap i).getD j [] = (farG l ap i)[j] := by simp [List.getD_eq_getElem?_getD, List.getElem?_eq_getElem hlt]
        rw [hgd] at h
        have hmem : (farG l ap i)[j] ∈ farG l ap i := List.getElem_mem hlt
        -- the group chosen has no near one
        have hno : ((farG l ap i)[j]).any (nearI l ap y0 y1) = false := by
          unfold pickI at hjj hneg
          cases hf : (farG l ap i).findIdx? (fun g => !g.any (nearI l ap y0 y1)) with
          | none => rw [hf] at hneg; exact absurd (show (-1 : Int) < 0 by decide) hneg
          | some m =>
            obtain ⟨hm, hp, -⟩ := List.findIdx?_eq_some_iff_getElem.1 hf
            rw [hf] at hjj
            simp at hjj
            subst hjj
            simpa using hp
        subst h
        rcases Nat.lt_or_ge q ((farG l ap i)[j]).length with hql | hql
        · obtain ⟨x, y, h1, h2, h3⟩ := ih _ hmem p q hql hpq
          exact ⟨x, y, by rw [List.getElem_append_left hql]; exact h1, by rw [List.getElem_append_left (by omega)]; exact h2, h3⟩
        · have hqe : q = ((farG l ap i)[j]).length := by simp at hq; omega
          have hpl : p < ((farG l ap i)[j]).length := by omega
          have hin := farG_in l ap i _ hmem _ (List.getElem_mem hpl)
          obtain ⟨y, hy⟩ := Int.eq_ofNat_of_zero_le hin.1
          refine ⟨i, y, ?_, by rw [List.getElem_append_left hpl]; exact hy, ?_⟩
          · subst hqe
            rw [List.getElem_append_right (Nat.le_refl _)]
            simp
          · rw [hy0, hy1]
            have := List.any_eq_false.1 hno _ (List.getElem_mem hpl)
            unfold nearI at this
            rw [hy, Int.toNat_natCast] at this
            simpa using this
end Go.Proofs.Ytekcngoemeadlaa.PlainU
