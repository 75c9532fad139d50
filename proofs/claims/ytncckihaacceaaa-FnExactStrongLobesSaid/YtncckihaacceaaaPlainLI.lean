/-
  The reference and the program pick the same lobes.
-/
import Derived.Test.YtncckihaacceaaaPlainLH
namespace Go.Proofs.Ytncckihaacceaaa.PlainL
open Go.RowKit Go.Proofs.YtncckihaacceaaaW.PrintWords Go.Proofs.YtncckihaacceaaaW.PrintLast Go.Proofs.YtncckihaacceaaaW.PrintMore
open Go.Proofs.Ytncckihaacceaaa.L Go.Proofs.Ytncckihaacceaaa.LOrder

theorem pick_best {v : List Nat} {ls o T D : List Int} {x best : Int} (hp : (T ++ x :: D).Perm ls) (hsr : Srt v (T ++ x :: D)) (ho : ∀ z, z ∈ o ↔ z ∈ T) (hb : BestOf v o ls best) : best = x ∧ ¬ x ∈ o := by
  have h1 := List.pairwise_append.1 hsr
  have h2 := List.pairwise_cons.1 h1.2.1
  have hxT : ¬ x ∈ o := fun h => Bef.irrefl (h1.2.2 x ((ho x).1 h) x (by simp))
  have hx : x ∈ ls := hp.mem_iff.1 (by simp)
  refine ⟨?_, hxT⟩
  rcases hb with ⟨_, h3⟩ | ⟨h3, h4, h5⟩
  · exact absurd (h3 x hx) hxT
  · have h6 := hp.mem_iff.2 h3
    rcases List.mem_append.1 h6 with h | h
    · exact absurd ((ho best).2 h) h4
    · rcases List.mem_cons.1 h with h | h
      · exact h
      · rcases h5 x hx hxT with h7 | h7
        · exact h7.symm
        · exact (Bef.irrefl (h7.trans (h2.1 best h))).elim
theorem pick_l0 {v : List Nat} (ls s : List Int) (hok : Ok v ls) (hs : ls.Pairwise (· < ·)) (hp : s.Perm ls) (hsr : Srt v s) (hll : ls.length ≤ 129) : ∀ (n j c : Nat) (o : List Int), ls.length - j ≤ n → j ≤ ls.length → o.Pairwise (· < ·) → (∀ z, z ∈ o ↔ z ∈ s.take j) → o.length = j → c ≤ 129 →
    Ends (fun k => spec_StrongLobes.l0 k v (c : Int) ls o) (fun r => r.2 = true ∧ r.1.Pairwise (· < ·) ∧ ∀ z, z ∈ r.1 ↔ z ∈ s.take (j + min c (ls.length - j))) := by
  intro n
  induction n with
  | zero =>
    intro j c o hn hj ho hm hl hc
    have c1 : ¬ (o.length : Int) < (ls.length : Int) := by omega
    have e : j + min c (ls.length - j) = j := by omega
    rw [e]
    refine Ends.step (h := fun k => spec_StrongLobes.j2 k v (c : Int) ls o false) (fun k => ?_) (Ends.step (h := fun _ => some (o, true)) (fun k => ?_) (Ends.now ⟨rfl, ho, hm⟩))
    · simp only [spec_StrongLobes.l0]
      rw [decide_eq_false c1]
      split <;> rfl
    · simp only [spec_StrongLobes.j2]
      rfl
  | succ n ih =>
    intro j c o hn hj ho hm hl hc
    by_cases hc0 : 0 < c
    · by_cases hjl : j < ls.length
      · have c1 : (o.length : Int) < (ls.length : Int) := by omega
        have c2 : (c : Int) > 0 := by omega
        have hsl := hp.length_eq
        have hjs : j < s.length := by omega
        have es : s = s.take j ++ s[j] :: s.drop (j + 1) := by
          rw [← List.drop_eq_getElem_cons hjs, List.take_append_drop]
        have e1 : s.take (j + 1) = s.take j ++ [s[j]] := List.take_succ_eq_append_getElem hjs
        have n1 : (c : Int) - 1 = ((c - 1 : Nat) : Int) := by omega
        have n2 : c - 1 < 4294967296 := by omega
        have e2 : j + min c (ls.length - j) = (j + 1) + min (c - 1) (ls.length - (j + 1)) := by omega
        have best := best_l1 (v := v) (P := fun r => r.2 = true ∧ r.1.Pairwise (· < ·) ∧ ∀ z, z ∈ r.1 ↔ z ∈ s.take (j + min c (ls.length - j))) (c : Int) ls o (by omega) (by omega) hok hs (fun best hb => ?_) ls [] 0 (-1) rfl rfl (.inl ⟨rfl, by simp⟩)
        · refine Ends.step (h := fun k => spec_StrongLobes.j2 k v (c : Int) ls o true) (fun k => ?_) (Ends.step (fun k => ?_) best)
          · simp only [spec_StrongLobes.l0]
            rw [if_pos c2, decide_eq_true c1]
          · simp only [spec_StrongLobes.j2]
            rfl
        · obtain ⟨rfl, hno⟩ := pick_best (by rw [← es]; exact hp) (by rw [← es]; exact hsr) hm hb
          refine Ends.bind (f := fun k t => spec_StrongLobes.l0 k v (wrap64 ((c : Int) - 1)) ls t) (put_f o s[j] (by omega) ho hno) (fun r hr => ?_)
          obtain ⟨r1, r2, r3⟩ := hr
          have nx := ih (j + 1) (c - 1) r (by omega) (by omega) r1 (fun z => by
            rw [r3, e1, List.mem_append, List.mem_singleton, hm]
            exact Or.comm) (by omega) (by omega)
          rw [← e2] at nx
          have w := w64n n1 n2
          rw [w]
          exact nx
      · have c1 : ¬ (o.length : Int) < (ls.length : Int) := by omega
        have e : j + min c (ls.length - j) = j := by omega
        rw [e]
        refine Ends.step (h := fun k => spec_StrongLobes.j2 k v (c : Int) ls o false) (fun k => ?_) (Ends.step (h := fun _ => some (o, true)) (fun k => ?_) (Ends.now ⟨rfl, ho, hm⟩))
        · simp only [spec_StrongLobes.l0]
          rw [decide_eq_false c1]
          split <;> rfl
        · simp only [spec_StrongLobes.j2]
          rfl
    · have c1 : ¬ (c : Int) > 0 := by omega
      have e : j + min c (ls.length - j) = j := by omega
      rw [e]
      refine Ends.step (h := fun k => spec_StrongLobes.j2 k v (c : Int) ls o false) (fun k => ?_) (Ends.step (h := fun _ => some (o, true)) (fun k => ?_) (Ends.now ⟨rfl, ho, hm⟩))
      · simp only [spec_StrongLobes.l0]
        rw [if_neg c1]
      · simp only [spec_StrongLobes.j2]
        rfl
/-- The program's picks: the first of the sorted lobes, by place. -/
theorem sorted_take {v : List Nat} {s : List Int} (hsr : Srt v s) (m : Nat) : ((s.take m).mergeSort fun x y => decide (x ≤ y)).Pairwise (· < ·) ∧ (∀ z, z ∈ ((s.take m).mergeSort fun x y => decide (x ≤ y)) ↔ z ∈ s.take m) := by
  have hp := List.mergeSort_perm (s.take m) (fun x y : Int => decide (x ≤ y))
  have h1 : ((s.take m).mergeSort fun x y => decide (x ≤ y)).Pairwise (fun a b => (decide (a ≤ b)) = true) := List.pairwise_mergeSort (by intro a b c; simp; omega) (by intro a b; simp; omega) _
  have h2 : (s.take m).Nodup := by
    have : (s.take m).Pairwise (Bef v) := hsr.sublist (List.take_sublist m s)
    exact this.imp (fun {a b} h e => by subst e; exact Bef.irrefl h)
  have h3 := (hp.nodup_iff).2 h2
  refine ⟨?_, fun z => hp.mem_iff⟩
  have h4 := h1.and h3
  refine h4.imp (fun {a b} h => ?_)
  have := h.1
  have h5 := h.2
  simp at this
  omega
/-- What stands behind the sort. -/
def tailF (n : Nat) (q t247 : List Int) : Option (List Int × Bool) := ((some (([] : List Int) : List Int)).bind fun y248 => (if 0 ≤ (mn (n : Int) (q.length : Int)) then (if (mn (n : Int) (q.length : Int)) ≤ (q.length : Int) then ((some (t247.take ((mn (n : Int) (q.length : Int)) : Int).toNat : List Int)).bind fun y251 => (if y248.length + y251.length < 17592186044416 then ((some (y248 ++ y251 : List Int)).bind fun y255 => ((slices_Sort_int64_int64.f y255).bind fun y300 => (some (y300, true)))) else (none))) else (none)) else (none)))
theorem j0_tail (k : Nat) (v : List Nat) (n : Nat) (q : List Int) : impl_StrongLobes.j0 (k + 1) v (n : Int) q false = (slices_SortStableFunc_int64_int64.f k q v).bind (tailF n q) := by
  simp only [impl_StrongLobes.j0]
  rw [if_neg (by decide)]
  rfl
theorem tailF_is (n : Nat) (q t : List Int) (hq : q.length ≤ 129) (ht : t.length = q.length) : tailF n q t = some ((t.take (min n q.length)).mergeSort (fun x y => decide (x ≤ y)), true) := by
  have m1 : mn (n : Int) (q.length : Int) = ((min n q.length : Nat) : Int) := by
    unfold mn
    split <;> omega
  have m2 : (0 : Int) ≤ ((min n q.length : Nat) : Int) := by omega
  have m3 : ((min n q.length : Nat) : Int) ≤ (q.length : Int) := by omega
  have m4 : (t.take (min n q.length)).length < 4611686018427387904 := by rw [List.length_take]; omega
  have m5 : (([] : List Int)).length + (t.take (min n q.length)).length < 17592186044416 := by rw [List.length_take]; simp; omega
  unfold tailF
  rw [m1]
  simp only [Option.bind_some]
  rw [if_pos m2, if_pos m3, Int.toNat_natCast, if_pos m5, List.nil_append]
  unfold slices_Sort_int64_int64.f
  rw [if_pos m4]
  rfl
theorem lobes_both (v : List Nat) (c : Int) : Both (fun k => spec_StrongLobes.f k v c) (fun k => impl_StrongLobes.f k v c) (fun r => r.1.length ≤ 129) := by
  by_cases hv : (v.length : Int) ≥ 1 ∧ (v.length : Int) ≤ 129
  · obtain ⟨v1, v2⟩ := hv
    obtain ⟨ls, i1, s1, hrise, hok⟩ := run_f v (by omega)
    by_cases hc : c ≥ 0 ∧ c ≤ 129
    · obtain ⟨c1, c2⟩ := hc
      obtain ⟨n, rfl⟩ := Int.eq_ofNat_of_zero_le c1
      have hll : ls.length ≤ 129 := by
        have hl : ∀ (xs : List Int) (a b : Int), xs.Pairwise (· < ·) → (∀ x, x ∈ xs → a ≤ x ∧ x < b) → a ≤ b → (xs.length : Int) ≤ b - a := by
          intro xs
          induction xs with
          | nil => intro a b _ _ h; simp; omega
          | cons x xs ih =>
            intro a b hp hb hab
            have hp' := List.pairwise_cons.1 hp
            have h1 := hb x (by simp)
            have := ih (x + 1) b hp'.2 (fun y hy => ⟨by have := hp'.1 y hy; omega, (hb y (by simp [hy])).2⟩) (by omega)
            simp
            omega
        have := hl ls 0 (v.length : Int) hrise (fun x hx => ⟨(hok x hx).1, (hok x hx).2.1⟩) (by omega)
        omega
      have st := stable_f (v := v) ls (by omega) hok hrise
      obtain ⟨s, K, hK, hperm, hsrt⟩ := st
      have hsl := hperm.length_eq
      have sp := pick_l0 (v := v) ls s hok hrise hperm hsrt hll ls.length 0 n [] (by omega) (by omega) List.Pairwise.nil (by simp) rfl (by omega)
      obtain ⟨r, K2, hK2, r1, r2, r3⟩ := sp
      obtain ⟨t1, t2⟩ := sorted_take hsrt (min n ls.length)
      have e0 : 0 + min n (ls.length - 0) = min n ls.length := by omega
      rw [e0] at r3
      have er : r.1 = (s.take (min n ls.length)).mergeSort fun x y => decide (x ≤ y) := rise_eq _ _ r2 t1 (fun z => (r3 z).trans (t2 z).symm)
      have hr : r = ((s.take (min n ls.length)).mergeSort (fun x y => decide (x ≤ y)), true) := by rw [← er, ← r1]
      refine ⟨r, ?_, ?_, ?_⟩
      · refine Ends.congr (h := fun k => spec_StrongLobes.j0 k v (n : Int) false) (fun k => ?_) (Ends.step (h := fun k => (spec_l03Runs.f k v true).bind fun t156 => spec_StrongLobes.l0 k v (n : Int) t156 []) (fun k => ?_) (Ends.bind (f := fun k t156 => spec_StrongLobes.l0 k v (n : Int) t156 []) s1 (fun q hq => ?_)))
        · unfold spec_StrongLobes.f spec_l03Few.f spec_l00In.f
          rw [if_pos v1, decide_eq_true v2]
          simp only [Option.bind_some, if_true]
          rw [if_pos c1, decide_eq_true c2]
          rfl
        · simp only [spec_StrongLobes.j0]
          rfl
        · subst hq
          exact ⟨r, K2, hK2, rfl⟩
      · refine Ends.congr (h := fun k => (impl_runs.f k v).bind fun t => impl_StrongLobes.j0 k v (n : Int) t false) (fun k => ?_) (Ends.bind (f := fun k t => impl_StrongLobes.j0 k v (n : Int) t false) i1 (fun q hq => ?_))
        · unfold impl_StrongLobes.f impl_LobesOf.f impl_isCut.f impl_within.f
          rw [if_pos v1, decide_eq_true v2]
          simp only [Option.bind_some, if_true]
          rw [if_pos c1, decide_eq_true c2]
          cases impl_runs.f k v with
          | none => rfl
          | some t => rfl
        · subst hq
          exact Ends.step (h := fun k => (slices_SortStableFunc_int64_int64.f k q v).bind (tailF n q)) (fun k => j0_tail k v n q) (Ends.bind (f := fun _ => tailF n q) (P := fun t => t = s) ⟨s, K, hK, rfl⟩ (fun t ht => by
            subst ht
            rw [tailF_is n q t hll hsl, ← hr]
            exact Ends.now rfl))
      · show r.1.length ≤ 129
        rw [er, List.length_mergeSort, List.length_take]
        omega
    · refine ⟨([], false), ?_, ?_, by simp⟩
      · refine Ends.congr (h := fun k => spec_StrongLobes.j0 k v c true) (fun k => ?_) (Ends.step (h := fun _ => some ([], false)) (fun k => ?_) (Ends.now rfl))
        · unfold spec_StrongLobes.f spec_l03Few.f spec_l00In.f
          rw [if_pos v1, decide_eq_true v2]
          simp only [Option.bind_some, if_true]
          by_cases h : c ≥ 0
          · rw [if_pos h, decide_eq_false (by omega)]; rfl
          · rw [if_neg h]; rfl
        · simp only [spec_StrongLobes.j0]
          rfl
      · refine Ends.congr (h := fun k => (impl_runs.f k v).bind fun t => impl_StrongLobes.j0 k v c t true) (fun k => ?_) (Ends.bind (f := fun k t => impl_StrongLobes.j0 k v c t true) i1 (fun q hq => Ends.step (h := fun _ => some ([], false)) (fun k => ?_) (Ends.now rfl)))
        · unfold impl_StrongLobes.f impl_LobesOf.f impl_isCut.f impl_within.f
          rw [if_pos v1, decide_eq_true v2]
          simp only [Option.bind_some, if_true]
          by_cases h : c ≥ 0
          · rw [if_pos h, decide_eq_false (by omega)]
            cases impl_runs.f k v with
            | none => rfl
            | some t => rfl
          · rw [if_neg h]
            cases impl_runs.f k v with
            | none => rfl
            | some t => rfl
        · simp only [impl_StrongLobes.j0]
          rfl
  · refine ⟨([], false), ?_, ?_, by simp⟩
    · refine Ends.congr (h := fun k => spec_StrongLobes.j0 k v c true) (fun k => ?_) (Ends.step (h := fun _ => some ([], false)) (fun k => ?_) (Ends.now rfl))
      · unfold spec_StrongLobes.f spec_l03Few.f
        by_cases h : (v.length : Int) ≥ 1
        · rw [if_pos h, decide_eq_false (by omega)]; rfl
        · rw [if_neg h]; rfl
      · simp only [spec_StrongLobes.j0]
        rfl
    · refine Ends.congr (h := fun k => impl_StrongLobes.j0 k v c [] true) (fun k => ?_) (Ends.step (h := fun _ => some ([], false)) (fun k => ?_) (Ends.now rfl))
      · unfold impl_StrongLobes.f impl_LobesOf.f impl_isCut.f impl_within.f
        by_cases h : (v.length : Int) ≥ 1
        · rw [if_pos h, decide_eq_false (by omega)]; rfl
        · rw [if_neg h]; rfl
      · simp only [impl_StrongLobes.j0]
        rfl
end Go.Proofs.Ytncckihaacceaaa.PlainL
