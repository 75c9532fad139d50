/-
  The plain laws of FnExactBusyTicks, the first part: the program's job numbers and the reference's counters judge a plan alike.
-/
import Derived.Test.YtekcngoemeadlaaPlainB
import Derived.Test.YtekcngoemeadlaaBx7
namespace Go.Proofs.Ytekcngoemeadlaa.PlainB
open Go.RowKit Go.Proofs.YtekcngoemeadlaaW.PrintWords Go.Proofs.YtekcngoemeadlaaW.PrintLast Go.Proofs.YtekcngoemeadlaaW.PrintMore
open Go.Proofs.Ytekcngoemeadlaa.B

/-! ### Copies and comparisons -/
def convS (x : S106) : S81 := ⟨x.f0, x.f1⟩
theorem rd81 (l : List S81) (i : Nat) (h : i < l.length) : rd_T81 l (i : Int) = l[i] := by
  unfold rd_T81
  simp [List.getD_eq_getElem?_getD, List.getElem?_eq_getElem h]
theorem rd106 (l : List S106) (i : Nat) (h : i < l.length) : rd_T106 l (i : Int) = l[i] := by
  unfold rd_T106
  simp [List.getD_eq_getElem?_getD, List.getElem?_eq_getElem h]
theorem rdI (l : List Int) (i : Nat) (h : i < l.length) : rd l (i : Int) = l[i] := by
  unfold rd
  simp [List.getD_eq_getElem?_getD, List.getElem?_eq_getElem h]
theorem toSlot_loop (l : List S106) (hn : l.length ≤ 9223372036854775807) : ∀ (d k i : Nat) (x : List S81), x.length = l.length → i + d = l.length → d < k →
    laws_toSlotS.l0 k l x (i : Int) = some (x.take i ++ (l.drop i).map convS) := by
  intro d
  induction d with
  | zero =>
    intro k i x hx hi hk
    obtain ⟨k, rfl⟩ : ∃ m, k = m + 1 := ⟨k - 1, by omega⟩
    simp only [laws_toSlotS.l0]
    rw [if_neg (by omega), List.drop_of_length_le (by omega), List.take_of_length_le (by omega)]
    simp
  | succ d ih =>
    intro k i x hx hi hk
    obtain ⟨k, rfl⟩ : ∃ m, k = m + 1 := ⟨k - 1, by omega⟩
    have hlt : i < l.length := by omega
    simp only [laws_toSlotS.l0]
    rw [if_pos (by omega), if_pos (by omega), rd106 l i hlt]
    simp only [laws_toSlot.f, Option.bind_some]
    rw [if_pos (by omega), w64_succ hlt hn, ih k (i + 1) _ (by simpa using hx) (by omega) (by omega), List.drop_eq_getElem_cons hlt]
    congr 1
    rw [List.map_cons, Int.toNat_natCast, List.take_succ_eq_append_getElem (by simp; omega)]
    simp [convS, take_set_self]
theorem toSlotS_f (l : List S106) (hn : l.length ≤ 8796093022208) (k : Nat) (hk : l.length < k) : laws_toSlotS.f k l = some (l.map convS) := by
  unfold laws_toSlotS.f
  rw [if_pos (by omega), if_pos (by omega)]
  have := toSlot_loop l (by omega) l.length k 0 (List.replicate ((l.length : Int)).toNat z81) (by simp) (by omega) hk
  simpa using this
theorem eqSlot_loop (l : List S81) (hn : l.length ≤ 9223372036854775807) : ∀ (d k i : Nat), i + d = l.length → d < k → laws_eqSlotS.l0 k l l (i : Int) = some true := by
  intro d
  induction d with
  | zero =>
    intro k i hi hk
    obtain ⟨k, rfl⟩ : ∃ m, k = m + 1 := ⟨k - 1, by omega⟩
    simp only [laws_eqSlotS.l0]
    rw [if_neg (by omega)]
  | succ d ih =>
    intro k i hi hk
    obtain ⟨k, rfl⟩ : ∃ m, k = m + 1 := ⟨k - 1, by omega⟩
    have hlt : i < l.length := by omega
    simp only [laws_eqSlotS.l0]
    rw [if_pos (by omega), if_pos (by omega), if_pos (by omega), show laws_eqSlot.f (rd_T81 l (i : Int)).f0 (rd_T81 l (i : Int)).f1 (rd_T81 l (i : Int)).f0 (rd_T81 l (i : Int)).f1 = some true by simp [laws_eqSlot.f]]
    simp only [Option.bind_some, if_true]
    rw [w64_succ hlt hn, ih k (i + 1) (by omega) (by omega)]
theorem eqSlotS_f (l : List S81) (hn : l.length ≤ 9223372036854775807) (k : Nat) (hk : l.length < k) : laws_eqSlotS.f k l l = some true := by
  have := eqSlot_loop l hn l.length k 0 (by omega) hk
  simpa [laws_eqSlotS.f] using this
theorem szSlotS_f (l : List S106) (a : Int) (ha : 0 ≤ a ∧ a ≤ 1048576) (hn : l.length ≤ 9223372036854775807) : ∃ r, laws_szSlotS.f l a = some r ∧ (r < 0 ∨ (r = a - l.length ∧ (l.length : Int) ≤ a)) := by
  unfold laws_szSlotS.f
  rw [w64 (n := a - (l.length : Int)) (by omega) (by omega)]
  by_cases h : a - (l.length : Int) < 0
  · rw [if_pos h]; exact ⟨_, rfl, .inl (by decide)⟩
  · rw [if_neg h]; exact ⟨_, rfl, .inr ⟨rfl, by omega⟩⟩

/-! ### Switches -/
theorem qmax (a b : Int) : spec_l00Max.f a b = some (mx a b) := by
  unfold spec_l00Max.f mx
  split <;> split <;> first | rfl | (congr 1; omega)
theorem qswitch (a b c d : Int) : impl_switchTicks.f a b c d = spec_l09Switch.f a b c d := by
  unfold impl_switchTicks.f spec_l09Switch.f impl_far.f spec_l09Abs.f
  simp only [qmax, Option.bind_some]
theorem qswitch_some (a b c d : Int) : ∃ r, spec_l09Switch.f a b c d = some r := by
  unfold spec_l09Switch.f spec_l09Abs.f
  simp only [qmax, Option.bind_some]
  exact ⟨_, rfl⟩

/-! ### Job numbers and counters -/
theorem jcnt_le (s : List S81) (i : Nat) (b : Int) : jcnt s i b ≤ i := by
  unfold jcnt
  refine Nat.le_trans List.countP_le_length ?_
  rw [List.length_take]; omega
theorem jcnt_succ (s : List S81) (i : Nat) (h : i < s.length) (b : Int) : jcnt s (i + 1) b = jcnt s i b + if s[i].f0 = b then 1 else 0 := by
  unfold jcnt
  rw [List.take_succ_eq_append_getElem h, List.countP_append]
  congr 1
  by_cases e : s[i].f0 = b
  · simp [e]
  · simp [e]
theorem jobs_at (s : List S81) (i : Nat) (h : i < s.length) : rd (jobsL s) (i : Int) = (jcnt s i s[i].f0 : Nat) := by
  rw [rdI _ i (by simpa [jobsL] using h)]
  simp [jobsL, jnum, List.getD_eq_getElem?_getD, List.getElem?_eq_getElem h]
theorem beam_at (l : List S54) (hl : l.all beamB = true) (b : Int) (h0 : 0 ≤ b) (h1 : b < l.length) : beamB (rd_T54 l b) = true := by
  obtain ⟨n, rfl⟩ := Int.eq_ofNat_of_zero_le h0
  rw [rd54 l n (by omega)]
  exact List.all_eq_true.1 hl _ (List.getElem_mem _)

/-- The two loops from slot i on, the counters being those of the slots before it. -/
theorem plan_loop (l : List S54) (s : List S81) (hl : l.all beamB = true) (h7 : l.length ≤ 7) (hs : s.length ≤ 200) : ∀ (d k i : Nat) (x : List Int), i + d = s.length → 2 * d < k →
    x.length = l.length → (∀ b : Nat, b < l.length → rd x (b : Int) = (jcnt s i (b : Int) : Nat)) → (∀ j : Nat, (hj : j < s.length) → j < i → 0 ≤ s[j].f0 ∧ s[j].f0 < l.length) →
    ∃ r, spec_l09Slots.l0 k l s x (s.length : Int) (i : Int) = some r ∧ impl_IsPlan.l0 k l s (jobsL s) s (s.length : Int) (i : Int) = some r ∧ (r = true → ∀ j : Nat, (hj : j < s.length) → 0 ≤ s[j].f0 ∧ s[j].f0 < l.length) := by
  intro d
  induction d with
  | zero =>
    intro k i x hi hk hx hc hr
    obtain ⟨k, rfl⟩ : ∃ m, k = m + 1 := ⟨k - 1, by omega⟩
    simp only [spec_l09Slots.l0, impl_IsPlan.l0]
    rw [if_neg (by omega), if_neg (by omega)]
    exact ⟨_, rfl, rfl, fun _ j hj => hr j hj (by omega)⟩
  | succ d ih =>
    intro k i x hi hk hx hc hr
    obtain ⟨k, rfl⟩ : ∃ m, k = m + 2 := ⟨k - 2, by omega⟩
    have hlt : i < s.length := by omega
    have hjl : (jobsL s).length = s.length := by simp [jobsL]
    simp only [spec_l09Slots.l0, impl_IsPlan.l0]
    simp only [if_pos (show (i : Int) < (s.length : Int) by omega), if_pos (show (0 : Int) ≤ (i : Int) by omega)]
    rw [rd81 s i hlt, in_f, within_f, w64 (n := (l.length : Int) - 1) (by omega) (by omega)]
    simp only [Option.bind_some]
    generalize hb : s[i].f0 = b
    generalize ht : s[i].f1 = t
    by_cases hin : inB b 0 ((l.length : Int) - 1) = true
    · rw [if_pos hin, if_pos hin]
      obtain ⟨hb0, hb1⟩ := (inB_iff _ _ _).1 hin
      have hbm := beam_at l hl b hb0 (by omega)
      simp only [beamB, Bool.and_eq_true, inB_iff] at hbm
      obtain ⟨-, hw, he⟩ := hbm
      obtain ⟨bn, rfl⟩ := Int.eq_ofNat_of_zero_le hb0
      have hcb := hc bn (by omega)
      have hjb := jobs_at s i hlt
      rw [hb] at hjb
      have hle := jcnt_le s i (bn : Int)
      rw [if_pos (by omega), if_pos (by omega), if_pos (by omega), hcb, in_f, within_f]
      simp only [Option.bind_some]
      rw [hjb]
      -- the earliest tick of the slot
      generalize hE : (rd_T54 l (bn : Int)).f2 = E at *
      have hprod : 0 ≤ ((jcnt s i (bn : Int) : Nat) : Int) * E ∧ ((jcnt s i (bn : Int) : Nat) : Int) * E ≤ 200 * 10000 := by
        constructor
        · exact Int.mul_nonneg (by omega) (by omega)
        · exact Int.mul_le_mul (by omega) (by omega) (by omega) (by omega)
      rw [w64 (n := ((jcnt s i (bn : Int) : Nat) : Int) * E) (by omega) (by omega)]
      generalize ((jcnt s i (bn : Int) : Nat) : Int) * E = e at *
      by_cases ht0 : inB t 0 100000 = true
      · rw [if_pos ht0, if_pos (by omega), if_pos (by omega), if_pos (by omega)]
        obtain ⟨ht1, ht2⟩ := (inB_iff _ _ _).1 ht0
        simp only [spec_l09Slots.j1, impl_IsPlan.j2]
        by_cases hte : t < e
        · have : inB t e 100000 = false := by
            cases h : inB t e 100000
            · rfl
            · have := (inB_iff _ _ _).1 h; omega
          rw [this, decide_eq_true hte]
          exact ⟨_, rfl, rfl, fun h => absurd h (by decide)⟩
        · have : inB t e 100000 = true := (inB_iff _ _ _).2 (by omega)
          rw [this, decide_eq_false hte]
          simp only [Bool.not_true, Bool.false_eq_true, if_false]
          -- the counters beyond the slot
          have hnext : ∀ b : Nat, b < l.length → rd (x.set ((bn : Int)).toNat (wrap64 (((jcnt s i (bn : Int) : Nat) : Int) + 1))) (b : Int) = (jcnt s (i + 1) (b : Int) : Nat) := by
            intro b hbl
            rw [Int.toNat_natCast, rdI _ b (by simp; omega), jcnt_succ s i hlt, hb]
            by_cases e : bn = b
            · subst e
              rw [List.getElem_set_self, if_pos rfl, w64 (by omega) (by omega)]
              omega
            · rw [List.getElem_set_ne e, if_neg (by omega), ← rdI x b (by omega), hc b hbl]
              rfl
          have hr' : ∀ j : Nat, (hj : j < s.length) → j < i + 1 → 0 ≤ s[j].f0 ∧ s[j].f0 < l.length := by
            intro j hj hji
            rcases Nat.lt_or_ge j i with h | h
            · exact hr j hj h
            · obtain rfl : j = i := by omega
              rw [hb]; omega
          have hgo := ih k (i + 1) (x.set ((bn : Int)).toNat (wrap64 (((jcnt s i (bn : Int) : Nat) : Int) + 1))) (by omega) (by omega) (by simpa using hx) hnext hr'
          rw [w64_succ hlt (by omega)]
          rcases Nat.eq_zero_or_pos i with hz | hz
          · rw [if_neg (by omega), if_pos (by omega), if_pos (by omega), if_neg (by omega), hcb]
            exact hgo
          · have hp := hr (i - 1) (by omega) (by omega)
            have hw1 : wrap64 ((i : Int) - 1) = ((i - 1 : Nat) : Int) := by rw [w64 (by omega) (by omega)]; omega
            rw [hw1, rd81 s (i - 1) (by omega), qswitch]
            obtain ⟨q, hq⟩ := qswitch_some (rd_T54 l s[i - 1].f0).f0.f0 (rd_T54 l s[i - 1].f0).f0.f1 (rd_T54 l (bn : Int)).f0.f0 (rd_T54 l (bn : Int)).f0.f1
            rw [hq]
            simp only [Option.bind_some]
            by_cases hf : t < wrap64 (wrap64 (s[i - 1].f1 + (rd_T54 l s[i - 1].f0).f1) + q)
            · rw [if_pos (by omega), if_pos (by omega), if_pos (by omega), if_pos (by omega), if_pos (by omega), if_pos (by omega), if_pos (by omega), if_pos hf, if_pos (by omega), if_pos (by omega), if_pos (by omega), if_pos (by omega), if_pos (by omega), if_pos (by omega), if_pos (by omega), if_pos hf]
              exact ⟨_, rfl, rfl, fun h => absurd h (by decide)⟩
            · rw [if_pos (by omega), if_pos (by omega), if_pos (by omega), if_pos (by omega), if_pos (by omega), if_pos (by omega), if_pos (by omega), if_neg hf, if_pos (by omega), if_pos (by omega), if_pos (by omega), if_pos (by omega), if_pos (by omega), if_pos (by omega), if_pos (by omega), if_pos (by omega), if_neg hf, hcb]
              exact hgo
      · have : inB t e 100000 = false := by
          cases h : inB t e 100000
          · rfl
          · have := (inB_iff _ _ _).1 h
            exact absurd ((inB_iff _ _ _).2 (by omega)) ht0
        rw [if_neg ht0, this]
        simp only [spec_l09Slots.j1, impl_IsPlan.j2]
        exact ⟨_, rfl, rfl, fun h => absurd h (by decide)⟩
    · rw [if_neg hin, if_neg hin]
      simp only [spec_l09Slots.j1, impl_IsPlan.j2]
      exact ⟨_, rfl, rfl, fun h => absurd h (by decide)⟩
theorem isPlan_f (l : List S54) (s : List S81) (hn : l.length ≤ 9223372036854775807) (hf : jfits s = true) (k : Nat) (hk : l.length + 2 * s.length + 3 < k) :
    ∃ r, ((spec_l09Is.f k l).bind fun t => if t = true then ((spec_l09Slots.f k l s).bind fun t => some t) else some false) = some r ∧ impl_IsPlan.f k l s = some r ∧ (r = true → s.length ≤ 200 ∧ ∀ j : Nat, (hj : j < s.length) → 0 ≤ s[j].f0 ∧ s[j].f0 < l.length) := by
  unfold impl_IsPlan.f
  rw [specBeams_f l hn k (by omega), areBeams_f l hn k (by omega)]
  simp only [Option.bind_some, spec_l09Slots.f]
  obtain ⟨k', rfl⟩ : ∃ m, k = m + 1 := ⟨k - 1, by omega⟩
  cases h : areB l
  · exact ⟨_, rfl, rfl, fun h => absurd h (by decide)⟩
  · simp only [areB, Bool.and_eq_true, inB_iff] at h
    rw [if_pos rfl, if_pos rfl]
    by_cases h2 : (s.length : Int) > 200
    · rw [if_pos h2, decide_eq_true h2]
      exact ⟨_, rfl, rfl, fun h => absurd h (by decide)⟩
    · rw [if_neg h2, decide_eq_false h2, if_pos (by omega), if_pos (by omega)]
      simp only [impl_IsPlan.j0, impl_jobsOf.f, Bool.false_eq_true, if_false]
      rw [if_pos hf, if_pos (by omega)]
      simp only [Option.bind_some]
      obtain ⟨r, h3, h4, h5⟩ := plan_loop l s h.1 (by omega) (by omega) s.length k' 0 (List.replicate ((l.length : Int)).toNat 0) (by omega) (by omega) (by simp)
        (fun b hb => by rw [rdI _ b (by simp; omega)]; simp [jcnt]) (fun j _ h => absurd h (by omega))
      refine ⟨r, ?_, h4, fun hr => ⟨by omega, h5 hr⟩⟩
      have h6 := (spec_l09Slots.mono_l k').1 _ _ _ _ _ _ h3
      rw [show ((0 : Nat) : Int) = 0 from rfl] at h6
      rw [h6]
      rfl
end Go.Proofs.Ytekcngoemeadlaa.PlainB
