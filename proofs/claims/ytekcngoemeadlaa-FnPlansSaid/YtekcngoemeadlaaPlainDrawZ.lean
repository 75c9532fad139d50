/-
  What the law of tours draws: numbers in their ranges, beams that are valid.
-/
import Derived.Test.YtekcngoemeadlaaZx2
import Derived.Laws.Bits64b
namespace Go.Proofs.Ytekcngoemeadlaa.PlainZ
open Go.RowKit Go.Proofs.YtekcngoemeadlaaW.PrintWords Go.Proofs.YtekcngoemeadlaaW.PrintLast Go.Proofs.YtekcngoemeadlaaW.PrintMore
open Go.Proofs.Ytekcngoemeadlaa.Z

theorem w64 {n : Int} (h0 : -9223372036854775808 ≤ n) (h1 : n ≤ 9223372036854775807) : wrap64 n = n := by unfold wrap64; omega
theorem u64_range (x : Int) : 0 ≤ IntKind.u64.wrap x ∧ IntKind.u64.wrap x < 18446744073709551616 := by
  simp [IntKind.wrap, IntKind.bits, IntKind.signed]
  omega
theorem and255 (x : Int) : 0 ≤ Go.bits .and .u64 (IntKind.u64.wrap x / 1099511627776) 255 ∧ Go.bits .and .u64 (IntKind.u64.wrap x / 1099511627776) 255 ≤ 255 := by
  obtain ⟨h0, h1⟩ := u64_range x
  generalize IntKind.u64.wrap x = y at *
  have h2 : 0 ≤ y / 1099511627776 := Int.ediv_nonneg h0 (by decide)
  have h3 : y / 1099511627776 ≤ y := Int.ediv_le_self _ h0
  obtain ⟨n, hn⟩ := Int.eq_ofNat_of_zero_le h2
  rw [hn]
  have := bits_and_u64_nat n 255 (by omega) (by decide)
  rw [show (255 : Int) = ((255 : Nat) : Int) from rfl, this]
  have h4 : n &&& 255 ≤ 255 := Nat.and_le_right
  omega
theorem rd_mem (l : List Int) (p : Int) (h0 : 0 ≤ p) (h1 : p < l.length) : rd l p ∈ l := by
  obtain ⟨n, rfl⟩ := Int.eq_ofNat_of_zero_le h0
  have hn : n < l.length := by omega
  unfold rd
  simp [List.getD_eq_getElem?_getD, List.getElem?_eq_getElem hn]
theorem next_some (l : List Int) (hl : ∀ x ∈ l, 0 ≤ x ∧ x ≤ 255) (p q : Int) (h0 : 0 ≤ p) (h1 : p < 4611686018427387904) : ∃ v q', spec_l00Src_next.f l p q = some (v, p + 1, q') ∧ 0 ≤ v ∧ v ≤ 255 := by
  unfold spec_l00Src_next.f
  rw [w64 (n := p + 1) (by omega) (by omega)]
  by_cases h : p < (l.length : Int)
  · obtain ⟨r0, r1⟩ := hl _ (rd_mem l p h0 h)
    rw [if_pos h, if_pos h0, if_pos (by omega), w64 (n := rd l p) (by omega) (by omega)]
    exact ⟨_, _, rfl, r0, r1⟩
  · obtain ⟨b0, b1⟩ := and255 (IntKind.u64.wrap (IntKind.u64.wrap (q * 6364136223846793005)) + 1442695040888963407)
    rw [if_neg h, if_neg (by omega), w64 (by omega) (by omega)]
    exact ⟨_, _, rfl, b0, b1⟩
theorem pick_some (l : List Int) (hl : ∀ x ∈ l, 0 ≤ x ∧ x ≤ 255) (p q n : Int) (h0 : 0 ≤ p) (h1 : p < 4611686018427387904) (hn : 1 < n) (hn' : n ≤ 200) : ∃ v q', spec_l00Src_pick.f l p q n = some (v, p + 1, q') ∧ 0 ≤ v ∧ v < n := by
  obtain ⟨v, q', h, v0, v1⟩ := next_some l hl p q h0 h1
  unfold spec_l00Src_pick.f
  rw [if_neg (by omega), h]
  simp only [Option.bind_some]
  rw [if_neg (by omega), if_neg (by omega)]
  refine ⟨_, q', rfl, ?_, ?_⟩
  · exact Int.tmod_nonneg _ v0
  · exact Int.tmod_lt_of_pos _ (by omega)
/-- A drawn beam: its numbers are small. -/
def okB (b : S54) : Prop := (-30 ≤ b.f0.f0 ∧ b.f0.f0 ≤ 30) ∧ (-30 ≤ b.f0.f1 ∧ b.f0.f1 ≤ 30) ∧ (1 ≤ b.f1 ∧ b.f1 ≤ 4) ∧ b.f1 ≤ b.f2 ∧ b.f2 ≤ 23
theorem draw_loop (l : List Int) (hl : ∀ x ∈ l, 0 ≤ x ∧ x ≤ 255) : ∀ (m k : Nat) (o : List S54) (p q : Int), m < k → m + o.length ≤ 100 → 0 ≤ p → p + 4 * m < 4611686018427387904 → (∀ b ∈ o, okB b) →
    ∃ r p' q', spec_l09DrawOk.l0 k o (m : Int) l p q = some (r, p', q') ∧ r.length = o.length + m ∧ ∀ b ∈ r, okB b := by
  intro m
  induction m with
  | zero =>
    intro k o p q hk hm h0 h1 ho
    obtain ⟨k, rfl⟩ : ∃ m, k = m + 1 := ⟨k - 1, by omega⟩
    simp only [spec_l09DrawOk.l0]
    rw [if_neg (by omega)]
    exact ⟨o, p, q, rfl, by simp, ho⟩
  | succ m ih =>
    intro k o p q hk hm h0 h1 ho
    obtain ⟨k, rfl⟩ : ∃ m, k = m + 1 := ⟨k - 1, by omega⟩
    simp only [spec_l09DrawOk.l0]
    rw [if_pos (by omega)]
    obtain ⟨a, q1, e1, a0, a1⟩ := pick_some l hl p q 61 h0 (by omega) (by omega) (by omega)
    obtain ⟨b, q2, e2, b0, b1⟩ := pick_some l hl (p + 1) q1 61 (by omega) (by omega) (by omega) (by omega)
    obtain ⟨c, q3, e3, c0, c1⟩ := pick_some l hl (p + 1 + 1) q2 4 (by omega) (by omega) (by omega) (by omega)
    obtain ⟨d, q4, e4, d0, d1⟩ := pick_some l hl (p + 1 + 1 + 1) q3 20 (by omega) (by omega) (by omega) (by omega)
    rw [e1]
    simp only [Option.bind_some]
    rw [e2]
    simp only [Option.bind_some]
    rw [e3]
    simp only [Option.bind_some]
    rw [e4]
    simp only [Option.bind_some]
    rw [if_pos (by omega), w64 (n := ((m + 1 : Nat) : Int) - 1) (by omega) (by omega), w64 (n := a - 30) (by omega) (by omega), w64 (n := b - 30) (by omega) (by omega), w64 (n := 1 + c) (by omega) (by omega), w64 (n := 1 + c + d) (by omega) (by omega), show ((m + 1 : Nat) : Int) - 1 = (m : Int) by omega]
    obtain ⟨r, p', q', h, hr, hb⟩ := ih k (o ++ [⟨⟨a - 30, b - 30⟩, 1 + c, 1 + c + d⟩]) (p + 1 + 1 + 1 + 1) q4 (by omega) (by simp; omega) (by omega) (by omega) (fun x hx => by
      rcases List.mem_append.1 hx with h | h
      · exact ho x h
      · simp at h
        subst h
        unfold okB
        simp only
        omega)
    exact ⟨r, p', q', h, by rw [hr]; simp; omega, hb⟩
theorem beams_some (l : List Int) (hl : ∀ x ∈ l, 0 ≤ x ∧ x ≤ 255) : ∃ bs : List S54, (1 ≤ bs.length ∧ bs.length ≤ 4) ∧ (∀ b ∈ bs, okB b) ∧ ∀ k, 10 < k → spec_B10Beams.f k l = some bs := by
  obtain ⟨a, q1, e1, a0, a1⟩ := pick_some l hl 0 0 4 (by omega) (by omega) (by omega) (by omega)
  obtain ⟨n, rfl⟩ := Int.eq_ofNat_of_zero_le a0
  have hall : ∀ k, 10 < k → ∃ r p' q', spec_l09DrawOk.l0 k [] ((1 + n : Nat) : Int) l (0 + 1) q1 = some (r, p', q') ∧ r.length = ([] : List S54).length + (1 + n) ∧ ∀ b ∈ r, okB b := fun k hk => draw_loop l hl (1 + n) k [] (0 + 1) q1 (by omega) (by simp; omega) (by omega) (by omega) (by simp)
  obtain ⟨r, p', q', h, hr, hb⟩ := hall 11 (by omega)
  refine ⟨r, ⟨by rw [hr]; simp, by rw [hr]; simp; omega⟩, hb, fun k hk => ?_⟩
  unfold spec_B10Beams.f spec_l00From.f spec_l09DrawOk.f
  simp only [Option.bind_some]
  rw [e1]
  simp only [Option.bind_some]
  rw [w64 (n := 1 + (n : Int)) (by omega) (by omega), show (1 : Int) + (n : Int) = ((1 + n : Nat) : Int) by omega]
  have hmono : ∀ d, spec_l09DrawOk.l0 (11 + d) [] ((1 + n : Nat) : Int) l (0 + 1) q1 = some (r, p', q') := by
    intro d
    induction d with
    | zero => exact h
    | succ d ih => exact spec_l09DrawOk.mono_l (11 + d) _ _ _ _ _ _ ih
  obtain ⟨d, rfl⟩ : ∃ d, k = 11 + d := ⟨k - 11, by omega⟩
  rw [hmono d]
  rfl
end Go.Proofs.Ytekcngoemeadlaa.PlainZ
