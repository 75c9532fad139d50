/-
  What the planner lays is a plan: its jobs come in order, none before its time, none on another.
-/
import Derived.Test.YtekcngoemeadlaaPlainDrawZ
import Derived.Test.YtekcngoemeadlaaZx4
namespace Go.Proofs.Ytekcngoemeadlaa.PlainZ
open Go.RowKit Go.Proofs.YtekcngoemeadlaaW.PrintWords Go.Proofs.YtekcngoemeadlaaW.PrintLast Go.Proofs.YtekcngoemeadlaaW.PrintMore
open Go.Proofs.Ytekcngoemeadlaa.Z

theorem w64_succ {i : Nat} {n : Nat} (h : i < n) (hn : n ≤ 9223372036854775807) : wrap64 ((i : Int) + 1) = ((i + 1 : Nat) : Int) := by unfold wrap64; omega
theorem rd81 (ss : List S81) (i : Nat) : rd_T81 ss (i : Int) = ss.getD i z81 := by simp [rd_T81]
theorem rd54 (bs : List S54) (i : Nat) : rd_T54 bs (i : Int) = bs.getD i z54 := by simp [rd_T54]
theorem rdI (l : List Int) (i : Nat) : rd l (i : Int) = l.getD i 0 := by simp [rd]
theorem okB_rd {bs : List S54} (hb : ∀ b ∈ bs, okB b) (b : Int) (h0 : 0 ≤ b) (h1 : b < bs.length) : okB (rd_T54 bs b) := by
  obtain ⟨i, rfl⟩ := Int.eq_ofNat_of_zero_le h0
  have hi : i < bs.length := by omega
  rw [rd54, List.getD_eq_getElem?_getD, List.getElem?_eq_getElem hi]
  exact hb _ (List.getElem_mem hi)
/-- The turn between two beams. -/
def tk (bs : List S54) (a b : Int) : Int := (impl_switchTicks.f (rd_T54 bs a).f0.f0 (rd_T54 bs a).f0.f1 (rd_T54 bs b).f0.f0 (rd_T54 bs b).f0.f1).getD 0
theorem far_bd (x : Int) (h0 : -60 ≤ x) (h1 : x ≤ 60) : ∃ r, impl_far.f x = some r ∧ 0 ≤ r ∧ r ≤ 60 := by
  unfold impl_far.f
  rw [w64 (n := -x) (by omega) (by omega)]
  refine ⟨_, rfl, ?_⟩
  unfold mx
  split <;> omega
theorem mx_bd {a b m : Int} (a0 : 0 ≤ a) (a1 : a ≤ m) (b0 : 0 ≤ b) (b1 : b ≤ m) : 0 ≤ mx a b ∧ mx a b ≤ m := by
  unfold mx
  split <;> omega
theorem turn_some {x y : S54} (hx : okB x) (hy : okB y) : ∃ r, impl_switchTicks.f x.f0.f0 x.f0.f1 y.f0.f0 y.f0.f1 = some r ∧ 0 ≤ r ∧ r ≤ 4 := by
  obtain ⟨⟨a0, a1⟩, ⟨b0, b1⟩, -⟩ := hx
  obtain ⟨⟨c0, c1⟩, ⟨d0, d1⟩, -⟩ := hy
  unfold impl_switchTicks.f
  rw [w64 (n := x.f0.f0 - y.f0.f0) (by omega) (by omega), w64 (n := x.f0.f1 - y.f0.f1) (by omega) (by omega)]
  obtain ⟨p, hp, p0, p1⟩ := far_bd (x.f0.f0 - y.f0.f0) (by omega) (by omega)
  obtain ⟨q, hq, q0, q1⟩ := far_bd (x.f0.f1 - y.f0.f1) (by omega) (by omega)
  rw [hp, Option.bind_some, hq, Option.bind_some]
  obtain ⟨m0, m1⟩ := mx_bd p0 p1 q0 q1
  generalize mx p q = m at *
  rw [w64 (n := m + 15) (by omega) (by omega), Int.tdiv_eq_ediv_of_nonneg (by omega), w64 (by omega) (by omega)]
  exact ⟨_, rfl, by omega, by omega⟩
theorem tk_some {bs : List S54} (hb : ∀ b ∈ bs, okB b) {a b : Int} (a0 : 0 ≤ a) (a1 : a < bs.length) (b0 : 0 ≤ b) (b1 : b < bs.length) :
    impl_switchTicks.f (rd_T54 bs a).f0.f0 (rd_T54 bs a).f0.f1 (rd_T54 bs b).f0.f0 (rd_T54 bs b).f0.f1 = some (tk bs a b) ∧ 0 ≤ tk bs a b ∧ tk bs a b ≤ 4 := by
  obtain ⟨r, hr, r0, r1⟩ := turn_some (okB_rd hb a a0 a1) (okB_rd hb b b0 b1)
  unfold tk
  rw [hr]
  exact ⟨rfl, r0, r1⟩
/-- Slots that are a plan of beams up to a tick. -/
structure PlanOk (bs : List S54) (u : Int) (ss : List S81) : Prop where
  len : ss.length ≤ 200
  beam : ∀ i : Nat, i < ss.length → 0 ≤ (ss.getD i z81).f0 ∧ (ss.getD i z81).f0 < bs.length
  at_ : ∀ i : Nat, i < ss.length → 0 ≤ (ss.getD i z81).f1 ∧ (ss.getD i z81).f1 < u
  job : ∀ i : Nat, i < ss.length → (jcnt ss i (ss.getD i z81).f0 : Nat) * (rd_T54 bs (ss.getD i z81).f0).f2 ≤ (ss.getD i z81).f1
  next : ∀ i : Nat, i + 1 < ss.length → (ss.getD i z81).f1 + (rd_T54 bs (ss.getD i z81).f0).f1 + tk bs (ss.getD i z81).f0 (ss.getD (i + 1) z81).f0 ≤ (ss.getD (i + 1) z81).f1
/-- A planner on its way. -/
structure St (bs : List S54) (u : Int) (js : List Int) (ss : List S81) (clk : Int) : Prop where
  ok : PlanOk bs u ss
  len : js.length = bs.length
  cnt : ∀ b : Nat, b < bs.length → js.getD b 0 = (jcnt ss ss.length (b : Int) : Nat)
  clk0 : ss.length = 0 → clk = 0
  clk1 : 0 < ss.length → clk = (ss.getD (ss.length - 1) z81).f1 + (rd_T54 bs (ss.getD (ss.length - 1) z81).f0).f1
theorem jcnt_le (ss : List S81) (i : Nat) (b : Int) : jcnt ss i b ≤ ss.length := by
  unfold jcnt
  exact Nat.le_trans (List.countP_le_length) (by simp; omega)
theorem prod_bd {a e : Int} (a0 : 0 ≤ a) (a1 : a ≤ 200) (e0 : 0 ≤ e) (e1 : e ≤ 23) : 0 ≤ a * e ∧ a * e ≤ 4600 := by
  refine ⟨Int.mul_nonneg a0 e0, ?_⟩
  have h1 : a * e ≤ 200 * e := Int.mul_le_mul_of_nonneg_right a1 e0
  omega
theorem first_spec (l : List S54) (js : List Int) (hp : ∀ i : Nat, i < l.length → 0 ≤ js.getD i 0 * (l.getD i z54).f2 ∧ js.getD i 0 * (l.getD i z54).f2 ≤ 4600) : ∀ n : Nat, n ≤ l.length →
    (0 ≤ firstF l js n) ∧ (firstF l js n ≤ 1000000) ∧ (0 < n → ∃ i : Nat, i < n ∧ firstF l js n = js.getD i 0 * (l.getD i z54).f2) := by
  intro n
  induction n with
  | zero => intro _; exact ⟨show (0 : Int) ≤ 1000000 by decide, show (1000000 : Int) ≤ 1000000 by decide, fun h => absurd h (by decide)⟩
  | succ n ih =>
    intro hn
    obtain ⟨h0, h1, h2⟩ := ih (by omega)
    obtain ⟨p0, p1⟩ := hp n (by omega)
    simp only [firstF]
    rw [w64 (n := js.getD n 0 * (l.getD n z54).f2) (by omega) (by omega)]
    split
    · exact ⟨p0, by omega, fun _ => ⟨n, by omega, rfl⟩⟩
    · rename_i hlt
      refine ⟨h0, h1, fun _ => ?_⟩
      rcases Nat.eq_zero_or_pos n with hz | hz
      · subst hz
        exact absurd (show js.getD 0 0 * (l.getD 0 z54).f2 < firstF l js 0 by show _ < (1000000 : Int); omega) hlt
      · obtain ⟨i, hi, he⟩ := h2 hz
        exact ⟨i, by omega, he⟩
theorem best_spec (l : List S54) (js : List Int) (ck : Int) (hp : ∀ i : Nat, i < l.length → 0 ≤ js.getD i 0 * (l.getD i z54).f2 ∧ js.getD i 0 * (l.getD i z54).f2 ≤ 4600) : ∀ n : Nat, n ≤ l.length →
    (bestF l js ck n = -1 ∧ ∀ i : Nat, i < n → ¬ js.getD i 0 * (l.getD i z54).f2 ≤ ck) ∨ ∃ i : Nat, i < n ∧ bestF l js ck n = (i : Int) ∧ js.getD i 0 * (l.getD i z54).f2 ≤ ck := by
  intro n
  induction n with
  | zero => intro _; exact .inl ⟨rfl, fun i h => absurd h (by omega)⟩
  | succ n ih =>
    intro hn
    obtain ⟨p0, p1⟩ := hp n (by omega)
    simp only [bestF]
    rw [w64 (n := js.getD n 0 * (l.getD n z54).f2) (by omega) (by omega)]
    rcases ih (by omega) with ⟨h1, h2⟩ | ⟨i, h1, h2, h3⟩
    · by_cases hc : js.getD n 0 * (l.getD n z54).f2 ≤ ck
      · rw [if_pos ⟨hc, .inl (by rw [h1]; decide)⟩]
        exact .inr ⟨n, by omega, rfl, hc⟩
      · rw [if_neg (fun h => hc h.1)]
        refine .inl ⟨h1, fun i hi => ?_⟩
        rcases Nat.lt_or_ge i n with h | h
        · exact h2 i h
        · obtain rfl : i = n := by omega
          exact hc
    · split
      · rename_i h; exact .inr ⟨n, by omega, rfl, h.1⟩
      · exact .inr ⟨i, by omega, h2, h3⟩
theorem getD_app_l (ss : List S81) (x : S81) (i : Nat) (h : i < ss.length) : (ss ++ [x]).getD i z81 = ss.getD i z81 := by
  simp [List.getD_eq_getElem?_getD, List.getElem?_append_left h]
theorem getD_app_r (ss : List S81) (x : S81) : (ss ++ [x]).getD ss.length z81 = x := by
  simp [List.getD_eq_getElem?_getD]
theorem jcnt_app (ss : List S81) (x : S81) (i : Nat) (h : i ≤ ss.length) (b : Int) : jcnt (ss ++ [x]) i b = jcnt ss i b := by
  unfold jcnt
  rw [List.take_append_of_le_length h]
theorem jcnt_app_all (ss : List S81) (x : S81) (b : Int) : jcnt (ss ++ [x]) (ss.length + 1) b = jcnt ss ss.length b + if x.f0 = b then 1 else 0 := by
  unfold jcnt
  rw [List.take_of_length_le (by simp), List.take_of_length_le (Nat.le_refl _), List.countP_append, List.countP_singleton]
  simp
theorem st_step {bs : List S54} (hb : ∀ b ∈ bs, okB b) {u : Int} {js : List Int} {ss : List S81} {clk : Int} (h : St bs u js ss clk) (hl : ss.length < 200) (i : Nat) (hi : i < bs.length) (b : Int) (hb0 : 0 ≤ b) (hbu : b < u)
    (hj : js.getD i 0 * (bs.getD i z54).f2 ≤ b) (ht : 0 < ss.length → clk + tk bs (ss.getD (ss.length - 1) z81).f0 (i : Int) ≤ b) (hu : u ≤ 100) :
    St bs u (js.set i (wrap64 (js.getD i 0 + 1))) (ss ++ [⟨(i : Int), b⟩]) (wrap64 (b + (bs.getD i z54).f1)) := by
  have hcl := jcnt_le ss ss.length (i : Int)
  have hcnt := h.cnt i hi
  obtain ⟨-, -, ⟨d0, d1⟩, -, -⟩ := okB_rd hb (i : Int) (by omega) (by omega)
  rw [rd54] at d0 d1
  have hll : (ss ++ [(⟨(i : Int), b⟩ : S81)]).length = ss.length + 1 := by simp
  refine ⟨⟨by rw [hll]; omega, ?_, ?_, ?_, ?_⟩, by rw [List.length_set]; exact h.len, ?_, fun h0 => by rw [hll] at h0; omega, fun _ => ?_⟩
  · intro j hjl
    rw [hll] at hjl
    rcases Nat.lt_or_ge j ss.length with hj1 | hj1
    · rw [getD_app_l _ _ _ hj1]; exact h.ok.beam j hj1
    · obtain rfl : j = ss.length := by omega
      rw [getD_app_r]
      exact ⟨by simp, by simp; omega⟩
  · intro j hjl
    rw [hll] at hjl
    rcases Nat.lt_or_ge j ss.length with hj1 | hj1
    · rw [getD_app_l _ _ _ hj1]; exact h.ok.at_ j hj1
    · obtain rfl : j = ss.length := by omega
      rw [getD_app_r]
      exact ⟨hb0, hbu⟩
  · intro j hjl
    rw [hll] at hjl
    rcases Nat.lt_or_ge j ss.length with hj1 | hj1
    · rw [getD_app_l _ _ _ hj1, jcnt_app _ _ _ (by omega)]; exact h.ok.job j hj1
    · obtain rfl : j = ss.length := by omega
      rw [getD_app_r, jcnt_app _ _ _ (Nat.le_refl _)]
      simp only [rd54]
      rw [← hcnt]; exact hj
  · intro j hjl
    rw [hll] at hjl
    rcases Nat.lt_or_ge (j + 1) ss.length with hj1 | hj1
    · rw [getD_app_l _ _ _ hj1, getD_app_l _ _ _ (by omega)]; exact h.ok.next j hj1
    · have hlen : ss.length = j + 1 := by omega
      have e : (ss ++ [(⟨(i : Int), b⟩ : S81)]).getD (j + 1) z81 = ⟨(i : Int), b⟩ := by rw [← hlen]; exact getD_app_r _ _
      have h1 := ht (by omega)
      have h2 := h.clk1 (by omega)
      rw [show ss.length - 1 = j by omega] at h1 h2
      rw [getD_app_l _ _ _ (by omega), e]
      simp only
      omega
  · intro k hk
    have hil : i < js.length := by rw [h.len]; exact hi
    have e : (js.set i (wrap64 (js.getD i 0 + 1))).getD k 0 = if i = k then wrap64 (js.getD i 0 + 1) else js.getD k 0 := by
      simp only [List.getD_eq_getElem?_getD, List.getElem?_set]
      split
      · simp [hil]
      · rfl
    rw [e, hll, jcnt_app_all]
    by_cases hik : i = k
    · subst hik
      rw [if_pos rfl, hcnt, w64 (by omega) (by omega), if_pos (by simp)]
      omega
    · rw [if_neg hik, h.cnt k hk, if_neg (by simp; omega)]
      omega
  · rw [hll, Nat.add_sub_cancel, getD_app_r]
    simp only [rd54]
    exact w64 (by omega) (by omega)
theorem plan_loop {bs : List S54} (hb : ∀ b ∈ bs, okB b) (h1 : 1 ≤ bs.length) {u : Int} (hu : u ≤ 100) : ∀ (d k : Nat) (js : List Int) (ss : List S81) (clk : Int), ss.length + d = 200 → d < k → St bs u js ss clk →
    ∃ r, planG bs u k js ss clk = some r ∧ PlanOk bs u r := by
  intro d
  induction d with
  | zero =>
    intro k js ss clk hd hk h
    obtain ⟨k, rfl⟩ : ∃ m, k = m + 1 := ⟨k - 1, by omega⟩
    rw [planG_succ, if_neg (by omega)]
    exact ⟨ss, rfl, h.ok⟩
  | succ d ih =>
    intro k js ss clk hd hk h
    obtain ⟨k, rfl⟩ : ∃ m, k = m + 1 := ⟨k - 1, by omega⟩
    have hp : ∀ i : Nat, i < bs.length → 0 ≤ js.getD i 0 * (bs.getD i z54).f2 ∧ js.getD i 0 * (bs.getD i z54).f2 ≤ 4600 := fun i hi => by
      have hc := h.cnt i hi
      have hj := jcnt_le ss ss.length (i : Int)
      obtain ⟨-, -, ⟨d0, d1⟩, d2, d3⟩ := okB_rd hb (i : Int) (by omega) (by omega)
      rw [rd54] at d0 d1 d2 d3
      exact prod_bd (by omega) (by omega) (by omega) d3
    obtain ⟨f0, f1, f2⟩ := first_spec bs js hp bs.length (Nat.le_refl _)
    obtain ⟨fi, hfi, hfe⟩ := f2 (by omega)
    have hclk : 0 ≤ clk ∧ clk ≤ 104 := by
      rcases Nat.eq_zero_or_pos ss.length with hz | hz
      · have := h.clk0 hz; omega
      · have e := h.clk1 hz
        obtain ⟨a0, a1⟩ := h.ok.at_ (ss.length - 1) (by omega)
        obtain ⟨c0, c1⟩ := h.ok.beam (ss.length - 1) (by omega)
        obtain ⟨-, -, ⟨d0, d1⟩, -, -⟩ := okB_rd hb _ c0 c1
        omega
    have hck : clkF bs js clk = max clk (firstF bs js bs.length) := by
      unfold clkF
      split <;> omega
    have hckb : 0 ≤ clkF bs js clk ∧ clkF bs js clk ≤ 4600 ∧ clk ≤ clkF bs js clk ∧ firstF bs js bs.length ≤ clkF bs js clk := by
      have := (hp fi hfi).2
      omega
    obtain ⟨i, hi, hbe, hbj⟩ : ∃ i : Nat, i < bs.length ∧ bestF bs js (clkF bs js clk) bs.length = (i : Int) ∧ js.getD i 0 * (bs.getD i z54).f2 ≤ clkF bs js clk := by
      rcases best_spec bs js (clkF bs js clk) hp bs.length (Nat.le_refl _) with ⟨-, hn⟩ | ⟨i, hi, he, hj⟩
      · exact absurd (by omega) (hn fi hfi)
      · exact ⟨i, hi, he, hj⟩
    rw [planG_succ, if_pos (by omega), if_pos (by omega), hbe]
    simp only [Int.toNat_natCast]
    clear hck
    generalize clkF bs js clk = ck at *
    rcases Nat.eq_zero_or_pos ss.length with hz | hz
    · have ht : turnF bs ss i = some 0 := by unfold turnF; rw [if_neg (by omega)]
      rw [ht, Option.bind_some]
      simp only [show ¬ (0 < ss.length) by omega, if_false]
      by_cases hc : ck ≥ u
      · rw [if_pos hc]; exact ⟨ss, rfl, h.ok⟩
      · rw [if_neg hc]
        exact ih k _ _ _ (by simp; omega) (by omega) (st_step hb h (by omega) i hi ck (by omega) (by omega) hbj (fun hx => by omega) hu)
    · obtain ⟨c0, c1⟩ := h.ok.beam (ss.length - 1) (by omega)
      obtain ⟨t1, t2, t3⟩ := tk_some hb c0 c1 (show 0 ≤ (i : Int) by omega) (show (i : Int) < bs.length by omega)
      have ht : turnF bs ss i = some (tk bs (ss.getD (ss.length - 1) z81).f0 (i : Int)) := by
        unfold turnF
        rw [if_pos hz, if_pos c0, if_pos c1, ← t1, rd54]
        rfl
      rw [ht, Option.bind_some]
      simp only [if_pos hz]
      rw [w64 (n := ck + tk bs (ss.getD (ss.length - 1) z81).f0 (i : Int)) (by omega) (by omega)]
      by_cases hc : ck + tk bs (ss.getD (ss.length - 1) z81).f0 (i : Int) ≥ u
      · rw [if_pos hc]; exact ⟨ss, rfl, h.ok⟩
      · rw [if_neg hc]
        exact ih k _ _ _ (by simp; omega) (by omega) (st_step hb h (by omega) i hi _ (by omega) (by omega) (by omega) (fun _ => by omega) hu)
theorem plan_some {bs : List S54} (hb : ∀ b ∈ bs, okB b) (h1 : 1 ≤ bs.length) {u : Int} (hu : u ≤ 100) (k : Nat) (hk : 200 < k) : ∃ r, planG bs u k (List.replicate bs.length 0) [] 0 = some r ∧ PlanOk bs u r := by
  refine plan_loop hb h1 hu 200 k _ _ _ (by simp) hk ⟨⟨by simp, fun i hi => by simp at hi, fun i hi => by simp at hi, fun i hi => by simp at hi, fun i hi => by simp at hi⟩, by simp, fun b hbl => ?_, fun _ => rfl, fun h => by simp at h⟩
  simp [List.getD_eq_getElem?_getD, hbl, jcnt]
end Go.Proofs.Ytekcngoemeadlaa.PlainZ
