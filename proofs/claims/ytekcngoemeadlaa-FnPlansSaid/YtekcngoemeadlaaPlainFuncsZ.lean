/-
  The functions on plans, each told as a value: a plan is told to be one, its lateness, its missed jobs, its ticks, the load of beams.
-/
import Derived.Test.YtekcngoemeadlaaPlainPlanZ
import Derived.Test.YtekcngoemeadlaaZx3
import Derived.Test.YtekcngoemeadlaaZx5
import Derived.Test.YtekcngoemeadlaaZx4
import Derived.Test.YtekcngoemeadlaaZx1
namespace Go.Proofs.Ytekcngoemeadlaa.PlainZ
open Go.RowKit Go.Proofs.YtekcngoemeadlaaW.PrintWords Go.Proofs.YtekcngoemeadlaaW.PrintLast Go.Proofs.YtekcngoemeadlaaW.PrintMore
open Go.Proofs.Ytekcngoemeadlaa.Z

theorem within_true {a b c : Int} (h0 : b ≤ a) (h1 : a ≤ c) : impl_within.f a b c = some true := by
  unfold impl_within.f
  rw [if_pos h0, decide_eq_true h1]
theorem sq_small {u : Int} (h0 : -30 ≤ u) (h1 : u ≤ 30) : 0 ≤ u * u ∧ u * u ≤ 900 := by
  constructor
  · rcases Int.le_total 0 u with h | h
    · exact Int.mul_nonneg h h
    · have := Int.mul_nonneg (show 0 ≤ -u by omega) (show 0 ≤ -u by omega)
      rwa [Int.neg_mul_neg] at this
  · have h := Int.mul_nonneg (show 0 ≤ 30 - u by omega) (show 0 ≤ 30 + u by omega)
    rw [Int.sub_mul, Int.mul_add, Int.mul_add, Int.mul_comm u 30] at h
    omega
theorem vdir_true {a b : Int} (a0 : -30 ≤ a) (a1 : a ≤ 30) (b0 : -30 ≤ b) (b1 : b ≤ 30) : impl_ValidDirection.f a b = some true := by
  unfold impl_ValidDirection.f
  obtain ⟨s0, s1⟩ := sq_small a0 a1
  obtain ⟨t0, t1⟩ := sq_small b0 b1
  rw [within_true (by omega) (by omega), Option.bind_some, if_pos rfl, within_true (by omega) (by omega), Option.bind_some, if_pos rfl, w64 (n := a * a) (by omega) (by omega), w64 (n := b * b) (by omega) (by omega), w64 (by omega) (by omega), decide_eq_true (by omega)]
theorem areBeams_loop {bs : List S54} (hb : ∀ b ∈ bs, okB b) (h1 : 1 ≤ bs.length) (h4 : bs.length ≤ 4) : ∀ (d k i : Nat), i + d = bs.length → d < k → impl_AreBeams.l0 k bs bs (bs.length : Int) (i : Int) = some true := by
  intro d
  induction d with
  | zero =>
    intro k i hi hk
    obtain ⟨k, rfl⟩ : ∃ m, k = m + 1 := ⟨k - 1, by omega⟩
    rw [impl_AreBeams.l0, if_neg (by omega), within_true (by omega) (by omega)]
    rfl
  | succ d ih =>
    intro k i hi hk
    obtain ⟨k, rfl⟩ : ∃ m, k = m + 1 := ⟨k - 1, by omega⟩
    obtain ⟨⟨a0, a1⟩, ⟨b0, b1⟩, ⟨c0, c1⟩, d0, d1⟩ := okB_rd hb (i : Int) (by omega) (by omega)
    rw [impl_AreBeams.l0, if_pos (by omega), if_pos (by omega), if_pos (by omega), vdir_true a0 a1 b0 b1, Option.bind_some, if_pos rfl, within_true c0 (by omega), Option.bind_some, if_pos rfl, within_true d0 (by omega), Option.bind_some, if_pos rfl, w64_succ (show i < bs.length by omega) (by omega)]
    exact ih k (i + 1) (by omega) (by omega)
theorem areBeams_true {bs : List S54} (hb : ∀ b ∈ bs, okB b) (h1 : 1 ≤ bs.length) (h4 : bs.length ≤ 4) (k : Nat) (hk : 4 < k) : impl_AreBeams.f k bs = some true :=
  areBeams_loop hb h1 h4 bs.length k 0 (by omega) (by omega)
theorem jobs_at (ss : List S81) (i : Nat) (h : i < ss.length) : rd (jobsL ss) (i : Int) = (jcnt ss i (ss.getD i z81).f0 : Nat) := by
  rw [rdI]
  unfold jobsL jnum
  simp [List.getD_eq_getElem?_getD, h]
theorem jobs_len (ss : List S81) : (jobsL ss).length = ss.length := by simp [jobsL]
theorem jobs_some {bs : List S54} (h4 : bs.length ≤ 4) {u : Int} {ss : List S81} (h : PlanOk bs u ss) : impl_jobsOf.f ss = some (jobsL ss) := by
  have hf : jfits ss = true := List.all_eq_true.2 fun x hx => by
    obtain ⟨i, hi, rfl⟩ := List.getElem_of_mem hx
    have := h.beam i hi
    rw [List.getD_eq_getElem?_getD, List.getElem?_eq_getElem hi, Option.getD_some] at this
    simp only [Bool.and_eq_true, decide_eq_true_eq]
    omega
  unfold impl_jobsOf.f
  rw [if_pos hf, if_pos (by have := h.len; omega)]
theorem prev_at (ss : List S81) (i : Nat) (h : 0 < i) : rd_T81 ss (wrap64 ((i : Int) - 1)) = ss.getD (i - 1) z81 ∨ 200 < i := by
  by_cases hi : i ≤ 200
  · left
    rw [w64 (by omega) (by omega), show (i : Int) - 1 = ((i - 1 : Nat) : Int) by omega, rd81]
  · right; omega
theorem isPlan_loop {bs : List S54} (hb : ∀ b ∈ bs, okB b) (h4 : bs.length ≤ 4) {u : Int} (hu : u ≤ 100) {ss : List S81} (h : PlanOk bs u ss) : ∀ (d k i : Nat), i + d = ss.length → 2 * d < k →
    impl_IsPlan.l0 k bs ss (jobsL ss) ss (ss.length : Int) (i : Int) = some true := by
  intro d
  induction d with
  | zero =>
    intro k i hi hk
    obtain ⟨k, rfl⟩ : ∃ m, k = m + 1 := ⟨k - 1, by omega⟩
    rw [impl_IsPlan.l0, if_neg (by omega)]
  | succ d ih =>
    intro k i hi hk
    obtain ⟨k, rfl⟩ : ∃ m, k = m + 1 + 1 := ⟨k - 2, by omega⟩
    have hlt : i < ss.length := by omega
    have hl := h.len
    obtain ⟨b0, b1⟩ := h.beam i hlt
    obtain ⟨a0, a1⟩ := h.at_ i hlt
    have hj := h.job i hlt
    have hc := jcnt_le ss i (ss.getD i z81).f0
    obtain ⟨-, -, ⟨d0, d1⟩, d2, d3⟩ := okB_rd hb _ b0 b1
    obtain ⟨p0, p1⟩ := prod_bd (a := (jcnt ss i (ss.getD i z81).f0 : Nat)) (e := (rd_T54 bs (ss.getD i z81).f0).f2) (by omega) (by omega) (by omega) d3
    rw [impl_IsPlan.l0, if_pos (by omega), if_pos (by omega), if_pos (by omega), rd81, w64 (n := (bs.length : Int) - 1) (by omega) (by omega), within_true b0 (by omega), Option.bind_some, if_pos rfl, within_true a0 (by omega), Option.bind_some, if_pos rfl, if_pos (by rw [jobs_len]; omega), if_pos b0, if_pos b1, jobs_at ss i hlt, w64 (n := (jcnt ss i (ss.getD i z81).f0 : Nat) * (rd_T54 bs (ss.getD i z81).f0).f2) (by omega) (by omega), decide_eq_false (by omega), impl_IsPlan.j2, if_neg (by decide)]
    rcases Nat.eq_zero_or_pos i with hz | hz
    · rw [if_neg (by omega), w64_succ hlt (by omega)]
      exact ih k (i + 1) (by omega) (by omega)
    · obtain ⟨c0, c1⟩ := h.beam (i - 1) (by omega)
      obtain ⟨e0, e1⟩ := h.at_ (i - 1) (by omega)
      have hn := h.next (i - 1) (by omega)
      rw [show i - 1 + 1 = i by omega] at hn
      obtain ⟨t1, t2, t3⟩ := tk_some hb c0 c1 b0 b1
      obtain ⟨-, -, ⟨f0, f1⟩, f2, f3⟩ := okB_rd hb _ c0 c1
      rw [if_pos (by omega), w64 (n := (i : Int) - 1) (by omega) (by omega), show (i : Int) - 1 = ((i - 1 : Nat) : Int) by omega, rd81, if_pos (by omega), if_pos (by omega), if_pos c0, if_pos c1, if_pos b0, if_pos b1, t1, Option.bind_some,
        w64 (n := (ss.getD (i - 1) z81).f1 + (rd_T54 bs (ss.getD (i - 1) z81).f0).f1) (by omega) (by omega), w64 (n := (ss.getD (i - 1) z81).f1 + (rd_T54 bs (ss.getD (i - 1) z81).f0).f1 + tk bs (ss.getD (i - 1) z81).f0 (ss.getD i z81).f0) (by omega) (by omega), if_neg (by omega), w64_succ hlt (by omega)]
      exact ih k (i + 1) (by omega) (by omega)
theorem isPlan_true {bs : List S54} (hb : ∀ b ∈ bs, okB b) (h1 : 1 ≤ bs.length) (h4 : bs.length ≤ 4) {u : Int} (hu : u ≤ 100) {ss : List S81} (h : PlanOk bs u ss) (k : Nat) (hk : 1000 < k) : impl_IsPlan.f k bs ss = some true := by
  have hl := h.len
  unfold impl_IsPlan.f
  obtain ⟨k, rfl⟩ : ∃ m, k = m + 1 := ⟨k - 1, by omega⟩
  rw [areBeams_true hb h1 h4 _ (by omega), Option.bind_some, if_pos rfl, decide_eq_false (by omega), impl_IsPlan.j0, if_neg (by decide), jobs_some h4 h, Option.bind_some]
  exact isPlan_loop hb h4 hu h ss.length k 0 (by omega) (by omega)
/-! Ticks, summed as the program sums them. -/
def dS (bs : List S54) (ss : List S81) : Nat → Int
  | 0 => 0
  | i + 1 => wrap64 (dS bs ss i + (rd_T54 bs (ss.getD i z81).f0).f1)
def tS (bs : List S54) (ss : List S81) : Nat → Int
  | 0 => 0
  | i + 1 => if 0 < i then wrap64 (tS bs ss i + tk bs (ss.getD (i - 1) z81).f0 (ss.getD i z81).f0) else tS bs ss i
theorem busy_loop {bs : List S54} (hb : ∀ b ∈ bs, okB b) {u : Int} {ss : List S81} (h : PlanOk bs u ss) : ∀ (d k i : Nat), i + d = ss.length → d < k →
    impl_BusyTicks.l0 k bs ss (dS bs ss i) (tS bs ss i) ss (ss.length : Int) (i : Int) = some (dS bs ss ss.length, tS bs ss ss.length, true) := by
  intro d
  induction d with
  | zero =>
    intro k i hi hk
    obtain ⟨k, rfl⟩ : ∃ m, k = m + 1 := ⟨k - 1, by omega⟩
    obtain rfl : i = ss.length := by omega
    rw [impl_BusyTicks.l0, if_neg (by omega)]
  | succ d ih =>
    intro k i hi hk
    obtain ⟨k, rfl⟩ : ∃ m, k = m + 1 := ⟨k - 1, by omega⟩
    have hlt : i < ss.length := by omega
    have hl := h.len
    obtain ⟨b0, b1⟩ := h.beam i hlt
    have hd : dS bs ss (i + 1) = wrap64 (dS bs ss i + (rd_T54 bs (ss.getD i z81).f0).f1) := rfl
    rw [impl_BusyTicks.l0, if_pos (by omega), if_pos (by omega), if_pos (by omega), rd81, if_pos b0, if_pos b1, ← hd]
    rcases Nat.eq_zero_or_pos i with hz | hz
    · have ht : tS bs ss (i + 1) = tS bs ss i := by simp only [tS]; rw [if_neg (by omega)]
      rw [if_neg (by omega), w64_succ hlt (by omega), ← ht]
      exact ih k (i + 1) (by omega) (by omega)
    · obtain ⟨c0, c1⟩ := h.beam (i - 1) (by omega)
      obtain ⟨t1, t2, t3⟩ := tk_some hb c0 c1 b0 b1
      have ht : tS bs ss (i + 1) = wrap64 (tS bs ss i + tk bs (ss.getD (i - 1) z81).f0 (ss.getD i z81).f0) := by simp only [tS]; rw [if_pos hz]
      rw [if_pos (by omega), w64 (n := (i : Int) - 1) (by omega) (by omega), show (i : Int) - 1 = ((i - 1 : Nat) : Int) by omega, rd81, if_pos (by omega), if_pos (by omega), if_pos c0, if_pos c1, t1, Option.bind_some, w64_succ hlt (by omega), ← ht]
      exact ih k (i + 1) (by omega) (by omega)
theorem busy_val {bs : List S54} (hb : ∀ b ∈ bs, okB b) (h1 : 1 ≤ bs.length) (h4 : bs.length ≤ 4) {u : Int} (hu : u ≤ 100) {ss : List S81} (h : PlanOk bs u ss) (k : Nat) (hk : 1000 < k) : impl_BusyTicks.f k bs ss = some (dS bs ss ss.length, tS bs ss ss.length, true) := by
  have hl := h.len
  unfold impl_BusyTicks.f
  rw [isPlan_true hb h1 h4 hu h k hk, Option.bind_some, if_pos rfl]
  exact busy_loop hb h ss.length k 0 (by omega) (by omega)
/-- How late the job of slot i is, as the program reckons it. -/
def lateF (bs : List S54) (ss : List S81) (i : Nat) : Int :=
  mx 0 (wrap64 (wrap64 ((ss.getD i z81).f1 + (rd_T54 bs (ss.getD i z81).f0).f1) - wrap64 (wrap64 ((jcnt ss i (ss.getD i z81).f0 : Nat) + 1) * (rd_T54 bs (ss.getD i z81).f0).f2)))
theorem late_loop {bs : List S54} {u : Int} {ss : List S81} (h : PlanOk bs u ss) : ∀ (d k i : Nat), i + d = ss.length → d < k →
    impl_LatenessOf.l0 k bs ((List.range i).map (lateF bs ss)) (jobsL ss) ss (ss.length : Int) (i : Int) = some ((List.range ss.length).map (lateF bs ss), true) := by
  intro d
  induction d with
  | zero =>
    intro k i hi hk
    obtain ⟨k, rfl⟩ : ∃ m, k = m + 1 := ⟨k - 1, by omega⟩
    obtain rfl : i = ss.length := by omega
    rw [impl_LatenessOf.l0, if_neg (by omega)]
  | succ d ih =>
    intro k i hi hk
    obtain ⟨k, rfl⟩ : ∃ m, k = m + 1 := ⟨k - 1, by omega⟩
    have hlt : i < ss.length := by omega
    have hl := h.len
    obtain ⟨b0, b1⟩ := h.beam i hlt
    have e : (List.range i).map (lateF bs ss) ++ [lateF bs ss i] = (List.range (i + 1)).map (lateF bs ss) := by rw [List.range_succ, List.map_append]; rfl
    have hll : ((List.range i).map (lateF bs ss)).length < 17592186044416 := by rw [List.length_map, List.length_range]; omega
    rw [impl_LatenessOf.l0, if_pos (by omega), if_pos (by omega), if_pos (by omega), rd81, if_pos b0, if_pos b1, if_pos (by rw [jobs_len]; omega), if_pos hll, jobs_at ss i hlt, w64_succ hlt (by omega)]
    have := ih k (i + 1) (by omega) (by omega)
    rw [← e] at this
    exact this
theorem late_val {bs : List S54} (hb : ∀ b ∈ bs, okB b) (h1 : 1 ≤ bs.length) (h4 : bs.length ≤ 4) {u : Int} (hu : u ≤ 100) {ss : List S81} (h : PlanOk bs u ss) (k : Nat) (hk : 1000 < k) : impl_LatenessOf.f k bs ss = some ((List.range ss.length).map (lateF bs ss), true) := by
  have hl := h.len
  unfold impl_LatenessOf.f
  rw [isPlan_true hb h1 h4 hu h k hk, Option.bind_some, if_pos rfl, jobs_some h4 h, Option.bind_some]
  exact late_loop h ss.length k 0 (by omega) (by omega)
/-- How many jobs of a beam among the first slots have ended by a tick. -/
def dn (bs : List S54) (ss : List S81) (u : Int) : Nat → Int → Nat
  | 0, _ => 0
  | i + 1, b => dn bs ss u i b + if (ss.getD i z81).f0 = b ∧ (ss.getD i z81).f1 + (rd_T54 bs (ss.getD i z81).f0).f1 ≤ u then 1 else 0
theorem jcnt_succ' (ss : List S81) (i : Nat) (h : i < ss.length) (b : Int) : jcnt ss (i + 1) b = jcnt ss i b + if (ss.getD i z81).f0 = b then 1 else 0 := by
  rw [jcnt_succ ss i h b, List.getD_eq_getElem?_getD, List.getElem?_eq_getElem h]
  rfl
/-- A job that has not ended by the tick has none behind it that has. -/
theorem ends_up {bs : List S54} (hb : ∀ b ∈ bs, okB b) {u : Int} {ss : List S81} (h : PlanOk bs u ss) (i : Nat) : ∀ j : Nat, i < j → j < ss.length → (ss.getD i z81).f1 + (rd_T54 bs (ss.getD i z81).f0).f1 ≤ (ss.getD j z81).f1 + (rd_T54 bs (ss.getD j z81).f0).f1 := by
  intro j
  induction j with
  | zero => intro h; omega
  | succ j ih =>
    intro hij hj
    obtain ⟨b0, b1⟩ := h.beam j (by omega)
    obtain ⟨c0, c1⟩ := h.beam (j + 1) hj
    obtain ⟨-, t2, -⟩ := tk_some hb b0 b1 c0 c1
    obtain ⟨-, -, ⟨d0, -⟩, -, -⟩ := okB_rd hb _ c0 c1
    have hn := h.next j hj
    rcases Nat.lt_or_ge i j with h' | h'
    · have := ih h' (by omega); omega
    · obtain rfl : i = j := by omega
      omega
theorem dn_spec (bs : List S54) (u : Int) (ss : List S81) (b : Int) : ∀ i : Nat, i ≤ ss.length →
    (dn bs ss u i b = jcnt ss i b) ∨ ∃ j : Nat, j < i ∧ ¬ ((ss.getD j z81).f1 + (rd_T54 bs (ss.getD j z81).f0).f1 ≤ u) := by
  intro i
  induction i with
  | zero => intro _; left; simp [dn, jcnt]
  | succ i ih =>
    intro hi
    by_cases he : (ss.getD i z81).f1 + (rd_T54 bs (ss.getD i z81).f0).f1 ≤ u
    · rcases ih (by omega) with h1 | ⟨j, hj, hne⟩
      · left
        rw [jcnt_succ' ss i (by omega), dn, h1]
        by_cases hbe : (ss.getD i z81).f0 = b
        · rw [if_pos ⟨hbe, he⟩, if_pos hbe]
        · rw [if_neg (fun hx => hbe hx.1), if_neg hbe]
      · exact .inr ⟨j, by omega, hne⟩
    · exact .inr ⟨i, by omega, he⟩
/-- A slot whose job ends in time: all jobs of its beam before it have ended. -/
theorem dn_at {bs : List S54} (hb : ∀ b ∈ bs, okB b) {u : Int} {ss : List S81} (h : PlanOk bs u ss) (i : Nat) (hi : i < ss.length) (he : (ss.getD i z81).f1 + (rd_T54 bs (ss.getD i z81).f0).f1 ≤ u) (b : Int) : dn bs ss u i b = jcnt ss i b := by
  rcases dn_spec bs u ss b i (by omega) with h1 | ⟨j, hj, hne⟩
  · exact h1
  · have := ends_up hb h j i hj hi; omega
/-- How many jobs of beam b come due up to a tick. -/
def dueN (bs : List S54) (u : Int) (b : Nat) : Int := wrap64 (Int.tdiv u (bs.getD b z54).f2)
theorem dueN_spec {bs : List S54} (hb : ∀ b ∈ bs, okB b) {u : Int} (u0 : 0 ≤ u) (hu : u ≤ 100) (b : Nat) (h : b < bs.length) : 0 ≤ dueN bs u b ∧ dueN bs u b ≤ 100 ∧ ∀ c : Int, c * (bs.getD b z54).f2 ≤ u ↔ c ≤ dueN bs u b := by
  obtain ⟨-, -, ⟨d0, d1⟩, d2, d3⟩ := okB_rd hb (b : Int) (by omega) (by omega)
  rw [rd54] at d0 d1 d2 d3
  unfold dueN
  rw [Int.tdiv_eq_ediv_of_nonneg u0]
  have h0 : 0 ≤ u / (bs.getD b z54).f2 := Int.ediv_nonneg u0 (by omega)
  have h1 : u / (bs.getD b z54).f2 ≤ u := Int.ediv_le_self _ u0
  rw [w64 (by omega) (by omega)]
  exact ⟨h0, by omega, fun c => (Int.le_ediv_iff_mul_le (by omega)).symm⟩
theorem missed0_loop {bs : List S54} (hb : ∀ b ∈ bs, okB b) (h4 : bs.length ≤ 4) (u : Int) (ss : List S81) (r : Option (List Int × Bool)) (hr : ∀ k, 500 < k → impl_MissedOf.l0 k bs ss u ((List.range bs.length).map (dueN bs u)) bs (bs.length : Int) (bs.length : Int) = r) : ∀ (d k i : Nat), i + d = bs.length → d + 500 < k →
    impl_MissedOf.l0 k bs ss u ((List.range i).map (dueN bs u)) bs (bs.length : Int) (i : Int) = r := by
  intro d
  induction d with
  | zero =>
    intro k i hi hk
    obtain rfl : i = bs.length := by omega
    exact hr k (by omega)
  | succ d ih =>
    intro k i hi hk
    obtain ⟨k, rfl⟩ : ∃ m, k = m + 1 := ⟨k - 1, by omega⟩
    obtain ⟨-, -, ⟨d0, d1⟩, d2, d3⟩ := okB_rd hb (i : Int) (by omega) (by omega)
    rw [rd54] at d0 d1 d2 d3
    have e : (List.range i).map (dueN bs u) ++ [dueN bs u i] = (List.range (i + 1)).map (dueN bs u) := by rw [List.range_succ, List.map_append]; rfl
    have hll : ((List.range i).map (dueN bs u)).length < 17592186044416 := by rw [List.length_map, List.length_range]; omega
    rw [impl_MissedOf.l0, if_pos (by omega), if_pos (by omega), if_pos (by omega), rd54, if_neg (by omega), if_pos hll, w64_succ (show i < bs.length by omega) (by omega)]
    have := ih k (i + 1) (by omega) (by omega)
    rw [← e] at this
    exact this
theorem missed1_loop {bs : List S54} (hb : ∀ b ∈ bs, okB b) {u : Int} (u0 : 0 ≤ u) (hu : u ≤ 100) {ss : List S81} (h : PlanOk bs u ss) : ∀ (d k i : Nat) (x : List Int), i + d = ss.length → d < k → x.length = bs.length →
    (∀ b : Nat, b < bs.length → x.getD b 0 = dueN bs u b - min (dn bs ss u i (b : Int) : Int) (dueN bs u b)) →
    ∃ y, impl_MissedOf.l1 k bs ss u x (jobsL ss) (ss.length : Int) (i : Int) = some (y, true) ∧ y.length = bs.length ∧ ∀ b : Nat, b < bs.length → y.getD b 0 = dueN bs u b - min (dn bs ss u ss.length (b : Int) : Int) (dueN bs u b) := by
  intro d
  induction d with
  | zero =>
    intro k i x hi hk hx hv
    obtain ⟨k, rfl⟩ : ∃ m, k = m + 1 := ⟨k - 1, by omega⟩
    obtain rfl : i = ss.length := by omega
    rw [impl_MissedOf.l1, if_neg (by omega)]
    exact ⟨x, rfl, hx, hv⟩
  | succ d ih =>
    intro k i x hi hk hx hv
    obtain ⟨k, rfl⟩ : ∃ m, k = m + 1 := ⟨k - 1, by omega⟩
    have hlt : i < ss.length := by omega
    have hl := h.len
    obtain ⟨b0, b1⟩ := h.beam i hlt
    obtain ⟨a0, a1⟩ := h.at_ i hlt
    obtain ⟨b, hbe⟩ := Int.eq_ofNat_of_zero_le b0
    have hbl : b < bs.length := by omega
    have hc := jcnt_le ss i (b : Int)
    obtain ⟨-, -, ⟨d0, d1⟩, d2, d3⟩ := okB_rd hb (b : Int) (by omega) (by omega)
    have hda := dn_at hb h i hlt
    have hdn : ∀ b', dn bs ss u (i + 1) b' = dn bs ss u i b' + if (ss.getD i z81).f0 = b' ∧ (ss.getD i z81).f1 + (rd_T54 bs (ss.getD i z81).f0).f1 ≤ u then 1 else 0 := fun _ => rfl
    rw [impl_MissedOf.l1, if_pos (by omega), if_pos (by omega), if_pos (by rw [jobs_len]; omega), if_pos (by omega), rd81, if_pos b0, if_pos b1, jobs_at ss i hlt, hbe]
    rw [hbe] at hda hdn
    rw [rd54] at d0 d1 d2 d3 hda hdn ⊢
    obtain ⟨n0, n1, n2⟩ := dueN_spec hb u0 hu b hbl
    obtain ⟨p0, p1⟩ : 0 ≤ ((jcnt ss i (b : Int) : Nat) + 1 : Int) * (bs.getD b z54).f2 ∧ ((jcnt ss i (b : Int) : Nat) + 1 : Int) * (bs.getD b z54).f2 ≤ 4623 := by
      have := prod_bd (a := (jcnt ss i (b : Int) : Nat)) (e := (bs.getD b z54).f2) (by omega) (by omega) (by omega) d3
      rw [Int.add_mul, Int.one_mul]
      omega
    rw [w64 (n := ((jcnt ss i (b : Int) : Nat) + 1 : Int)) (by omega) (by omega), w64 (n := ((jcnt ss i (b : Int) : Nat) + 1 : Int) * (bs.getD b z54).f2) (by omega) (by omega), w64 (n := (ss.getD i z81).f1 + (bs.getD b z54).f1) (by omega) (by omega), w64_succ hlt (by omega)]
    have n3 := n2 ((jcnt ss i (b : Int) : Nat) + 1 : Int)
    have hvb := hv b hbl
    have hskip : (∀ b' : Nat, b' < bs.length → x.getD b' 0 = dueN bs u b' - min (dn bs ss u (i + 1) (b' : Int) : Int) (dueN bs u b')) → ∃ y, impl_MissedOf.l1 k bs ss u x (jobsL ss) (ss.length : Int) ((i + 1 : Nat) : Int) = some (y, true) ∧ y.length = bs.length ∧ ∀ b : Nat, b < bs.length → y.getD b 0 = dueN bs u b - min (dn bs ss u ss.length (b : Int) : Int) (dueN bs u b) :=
      fun hv' => ih k (i + 1) x (by omega) (by omega) hx hv'
    by_cases cB : (ss.getD i z81).f1 + (bs.getD b z54).f1 ≤ u
    · have hdb := hda cB (b : Int)
      by_cases cA : ((jcnt ss i (b : Int) : Nat) + 1 : Int) * (bs.getD b z54).f2 ≤ u
      · have cN := n3.1 cA
        rw [if_pos cA, if_pos cB, if_pos (by omega), Int.toNat_natCast, rdI, w64 (n := x.getD b 0 - 1) (by omega) (by omega)]
        refine ih k (i + 1) _ (by omega) (by omega) (by rw [List.length_set]; exact hx) (fun b' hb' => ?_)
        have e : (x.set b (x.getD b 0 - 1)).getD b' 0 = if b = b' then x.getD b 0 - 1 else x.getD b' 0 := by
          simp only [List.getD_eq_getElem?_getD, List.getElem?_set]
          split
          · simp [show b < x.length by omega]
          · rfl
        rw [e, hdn]
        by_cases hbb : b = b'
        · subst hbb
          rw [if_pos rfl, if_pos ⟨rfl, cB⟩]
          omega
        · rw [if_neg hbb, if_neg (fun hx => hbb (by omega)), hv b' hb']
          rfl
      · have cN : ¬ ((jcnt ss i (b : Int) : Nat) + 1 : Int) ≤ dueN bs u b := fun hx => cA (n3.2 hx)
        rw [if_neg cA]
        refine hskip (fun b' hb' => ?_)
        rw [hv b' hb', hdn]
        by_cases hbb : b = b'
        · subst hbb
          rw [if_pos ⟨rfl, cB⟩]
          omega
        · rw [if_neg (fun hx => hbb (by omega))]
          rfl
    · have hsame : ∀ b' : Nat, b' < bs.length → x.getD b' 0 = dueN bs u b' - min (dn bs ss u (i + 1) (b' : Int) : Int) (dueN bs u b') := fun b' hb' => by
        rw [hv b' hb', hdn, if_neg (fun hx => cB hx.2)]
        rfl
      by_cases cA : ((jcnt ss i (b : Int) : Nat) + 1 : Int) * (bs.getD b z54).f2 ≤ u
      · rw [if_pos cA, if_neg cB]; exact hskip hsame
      · rw [if_neg cA]; exact hskip hsame
theorem missed_val {bs : List S54} (hb : ∀ b ∈ bs, okB b) (h1 : 1 ≤ bs.length) (h4 : bs.length ≤ 4) {u : Int} (u0 : 0 ≤ u) (hu : u ≤ 100) {ss : List S81} (h : PlanOk bs u ss) (k : Nat) (hk : 1000 < k) :
    ∃ y, impl_MissedOf.f k bs ss u = some (y, true) ∧ y.length = bs.length ∧ ∀ b : Nat, b < bs.length → y.getD b 0 = dueN bs u b - min (dn bs ss u ss.length (b : Int) : Int) (dueN bs u b) := by
  have hl := h.len
  unfold impl_MissedOf.f
  obtain ⟨k, rfl⟩ : ∃ m, k = m + 1 := ⟨k - 1, by omega⟩
  rw [isPlan_true hb h1 h4 hu h (k + 1) (by omega), Option.bind_some, if_pos rfl, within_true u0 (by omega), Option.bind_some, impl_MissedOf.j0, if_neg (by decide)]
  have hv : ∀ b : Nat, b < bs.length → ((List.range bs.length).map (dueN bs u)).getD b 0 = dueN bs u b - min (dn bs ss u 0 (b : Int) : Int) (dueN bs u b) := fun b hbl => by
    have e : ((List.range bs.length).map (dueN bs u)).getD b 0 = dueN bs u b := by simp [List.getD_eq_getElem?_getD, hbl]
    have := (dueN_spec hb u0 hu b hbl).1
    rw [e]
    simp only [dn]
    omega
  have hone := fun k hk => missed1_loop hb u0 hu h ss.length k 0 _ (by omega) (hk : ss.length < k) (by simp : ((List.range bs.length).map (dueN bs u)).length = bs.length) hv
  obtain ⟨y, hy, hyl, hyv⟩ := hone 300 (by omega)
  refine ⟨y, ?_, hyl, hyv⟩
  have hmono : ∀ n, impl_MissedOf.l1 (300 + n) bs ss u ((List.range bs.length).map (dueN bs u)) (jobsL ss) (ss.length : Int) ((0 : Nat) : Int) = some (y, true) := by
    intro n
    induction n with
    | zero => exact hy
    | succ n ih => exact (impl_MissedOf.mono_l (300 + n)).2.2 _ _ _ _ _ _ _ _ ih
  refine missed0_loop hb h4 u ss _ (fun k hk => ?_) bs.length k 0 (by omega) (by omega)
  obtain ⟨k, rfl⟩ : ∃ m, k = 300 + m + 1 := ⟨k - 301, by omega⟩
  rw [impl_MissedOf.l0, if_neg (by omega), jobs_some h4 h, Option.bind_some, jobs_len]
  exact hmono k
end Go.Proofs.Ytekcngoemeadlaa.PlainZ
