/-
  The plain law of FnPlans: what the printed law computes is true for all bytes.
-/
import Derived.Test.YtekcngoemeadlaaPlainLoadZ
import Derived.Test.YtekcngoemeadlaaPlainFloat
import Derived.Test.YtekcngoemeadlaaZx5
import Derived.Test.YtekcngoemeadlaaZx6
namespace Go.Proofs.Ytekcngoemeadlaa.PlainZ
open Go.RowKit Go.Proofs.YtekcngoemeadlaaW.PrintWords Go.Proofs.YtekcngoemeadlaaW.PrintLast Go.Proofs.YtekcngoemeadlaaW.PrintMore
open Go.Proofs.Ytekcngoemeadlaa.Z

theorem at_some (l : List Int) (hl : ∀ x ∈ l, 0 ≤ x ∧ x ≤ 255) : ∃ r, laws_b10At.f l 0 100 = some r ∧ 0 ≤ r ∧ r < 100 := by
  unfold laws_b10At.f
  rw [if_neg (by decide)]
  by_cases h2 : (0 : Int) < (l.length : Int)
  · obtain ⟨r0, r1⟩ := hl _ (rd_mem l 0 (by decide) h2)
    rw [if_pos h2, if_pos (by decide), if_neg (by decide), w64 (n := rd l 0) (by omega) (by omega)]
    exact ⟨_, rfl, Int.tmod_nonneg _ r0, Int.tmod_lt_of_pos _ (by decide)⟩
  · have e : wrap64 (wrap64 (0 * 37) + 11) = 11 := by
      rw [w64 (n := 0 * 37) (by decide) (by decide), w64 (by decide) (by decide)]
      rfl
    rw [if_neg h2, if_neg (by decide), e]
    exact ⟨_, rfl, by decide, by decide⟩
theorem plan_val {bs : List S54} (hb : ∀ b ∈ bs, okB b) (h1 : 1 ≤ bs.length) (h4 : bs.length ≤ 4) {u : Int} (u0 : 0 ≤ u) (hu : u ≤ 100) (k : Nat) (hk : 1000 < k) : ∃ ss, impl_PlanBeams.f k bs u = some (ss, true) ∧ PlanOk bs u ss := by
  obtain ⟨ss, hs, ho⟩ := plan_some hb h1 hu k (by omega)
  refine ⟨ss, ?_, ho⟩
  unfold impl_PlanBeams.f
  rw [areBeams_true hb h1 h4 k (by omega), Option.bind_some, if_pos rfl, within_true u0 (by omega), Option.bind_some, if_pos rfl, if_pos ⟨h1, by omega⟩, hs]
  rfl
theorem near_div {b V X U : Nat} (hb : 0 < b) (h : Near (b * V) X (b * (2 * U))) : Near V (X / b) (2 * U + 1) := by
  obtain ⟨h1, h2⟩ := h
  constructor
  · have : V ≤ (X + b * (2 * U)) / b := (Nat.le_div_iff_mul_le hb).2 (by rw [Nat.mul_comm]; exact h1)
    rw [Nat.add_mul_div_left _ _ hb] at this
    omega
  · have : X / b ≤ (b * V + b * (2 * U)) / b := Nat.div_le_div_right h2
    rw [← Nat.mul_add, Nat.mul_div_cancel_left _ hb] at this
    omega
theorem share_le {bs : List S54} (hb : ∀ b ∈ bs, okB b) (T i : Nat) (hi : i < bs.length) : (bs.getD i z54).f1.toNat * T / (bs.getD i z54).f2.toNat ≤ T := by
  obtain ⟨-, -, ⟨d0, d1⟩, d2, d3⟩ := okB_rd hb (i : Int) (by omega) (by omega)
  rw [rd54] at d0 d1 d2 d3
  refine Nat.div_le_of_le_mul ?_
  exact Nat.mul_le_mul_right _ (by omega)
theorem shF_le {bs : List S54} (hb : ∀ b ∈ bs, okB b) (T : Nat) : ∀ i : Nat, i ≤ bs.length → shF bs T i ≤ i * T := by
  intro i
  induction i with
  | zero => intro _; exact Nat.zero_le _
  | succ i ih =>
    intro hi
    have := ih (by omega)
    have h2 := share_le hb T i (by omega)
    simp only [shF]
    rw [Nat.add_mul, Nat.one_mul]
    omega
theorem share_loop {bs : List S54} (hb : ∀ b ∈ bs, okB b) (h4 : bs.length ≤ 4) {U T : Nat} (hw : World2 U T) (u : Int) (ss : List S81) (late missed : List Int) (dw tw A B : Int) : ∀ (d i : Nat) (x V : Nat), i + d = bs.length → Val x V → Near V (shF bs T i) (i * (4 * U)) →
    ∃ x' V', Val x' V' ∧ Near V' (shF bs T bs.length) (bs.length * (4 * U)) ∧ ∀ k, laws_FnPlans.l0 (k + d) bs u ss late missed dw tw A B x (bs.length : Int) (i : Int) = laws_FnPlans.l0 k bs u ss late missed dw tw A B x' (bs.length : Int) (bs.length : Int) := by
  obtain ⟨U1, hT, hadd, -, hquo, -, -⟩ := hw
  intro d
  induction d with
  | zero =>
    intro i x V hi hx hn
    obtain rfl : i = bs.length := by omega
    exact ⟨x, V, hx, hn, fun k => rfl⟩
  | succ d ih =>
    intro i x V hi hx hn
    have hlt : i < bs.length := by omega
    obtain ⟨-, -, ⟨d0, d1⟩, d2, d3⟩ := okB_rd hb (i : Int) (by omega) (by omega)
    rw [rd54] at d0 d1 d2 d3
    have hsl := share_le hb T i hlt
    have hsf := shF_le hb T i (by omega)
    have hsh : shF bs T (i + 1) = shF bs T i + (bs.getD i z54).f1.toNat * T / (bs.getD i z54).f2.toNat := rfl
    obtain ⟨dd, hdd⟩ := Int.eq_ofNat_of_zero_le (show 0 ≤ (bs.getD i z54).f1 by omega)
    obtain ⟨ee, hee⟩ := Int.eq_ofNat_of_zero_le (show 0 ≤ (bs.getD i z54).f2 by omega)
    rw [hdd, hee, Int.toNat_natCast, Int.toNat_natCast] at hsl hsh
    obtain ⟨q, Vq, q1, q2, q3⟩ := hquo dd ee (by omega) (by omega) (by omega) (by omega) (by omega)
    obtain ⟨n1, n2⟩ := near_div (by omega) q3
    obtain ⟨v1, v2⟩ := hn
    have hiU : i * (4 * U) ≤ 4 * (4 * U) := Nat.mul_le_mul_right _ (by omega)
    have hiT : i * T ≤ 4 * T := Nat.mul_le_mul_right _ (by omega)
    obtain ⟨y, Vy, y1, y2, y3, y4⟩ := hadd x q V Vq hx q2 (by omega)
    obtain ⟨k1, k2⟩ := fok_some q1
    obtain ⟨k3, k4⟩ := fok_some y1
    obtain ⟨x', V', r1, r2, r3⟩ := ih (i + 1) y Vy (by omega) y2 (by
      rw [hsh, Nat.add_mul, Nat.one_mul]
      exact ⟨by omega, by omega⟩)
    refine ⟨x', V', r1, r2, fun k => ?_⟩
    rw [← r3 k, show k + (d + 1) = (k + d) + 1 by omega, laws_FnPlans.l0, if_pos (by omega), if_pos (by omega), if_pos (by omega), rd54, hdd, hee, if_pos k1, k2, if_pos k3, k4, w64_succ hlt (by omega)]
theorem gap_val {U T : Nat} (hw : World2 U T) {x y V W F : Nat} (hx : Val x V) (hy : Val y W) (h1 : Near V F (3 * U + 5)) (h2 : Near W F (16 * U)) (hF : F ≤ 5 * T) :
    ∃ g, laws_b10Gap.f x y = some g ∧ (FloatKind.f64.format.order g 4517329193108106637 == some .gt) = false := by
  obtain ⟨U1, hT, -, hsub, -, ⟨C, hC, hCU⟩, -⟩ := hw
  obtain ⟨a1, a2⟩ := h1
  obtain ⟨b1, b2⟩ := h2
  unfold laws_b10Gap.f
  rw [lt_val hx hy]
  by_cases hlt : V < W
  · obtain ⟨g, Vg, g1, g2, g3, g4⟩ := hsub y x W V hy hx (by omega) (by omega)
    obtain ⟨k1, k2⟩ := fok_some g1
    rw [if_pos (decide_eq_true hlt), if_pos k1, k2]
    refine ⟨g, rfl, ?_⟩
    rw [gt_val g2 hC]
    exact decide_eq_false (by omega)
  · obtain ⟨g, Vg, g1, g2, g3, g4⟩ := hsub x y V W hx hy (by omega) (by omega)
    obtain ⟨k1, k2⟩ := fok_some g1
    rw [if_neg (by simpa using hlt), if_pos k1, k2]
    refine ⟨g, rfl, ?_⟩
    rw [gt_val g2 hC]
    exact decide_eq_false (by omega)
theorem rd_setI (l : List Int) (a j : Nat) (v : Int) (ha : a < l.length) : (l.set a v).getD j 0 = if a = j then v else l.getD j 0 := by
  simp only [List.getD_eq_getElem?_getD, List.getElem?_set]
  split
  · rfl
  · rfl
theorem slots_loop {bs : List S54} (hb : ∀ b ∈ bs, okB b) {u : Int} (hu : u ≤ 100) {ss : List S81} (h : PlanOk bs u ss) (missed : List Int) (dw tw : Int) : ∀ (d i : Nat) (nx dx : List Int), i + d = ss.length → nx.length = bs.length → dx.length = bs.length →
    (∀ b : Nat, b < bs.length → nx.getD b 0 = (jcnt ss i (b : Int) : Nat)) → (∀ b : Nat, b < bs.length → dx.getD b 0 = (dn bs ss u i (b : Int) : Nat)) →
    ∃ (nx' dx' : List Int), dx'.length = bs.length ∧ (∀ b : Nat, b < bs.length → dx'.getD b 0 = (dn bs ss u ss.length (b : Int) : Nat)) ∧
      ∀ k, laws_FnPlans.l1 (k + 3 * d) bs u ss ((List.range ss.length).map (lateF bs ss)) missed dw tw nx dx (dS bs ss i) (tS bs ss i) (ss.length : Int) (i : Int) = laws_FnPlans.l1 k bs u ss ((List.range ss.length).map (lateF bs ss)) missed dw tw nx' dx' (dS bs ss ss.length) (tS bs ss ss.length) (ss.length : Int) (ss.length : Int) := by
  intro d
  induction d with
  | zero =>
    intro i nx dx hi hnl hdl hn hd
    obtain rfl : i = ss.length := by omega
    exact ⟨nx, dx, hdl, hd, fun k => rfl⟩
  | succ d ih =>
    intro i nx dx hi hnl hdl hn hd
    have hlt : i < ss.length := by omega
    have hl := h.len
    obtain ⟨b0, b1⟩ := h.beam i hlt
    obtain ⟨a0, a1⟩ := h.at_ i hlt
    have hj := h.job i hlt
    obtain ⟨b, hbe⟩ := Int.eq_ofNat_of_zero_le b0
    have hbl : b < bs.length := by omega
    have hc := jcnt_le ss i (b : Int)
    obtain ⟨⟨w0, w1⟩, ⟨w2, w3⟩, ⟨d0, d1⟩, d2, d3⟩ := okB_rd hb (b : Int) (by omega) (by omega)
    have hdn : ∀ b', dn bs ss u (i + 1) b' = dn bs ss u i b' + if (ss.getD i z81).f0 = b' ∧ (ss.getD i z81).f1 + (rd_T54 bs (ss.getD i z81).f0).f1 ≤ u then 1 else 0 := fun _ => rfl
    have hds : dS bs ss (i + 1) = wrap64 (dS bs ss i + (rd_T54 bs (ss.getD i z81).f0).f1) := rfl
    have hdle : dn bs ss u i (b : Int) ≤ 200 := by
      have : ∀ m, dn bs ss u m (b : Int) ≤ m := by
        intro m
        induction m with
        | zero => exact Nat.le_refl _
        | succ m im => simp only [dn]; split <;> omega
      have := this i; omega
    have hlate : rd ((List.range ss.length).map (lateF bs ss)) (i : Int) = lateF bs ss i := by
      rw [rdI]; simp [List.getD_eq_getElem?_getD, hlt]
    have hlf : lateF bs ss i = mx 0 (wrap64 (wrap64 ((ss.getD i z81).f1 + (rd_T54 bs (ss.getD i z81).f0).f1) - wrap64 (wrap64 ((jcnt ss i (ss.getD i z81).f0 : Nat) + 1) * (rd_T54 bs (ss.getD i z81).f0).f2))) := rfl
    rw [hbe] at hj hdn hds hlf
    have hnx : rd nx (b : Int) = (jcnt ss i (b : Int) : Nat) := by rw [rdI]; exact hn b hbl
    have hdx : rd dx (b : Int) = (dn bs ss u i (b : Int) : Nat) := by rw [rdI]; exact hd b hbl
    obtain ⟨p0, p1⟩ := prod_bd (a := (jcnt ss i (b : Int) : Nat)) (e := (rd_T54 bs (b : Int)).f2) (by omega) (by omega) (by omega) d3
    have hbn : b < nx.length := by omega
    have hny : rd (nx.set b (wrap64 ((jcnt ss i (b : Int) : Nat) + 1))) (b : Int) = wrap64 ((jcnt ss i (b : Int) : Nat) + 1) := by rw [rdI, rd_setI _ _ _ _ hbn, if_pos rfl]
    have hnn : ∀ b' : Nat, b' < bs.length → (nx.set b (wrap64 ((jcnt ss i (b : Int) : Nat) + 1))).getD b' 0 = (jcnt ss (i + 1) (b' : Int) : Nat) := fun b' hb' => by
      rw [rd_setI _ _ _ _ hbn, jcnt_succ' ss i hlt, hbe]
      by_cases hbb : b = b'
      · subst hbb
        rw [if_pos rfl, if_pos rfl, w64 (by omega) (by omega)]
        omega
      · rw [if_neg hbb, if_neg (by omega), hn b' hb']
        rfl
    have hlen2 : (nx.set b (wrap64 ((jcnt ss i (b : Int) : Nat) + 1))).length = bs.length := by rw [List.length_set]; exact hnl
    -- the last part of a round
    have tail : ∀ (dy : List Int), dy.length = bs.length → (∀ b' : Nat, b' < bs.length → dy.getD b' 0 = (dn bs ss u (i + 1) (b' : Int) : Nat)) → ∃ (nx' dx' : List Int), dx'.length = bs.length ∧ (∀ b : Nat, b < bs.length → dx'.getD b 0 = (dn bs ss u ss.length (b : Int) : Nat)) ∧
        ∀ k, laws_FnPlans.j4 (k + 3 * d + 1) bs u ss ((List.range ss.length).map (lateF bs ss)) missed dw tw (nx.set b (wrap64 ((jcnt ss i (b : Int) : Nat) + 1))) dy (dS bs ss i) (tS bs ss i) (i : Int) (b : Int) (ss.length : Int) (i : Int) = laws_FnPlans.l1 k bs u ss ((List.range ss.length).map (lateF bs ss)) missed dw tw nx' dx' (dS bs ss ss.length) (tS bs ss ss.length) (ss.length : Int) (ss.length : Int) := by
      intro dy hyl hyv
      obtain ⟨nx', dx', r1, r2, r3⟩ := ih (i + 1) _ dy (by omega) hlen2 hyl hnn hyv
      refine ⟨nx', dx', r1, r2, fun k => ?_⟩
      rw [← r3 k, laws_FnPlans.j4, if_pos (by omega), if_pos (by omega), ← hds]
      rcases Nat.eq_zero_or_pos i with hz | hz
      · have ht : tS bs ss (i + 1) = tS bs ss i := by simp only [tS]; rw [if_neg (by omega)]
        rw [if_neg (by omega), w64_succ hlt (by omega), ht]
      · obtain ⟨c0, c1⟩ := h.beam (i - 1) (by omega)
        obtain ⟨e0, e1⟩ := h.at_ (i - 1) (by omega)
        have hnext := h.next (i - 1) (by omega)
        rw [show i - 1 + 1 = i by omega, hbe] at hnext
        obtain ⟨t1, t2, t3⟩ := tk_some hb c0 c1 (show 0 ≤ (b : Int) by omega) (show (b : Int) < bs.length by omega)
        obtain ⟨⟨x0, x1⟩, ⟨x2, x3⟩, ⟨f0, f1⟩, f2, f3⟩ := okB_rd hb _ c0 c1
        have ht : tS bs ss (i + 1) = wrap64 (tS bs ss i + tk bs (ss.getD (i - 1) z81).f0 (b : Int)) := by simp only [tS]; rw [if_pos hz, hbe]
        have hsw : impl_SwitchTicks.f (rd_T54 bs (ss.getD (i - 1) z81).f0).f0.f0 (rd_T54 bs (ss.getD (i - 1) z81).f0).f0.f1 (rd_T54 bs (b : Int)).f0.f0 (rd_T54 bs (b : Int)).f0.f1 = some (tk bs (ss.getD (i - 1) z81).f0 (b : Int), true) := by
          unfold impl_SwitchTicks.f
          rw [vdir_true x0 x1 x2 x3, Option.bind_some, if_pos rfl, vdir_true w0 w1 w2 w3, Option.bind_some, if_pos rfl, t1]
          rfl
        rw [if_pos (by omega), w64 (n := (i : Int) - 1) (by omega) (by omega), show (i : Int) - 1 = ((i - 1 : Nat) : Int) by omega, rd81, if_pos (by omega), if_pos (by omega), if_pos c0, if_pos c1, hsw, Option.bind_some, if_pos rfl, if_pos (by omega), if_pos (by omega), rd81,
          w64 (n := (ss.getD (i - 1) z81).f1 + (rd_T54 bs (ss.getD (i - 1) z81).f0).f1) (by omega) (by omega), w64 (n := (ss.getD (i - 1) z81).f1 + (rd_T54 bs (ss.getD (i - 1) z81).f0).f1 + tk bs (ss.getD (i - 1) z81).f0 (b : Int)) (by omega) (by omega), if_neg (by omega), w64_succ hlt (by omega), ht]
    have head : ∀ k R, (if (ss.getD i z81).f1 + (rd_T54 bs (b : Int)).f1 ≤ u then laws_FnPlans.j4 (k + 3 * d + 1) bs u ss ((List.range ss.length).map (lateF bs ss)) missed dw tw (nx.set b (wrap64 ((jcnt ss i (b : Int) : Nat) + 1))) (dx.set b (wrap64 ((dn bs ss u i (b : Int) : Nat) + 1))) (dS bs ss i) (tS bs ss i) (i : Int) (b : Int) (ss.length : Int) (i : Int)
        else laws_FnPlans.j4 (k + 3 * d + 1) bs u ss ((List.range ss.length).map (lateF bs ss)) missed dw tw (nx.set b (wrap64 ((jcnt ss i (b : Int) : Nat) + 1))) dx (dS bs ss i) (tS bs ss i) (i : Int) (b : Int) (ss.length : Int) (i : Int)) = R →
        laws_FnPlans.l1 (k + 3 * (d + 1)) bs u ss ((List.range ss.length).map (lateF bs ss)) missed dw tw nx dx (dS bs ss i) (tS bs ss i) (ss.length : Int) (i : Int) = R := by
      intro k R hR
      rw [show k + 3 * (d + 1) = (k + 3 * d + 1) + 1 + 1 by omega, laws_FnPlans.l1, if_pos (by omega), if_pos (by omega), if_pos (by omega), rd81, hbe, if_neg (by omega), if_neg (by omega), if_neg (by omega), if_pos (by omega), if_pos (by omega), if_pos (by omega), hnx, w64 (n := (jcnt ss i (b : Int) : Nat) * (rd_T54 bs (b : Int)).f2) (by omega) (by omega), decide_eq_false (by omega),
        laws_FnPlans.j3, if_neg (by decide), if_pos (by omega), if_pos (by omega), hnx, Option.bind_some, Int.toNat_natCast, if_pos (by omega), if_pos (by omega), if_pos (by omega), if_pos (by rw [List.length_map, List.length_range]; omega), hlate, rd81, hny, if_pos hlf, w64 (n := (ss.getD i z81).f1 + (rd_T54 bs (b : Int)).f1) (by omega) (by omega), hdx]
      rw [← hR]
      split
      · rw [if_pos (by omega)]
      · rfl
    by_cases cB : (ss.getD i z81).f1 + (rd_T54 bs (b : Int)).f1 ≤ u
    · obtain ⟨nx', dx', r1, r2, r3⟩ := tail (dx.set b (wrap64 ((dn bs ss u i (b : Int) : Nat) + 1))) (by rw [List.length_set]; exact hdl) (fun b' hb' => by
        rw [rd_setI _ _ _ _ (by omega), hdn]
        by_cases hbb : b = b'
        · subst hbb
          rw [if_pos rfl, if_pos ⟨rfl, cB⟩, w64 (by omega) (by omega)]
          omega
        · rw [if_neg hbb, if_neg (fun hx => hbb (by omega)), hd b' hb']
          rfl)
      exact ⟨nx', dx', r1, r2, fun k => head k _ (by rw [if_pos cB]; exact r3 k)⟩
    · obtain ⟨nx', dx', r1, r2, r3⟩ := tail dx hdl (fun b' hb' => by
        rw [hd b' hb', hdn, if_neg (fun hx => cB hx.2)]
        rfl)
      exact ⟨nx', dx', r1, r2, fun k => head k _ (by rw [if_neg cB]; exact r3 k)⟩
theorem last_loop {bs : List S54} (hb : ∀ b ∈ bs, okB b) (h4 : bs.length ≤ 4) {u : Int} (u0 : 0 ≤ u) (hu : u ≤ 100) (ss : List S81) (hl : ss.length ≤ 200) (missed dx : List Int) (D E : Int) (hm : missed.length = bs.length) (hdl : dx.length = bs.length)
    (hmv : ∀ b : Nat, b < bs.length → missed.getD b 0 = dueN bs u b - min (dn bs ss u ss.length (b : Int) : Int) (dueN bs u b)) (hdv : ∀ b : Nat, b < bs.length → dx.getD b 0 = (dn bs ss u ss.length (b : Int) : Nat)) : ∀ (d i k : Nat), i + d = bs.length →
    laws_FnPlans.l2 (k + d + 1) bs u missed D E dx D E (bs.length : Int) (i : Int) = some true := by
  intro d
  induction d with
  | zero =>
    intro i k hi
    rw [laws_FnPlans.l2, if_neg (by omega), if_pos rfl]
    simp
  | succ d ih =>
    intro i k hi
    have hlt : i < bs.length := by omega
    obtain ⟨-, -, ⟨d0, d1⟩, d2, d3⟩ := okB_rd hb (i : Int) (by omega) (by omega)
    rw [rd54] at d0 d1 d2 d3
    obtain ⟨n0, n1, -⟩ := dueN_spec hb u0 hu i hlt
    have hdle : dn bs ss u ss.length (i : Int) ≤ ss.length := by
      have : ∀ m, dn bs ss u m (i : Int) ≤ m := by
        intro m
        induction m with
        | zero => exact Nat.le_refl _
        | succ m im => simp only [dn]; split <;> omega
      exact this _
    have hdue : wrap64 (Int.tdiv u (bs.getD i z54).f2) = dueN bs u i := rfl
    rw [show k + (d + 1) + 1 = (k + d + 1) + 1 by omega, laws_FnPlans.l2, if_pos (by omega), if_pos (by omega), if_pos (by omega), if_pos (by omega), rd54, if_neg (by omega), if_pos (by omega), hdue, rdI, rdI, hmv i hlt, hdv i hlt, w64 (n := dueN bs u i - (dn bs ss u ss.length (i : Int) : Nat)) (by omega) (by omega)]
    have hmx : dueN bs u i - min (dn bs ss u ss.length (i : Int) : Int) (dueN bs u i) = mx 0 (dueN bs u i - (dn bs ss u ss.length (i : Int) : Nat)) := by
      unfold mx
      split <;> omega
    rw [if_pos hmx, w64_succ hlt (by omega)]
    exact ih (i + 1) k (by omega)
theorem law_run {bs : List S54} (hb : ∀ b ∈ bs, okB b) (h1 : 1 ≤ bs.length) (h4 : bs.length ≤ 4) {u : Int} (u0 : 0 ≤ u) (hu : u ≤ 100) (k : Nat) (hk : 100001000 < k) (ss : List S81) (ho : PlanOk bs u ss) (y : List Int) (hyl : y.length = bs.length)
    (hyv : ∀ b : Nat, b < bs.length → y.getD b 0 = dueN bs u b - min (dn bs ss u ss.length (b : Int) : Int) (dueN bs u b)) {U T : Nat} (hw : World2 U T) (A B : Nat) (hB : 0 < B) (hB2 : B ≤ 23 ^ 4) (hA : A ≤ 4 * B) (hA0 : 0 < A) (s1 : shF bs T bs.length ≤ A * T / B) (s2 : A * T / B ≤ shF bs T bs.length + 4) :
    laws_FnPlans.l0 k bs u ss ((List.range ss.length).map (lateF bs ss)) y (dS bs ss ss.length) (tS bs ss ss.length) (A : Int) (B : Int) 0 (bs.length : Int) 0 = some true := by
  have hl := ho.len
  obtain ⟨U1, hT, hadd, hsub, hquo, hC, hz⟩ := hw
  have hw : World2 U T := ⟨U1, hT, hadd, hsub, hquo, hC, hz⟩
  obtain ⟨x', V', r1, ⟨r2, r2'⟩, r3⟩ := share_loop hb h4 hw u ss ((List.range ss.length).map (lateF bs ss)) y (dS bs ss ss.length) (tS bs ss ss.length) (A : Int) (B : Int) bs.length 0 0 0 (by omega) hz ⟨Nat.zero_le _, Nat.zero_le _⟩
  obtain ⟨q, Vq, q1, q2, q3⟩ := hquo A B (by omega) (by omega) (by omega) (by omega) (by omega)
  obtain ⟨n1, n2⟩ := near_div hB q3
  obtain ⟨k1, k2⟩ := fok_some q1
  have hnU : bs.length * (4 * U) ≤ 4 * (4 * U) := Nat.mul_le_mul_right _ h4
  have hnT : shF bs T bs.length ≤ bs.length * T := shF_le hb T bs.length (Nat.le_refl _)
  have hnT2 : bs.length * T ≤ 4 * T := Nat.mul_le_mul_right _ h4
  obtain ⟨g, g1, g2⟩ := gap_val hw q2 r1 (F := shF bs T bs.length) ⟨by omega, by omega⟩ ⟨by omega, by omega⟩ (by omega)
  obtain ⟨nx', dx', t1, t2, t3⟩ := slots_loop hb hu ho y (dS bs ss ss.length) (tS bs ss ss.length) ss.length 0 (List.replicate bs.length 0) (List.replicate bs.length 0) (by omega) (by simp) (by simp)
    (fun b hbl => by simp [List.getD_eq_getElem?_getD, hbl, jcnt]) (fun b hbl => by simp [List.getD_eq_getElem?_getD, hbl, dn])
  obtain ⟨K, hK⟩ : ∃ K, k = (((K + bs.length + 1) + 1) + 3 * ss.length + 1) + bs.length := ⟨k - (3 * ss.length + 2 * bs.length + 3), by omega⟩
  have e0 := r3 (((K + bs.length + 1) + 1) + 3 * ss.length + 1)
  rw [← hK] at e0
  refine (show laws_FnPlans.l0 k bs u ss ((List.range ss.length).map (lateF bs ss)) y (dS bs ss ss.length) (tS bs ss ss.length) (A : Int) (B : Int) 0 (bs.length : Int) ((0 : Nat) : Int) = _ from e0).trans ?_
  rw [laws_FnPlans.l0, if_neg (by omega), if_pos k1, k2, g1, Option.bind_some, g2, if_neg (by decide), if_pos (by omega), if_pos (by omega), Int.toNat_natCast]
  have e1 := t3 ((K + bs.length + 1) + 1)
  refine (show laws_FnPlans.l1 (((K + bs.length + 1) + 1) + 3 * ss.length) bs u ss ((List.range ss.length).map (lateF bs ss)) y (dS bs ss ss.length) (tS bs ss ss.length) (List.replicate bs.length 0) (List.replicate bs.length 0) 0 0 (ss.length : Int) ((0 : Nat) : Int) = _ from e1).trans ?_
  rw [laws_FnPlans.l1, if_neg (by omega)]
  exact last_loop hb h4 u0 hu ss hl y dx' (dS bs ss ss.length) (tS bs ss ss.length) hyl t1 hyv t2 bs.length 0 K (by omega)
theorem u8_range {x : Int} (h : (Lit.int .u8 x).wf = true) : 0 ≤ x ∧ x ≤ 255 := by
  have e0 : IntKind.u8.min = 0 := by decide
  have e1 : IntKind.u8.max = 255 := by decide
  simp only [Lit.wf, Bool.and_eq_true, decide_eq_true_eq, e0, e1] at h
  exact h
theorem law_k {bs : List S54} (hb : ∀ b ∈ bs, okB b) (h1 : 1 ≤ bs.length) (h4 : bs.length ≤ 4) (l0 l1 : List Int) (hm : ∀ x ∈ l1, 0 ≤ x ∧ x ≤ 255) (k : Nat) (hk : 100002000 < k) (hB : spec_B10Beams.f k l0 = some bs) : laws_FnPlans.f k l0 l1 = some true := by
  obtain ⟨u, hu0, u0, u1⟩ := at_some l1 hm
  obtain ⟨ss, hs, ho⟩ := plan_val hb h1 h4 u0 (by omega) k (by omega)
  obtain ⟨y, hy, hyl, hyv⟩ := missed_val hb h1 h4 u0 (by omega) ho k (by omega)
  obtain ⟨U, T, hw⟩ := float_world
  obtain ⟨A, B, hld, b1, b2, b3, b4, b5, b6⟩ := load_val hb h1 h4 T k (by omega)
  have hlate := late_val hb h1 h4 (by omega) ho k (by omega)
  have hbusy := busy_val hb h1 h4 (by omega) ho k (by omega)
  have hlen : ((List.range ss.length).map (lateF bs ss)).length = ss.length := by rw [List.length_map, List.length_range]
  unfold laws_FnPlans.f laws_b10Long.f
  have hmain : ((spec_B10Beams.f k l0).bind fun t224 => ((laws_b10At.f l1 0 100).bind fun t227 => ((impl_PlanBeams.f k t224 t227).bind fun bt228 => ((impl_LatenessOf.f k t224 bt228.1).bind fun bt232 => ((impl_MissedOf.f k t224 bt228.1 t227).bind fun bt236 => ((impl_BusyTicks.f k t224 bt228.1).bind fun bt240 => ((impl_LoadOf.f k t224).bind fun bt243 => (if bt228.2 = true then (if bt232.2 = true then (if bt236.2 = true then (if bt240.2.2 = true then (if bt243.2.2 = true then ((impl_AreBeams.f k t224).bind fun t246 => (if t246 = true then ((impl_IsPlan.f k t224 bt228.1).bind fun t247 => (if t247 = true then (if (bt232.1.length : Int) = (bt228.1.length : Int) then (if (bt236.1.length : Int) = (t224.length : Int) then (if bt243.1 < 1 then (none) else (laws_FnPlans.j0 k t224 t227 bt228.1 bt232.1 bt236.1 bt240.1 bt240.2.1 bt243.1 bt243.2.1 (decide (bt243.2.1 < 1)))) else (none)) else (none)) else (none))) else (none))) else (none)) else (none)) else (none)) else (none)) else (none))))))))) = some true := by
    rw [hB, Option.bind_some, hu0, Option.bind_some, hs, Option.bind_some, hlate, Option.bind_some, hy, Option.bind_some, hbusy, Option.bind_some, hld, Option.bind_some]
    simp only [if_true]
    rw [areBeams_true hb h1 h4 k (by omega), Option.bind_some, if_pos rfl, isPlan_true hb h1 h4 (by omega) ho k (by omega), Option.bind_some, if_pos rfl, if_pos (by rw [hlen]), if_pos (by rw [hyl]), if_neg (by omega), decide_eq_false (by omega)]
    obtain ⟨k, rfl⟩ : ∃ m, k = m + 1 := ⟨k - 1, by omega⟩
    rw [laws_FnPlans.j0, if_neg (by decide)]
    exact law_run hb h1 h4 u0 (by omega) k (by omega) ss ho y hyl hyv hw A B b1 b2 b3 b4 b5 b6
  by_cases c0 : (l0.length : Int) > 1048576
  · rw [if_pos c0]; rfl
  · rw [if_neg c0]
    simp only [Option.bind_some]
    by_cases c1 : (l1.length : Int) > 1048576
    · rw [if_pos (by simpa using c1)]
    · rw [if_neg (by simpa using c1)]
      exact hmain
theorem fnPlans_plain : laws_FnPlans.Pure := fun l0 l1 _ _ h0 _ _ h1 => by
  obtain ⟨bs, ⟨n1, n4⟩, hb, hB⟩ := beams_some l0 (fun x hx => u8_range (h0 x hx))
  exact ⟨_, law_k hb n1 n4 l0 l1 (fun x hx => u8_range (h1 x hx)) _ (Nat.lt_succ_self 100002000) (hB _ (by decide))⟩
end Go.Proofs.Ytekcngoemeadlaa.PlainZ
