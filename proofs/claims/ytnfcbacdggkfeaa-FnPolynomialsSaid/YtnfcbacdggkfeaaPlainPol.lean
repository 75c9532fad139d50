/-
  What PolynomialOf and MulPolynomials compute for few small complex whole numbers.
-/
import Derived.Test.YtnfcbacdggkfeaaPx2
import Derived.Test.YtnfcbacdggkfeaaPlainCx
namespace Go.Proofs.Ytnfcbacdggkfeaa.PlainP
open Go.RowKit Go.Proofs.YtnfcbacdggkfeaaW.PrintWords Go.Proofs.YtnfcbacdggkfeaaW.PrintLast Go.Proofs.YtnfcbacdggkfeaaW.PrintMore
open Go.Proofs.Ytnfcbacdggkfeaa.P

theorem c_wh {l : List C64} (hl : ∀ x ∈ l, Wh x) (i : Nat) (h : i < l.length) : IsC (rdOf c64z l (i : Int)) (val (rdOf c64z l (i : Int))) := val_C (hl _ (rdOf_mem l i h))
/-- One zero more, in place from the highest coefficient down. -/
theorem zero_more {Q : List C64 × Bool → Prop} (l : List C64) (x : C64) (z : G) (c : Nat → G) (M i : Nat) (hi : i < 15) (hx : IsC x z) (hz : bd z 2) (hc : ∀ k, bd (c k) M) (hM : M ≤ 3125) :
    ∀ (t : Nat) (y : List C64), y.length = i + 2 → t ≤ i + 2 → (∀ m : Nat, m < t → IsC (rdOf c64z y (m : Int)) (c m)) → (∀ m : Nat, t ≤ m → m < i + 2 → IsC (rdOf c64z y (m : Int)) (stepF z c m)) →
    (∀ y', LC y' (stepF z c) (i + 2) → Ends (fun k => impl_PolynomialOf.l0 k y' l (l.length : Int) ((i + 1 : Nat) : Int)) Q) →
    Ends (fun k => impl_PolynomialOf.l1 k y x ((t : Int) - 1) l (l.length : Int) (i : Int)) Q := by
  intro t
  induction t with
  | zero =>
    intro y hy ht h1 h2 hq
    refine Ends.step (fun k => ?_) (hq y ⟨hy, fun m hm => h2 m (by omega) hm⟩)
    show impl_PolynomialOf.l1 (k + 1) _ _ _ _ _ _ = _
    rw [impl_PolynomialOf.l1, if_neg (by omega), w64 (by omega) (by omega), Int.natCast_add]
    rfl
  | succ t ih =>
    intro y hy ht h1 h2 hq
    have et : ((t + 1 : Nat) : Int) - 1 = (t : Int) := by omega
    obtain ⟨u, eu, iu⟩ := mulC hx (h1 t (by omega)) hz (hc t) (by omega) (by omega) (by omega)
    have hb := step_bd (z := z) (c := c) hz hc t
    by_cases h0 : t = 0
    · subst h0
      have hb' : bd (gsub g0 (gmul z (c 0))) (5 * M) := hb
      obtain ⟨v, ev, iv⟩ := lessC nought_C iu hb' (by omega)
      refine Ends.step (fun k => ?_) (ih (y.set 0 v) (by simpa using hy) (by omega) (fun m hm => by omega) (fun m hm hm2 => ?_) hq)
      · show impl_PolynomialOf.l1 (k + 1) _ _ _ _ _ _ = impl_PolynomialOf.l1 k _ _ _ _ _ _
        rw [impl_PolynomialOf.l1, et, if_pos (by omega), if_neg (by omega), if_pos (by omega), if_pos (by omega), eu]
        simp only [Option.bind_some]
        rw [ev]
        simp only [Option.bind_some]
        rw [w64 (by omega) (by omega)]
        rfl
      · rw [rdOf_set y v m 0 (by omega)]
        split
        · rename_i e
          subst e
          exact iv
        · exact h2 m (by omega) hm2
    · have hb' : bd (gsub (c (t - 1)) (gmul z (c t))) (5 * M) := by
        unfold stepF at hb
        rwa [if_neg h0] at hb
      obtain ⟨v, ev, iv⟩ := lessC (h1 (t - 1) (by omega)) iu hb' (by omega)
      refine Ends.step (fun k => ?_) (ih (y.set t v) (by simpa using hy) (by omega) (fun m hm => ?_) (fun m hm hm2 => ?_) hq)
      · show impl_PolynomialOf.l1 (k + 1) _ _ _ _ _ _ = impl_PolynomialOf.l1 k _ _ _ _ _ _
        rw [impl_PolynomialOf.l1, et, if_pos (by omega), if_pos (by omega), w64 (by omega) (by omega), if_pos (by omega), if_pos (by omega), if_pos (by omega), if_pos (by omega), eu]
        simp only [Option.bind_some]
        rw [show (t : Int) - 1 = ((t - 1 : Nat) : Int) by omega, ev]
        simp only [Option.bind_some, Int.toNat_natCast]
      · rw [rdOf_set y v m t (by omega), if_neg (by omega)]
        exact h1 m (by omega)
      · rw [rdOf_set y v m t (by omega)]
        split
        · rename_i e
          subst e
          unfold stepF
          rw [if_neg h0]
          exact iv
        · exact h2 m (by omega) hm2
theorem pow5 {n m : Nat} (h : n ≤ m) : 5 ^ n ≤ 5 ^ m := Nat.pow_le_pow_right (by decide) h
theorem zeros_in (l : List C64) (hl : ∀ x ∈ l, Wh x) (hn : l.length ≤ 5) : ∀ (d i : Nat) (y : List C64), i + d = l.length → LC y (polyF ((l.map val).take i)) (i + 1) →
    Ends (fun k => impl_PolynomialOf.l0 k y l (l.length : Int) (i : Int)) (fun r => r.2 = true ∧ LC r.1 (polyF (l.map val)) (l.length + 1)) := by
  intro d
  induction d with
  | zero =>
    intro i y hi hy
    refine Ends.step (h := fun _ => some (y, true)) (fun k => ?_) (Ends.now ⟨rfl, ?_⟩)
    · show impl_PolynomialOf.l0 (k + 1) _ _ _ _ = _
      rw [impl_PolynomialOf.l0, if_neg (by omega)]
    · rw [show i = l.length by omega] at hy
      rwa [List.take_of_length_le (by simp)] at hy
  | succ d ih =>
    intro i y hi hy
    have hlen : ((l.map val).take i).length = i := by simp; omega
    have hb : ∀ k, bd (polyF ((l.map val).take i) k) (5 ^ 4) := fun k => bd_mono (poly_bd _ (fun z hz => map_bd l z (List.mem_of_mem_take hz)) k) (pow5 (by omega))
    have hy2 : LC (y ++ [(⟨0, 0⟩ : C64)]) (polyF ((l.map val).take i)) (i + 2) := by
      refine ⟨by simp [hy.1], fun m hm => ?_⟩
      rw [rdOf_snoc]
      split
      · rename_i h
        exact hy.2 m (by have := hy.1; omega)
      · rename_i h
        rw [if_pos (by have := hy.1; omega)]
        rw [poly_above _ m (by have := hy.1; omega)]
        exact nought_C
    have key := zero_more (Q := fun r => r.2 = true ∧ LC r.1 (polyF (l.map val)) (l.length + 1)) l (rdOf c64z l (i : Int)) (val (rdOf c64z l (i : Int))) (polyF ((l.map val).take i)) (5 ^ 4) i (by omega) (c_wh hl i (by omega)) (val_bd _) hb (by decide) (i + 2) (y ++ [(⟨0, 0⟩ : C64)]) hy2.1 (by omega) (fun m hm => hy2.2 m hm) (fun m h1 h2 => by omega) (fun y' h' => ih (i + 1) y' (by omega) (by
      rw [rdOf_val l i (by omega), polyF_snoc]
      exact h'))
    refine Ends.step (fun k => ?_) key
    show impl_PolynomialOf.l0 (k + 1) _ _ _ _ = impl_PolynomialOf.l1 k _ _ _ _ _ _
    have hy3 := hy.1
    rw [impl_PolynomialOf.l0, if_pos (by omega), if_pos (by omega), if_pos (by omega), if_pos (by omega)]
    simp only [Option.bind_some]
    rw [w64 (by omega) (by simp; omega)]
    congr 1
    simp
    omega
theorem poly_some (l : List C64) (hl : ∀ x ∈ l, Wh x) (hn : l.length ≤ 5) : Ends (fun k => impl_PolynomialOf.f k l) (fun r => r.2 = true ∧ LC r.1 (polyF (l.map val)) (l.length + 1)) := by
  have h := zeros_in l hl hn l.length 0 [(⟨1065353216, 0⟩ : C64)] (by omega) ⟨rfl, fun i hi => by
    obtain rfl : i = 0 := by omega
    exact one_C⟩
  refine Ends.congr (fun k => ?_) h
  unfold impl_PolynomialOf.f
  rw [if_neg (by omega)]
  rfl
/-! Products. -/
theorem weights_some (l : List C64) (h1 : 1 ≤ l.length) (h2 : l.length ≤ 16) : impl_areWeights.f l = some true := by
  unfold impl_areWeights.f impl_isCount.f impl_within.f
  rw [if_pos (by omega)]
  simp only [Option.bind_some]
  rw [decide_eq_true (by omega)]
theorem sum_some {Q : List C64 × Bool → Prop} (a b : List C64) (A B : Nat → G) (p q M N : Nat) (ha : LC a A (p + 1)) (hb : LC b B (q + 1)) (hA : ∀ k, bd (A k) M) (hB : ∀ k, bd (B k) N) (hB0 : ∀ k, q < k → B k = g0)
    (hp : p ≤ 5) (hq : q ≤ 5) (hM : M ≤ 3125) (hN : N ≤ 3125) (hMN : M * N ≤ 3125) (o : List C64) (ho : o.length ≤ 100) (k0 : Nat) (hk0 : k0 < 100) :
    ∀ (d i : Nat) (s : C64), i + d = p + 1 → IsC s (cvF A B k0 i) →
    (∀ s', IsC s' (cvF A B k0 (p + 1)) → Ends (fun k => impl_MulPolynomials.l0 k a b (o ++ [s']) ((p + q + 1 : Nat) : Int) ((k0 + 1 : Nat) : Int)) Q) →
    Ends (fun k => impl_MulPolynomials.l1 k a b o (k0 : Int) s ((p + q + 1 : Nat) : Int) (k0 : Int) a (a.length : Int) (i : Int)) Q := by
  intro d
  have ha1 := ha.1
  have hb1 := hb.1
  induction d with
  | zero =>
    intro i s hi hs hQ
    obtain rfl : i = p + 1 := by omega
    refine Ends.step (fun k => ?_) (hQ s hs)
    show impl_MulPolynomials.l1 (k + 1) _ _ _ _ _ _ _ _ _ _ = _
    rw [impl_MulPolynomials.l1, if_neg (by omega), if_pos (by omega), w64 (by omega) (by omega), Int.natCast_add (k0) 1]
    rfl
  | succ d ih =>
    intro i s hi hs hQ
    have hai : IsC (rdOf c64z a (i : Int)) (A i) := ha.2 i (by omega)
    have hcb : bd (cvF A B k0 (i + 1)) 37500 := bd_mono (cv_bd hA hB k0 (i + 1)) (by
      have : (i + 1) * (2 * (M * N)) ≤ 6 * (2 * 3125) := Nat.mul_le_mul (by omega) (by omega)
      omega)
    have e1 : ((i : Int) + 1) = ((i + 1 : Nat) : Int) := by omega
    by_cases hik : i ≤ k0
    · have e2 : (k0 : Int) - (i : Int) = ((k0 - i : Nat) : Int) := by omega
      have hc : cvF A B k0 (i + 1) = gadd (cvF A B k0 i) (gmul (A i) (B (k0 - i))) := by
        simp only [cvF]
        rw [if_pos hik]
      by_cases hkq : k0 - i < q + 1
      · obtain ⟨u, eu, iu⟩ := mulC hai (hb.2 (k0 - i) hkq) (hA i) (hB (k0 - i)) (by omega) (by omega) (by omega)
        rw [hc] at hcb
        obtain ⟨v, ev, iv⟩ := addC hs iu hcb (by omega)
        refine Ends.step (h := fun k => impl_MulPolynomials.j3 k a b o (k0 : Int) s (rdOf c64z a (i : Int)) ((k0 - i : Nat) : Int) ((p + q + 1 : Nat) : Int) (k0 : Int) a (a.length : Int) (i : Int) true) (fun k => ?_) (Ends.step (fun k => ?_) (ih (i + 1) v (by omega) (by rw [hc]; exact iv) hQ))
        · show impl_MulPolynomials.l1 (k + 1) _ _ _ _ _ _ _ _ _ _ = _
          rw [impl_MulPolynomials.l1, if_pos (by omega), if_pos (by omega), if_pos (by omega), w64 (by omega) (by omega), e2, if_pos (by omega), decide_eq_true (by omega)]
        · show impl_MulPolynomials.j3 (k + 1) _ _ _ _ _ _ _ _ _ _ _ _ _ = _
          rw [impl_MulPolynomials.j3, if_pos rfl, if_pos (by omega), if_pos (by omega), eu]
          simp only [Option.bind_some]
          rw [ev]
          simp only [Option.bind_some]
          rw [w64 (by omega) (by omega), e1]
      · have hc2 : cvF A B k0 (i + 1) = cvF A B k0 i := by
          rw [hc, hB0 _ (by omega), gmul_zero]
          apply gext <;> simp [gadd, g0]
        refine Ends.step (h := fun k => impl_MulPolynomials.j3 k a b o (k0 : Int) s (rdOf c64z a (i : Int)) ((k0 - i : Nat) : Int) ((p + q + 1 : Nat) : Int) (k0 : Int) a (a.length : Int) (i : Int) false) (fun k => ?_) (Ends.step (fun k => ?_) (ih (i + 1) s (by omega) (by rw [hc2]; exact hs) hQ))
        · show impl_MulPolynomials.l1 (k + 1) _ _ _ _ _ _ _ _ _ _ = _
          rw [impl_MulPolynomials.l1, if_pos (by omega), if_pos (by omega), if_pos (by omega), w64 (by omega) (by omega), e2, if_pos (by omega), decide_eq_false (by omega)]
        · show impl_MulPolynomials.j3 (k + 1) _ _ _ _ _ _ _ _ _ _ _ _ _ = _
          rw [impl_MulPolynomials.j3, if_neg (by decide), w64 (by omega) (by omega), e1]
    · have hc2 : cvF A B k0 (i + 1) = cvF A B k0 i := by
        simp only [cvF]
        rw [if_neg hik]
      refine Ends.step (h := fun k => impl_MulPolynomials.j3 k a b o (k0 : Int) s (rdOf c64z a (i : Int)) ((k0 : Int) - (i : Int)) ((p + q + 1 : Nat) : Int) (k0 : Int) a (a.length : Int) (i : Int) false) (fun k => ?_) (Ends.step (fun k => ?_) (ih (i + 1) s (by omega) (by rw [hc2]; exact hs) hQ))
      · show impl_MulPolynomials.l1 (k + 1) _ _ _ _ _ _ _ _ _ _ = _
        rw [impl_MulPolynomials.l1, if_pos (by omega), if_pos (by omega), if_pos (by omega), w64 (by omega) (by omega), if_neg (by omega)]
      · show impl_MulPolynomials.j3 (k + 1) _ _ _ _ _ _ _ _ _ _ _ _ _ = _
        rw [impl_MulPolynomials.j3, if_neg (by decide), w64 (by omega) (by omega), e1]
theorem sums_some (a b : List C64) (A B : Nat → G) (p q M N : Nat) (ha : LC a A (p + 1)) (hb : LC b B (q + 1)) (hA : ∀ k, bd (A k) M) (hB : ∀ k, bd (B k) N) (hB0 : ∀ k, q < k → B k = g0)
    (hp : p ≤ 5) (hq : q ≤ 5) (hM : M ≤ 3125) (hN : N ≤ 3125) (hMN : M * N ≤ 3125) :
    ∀ (d i : Nat) (o : List C64), i + d = p + q + 1 → LC o (fun k => cvF A B k (p + 1)) i →
    Ends (fun k => impl_MulPolynomials.l0 k a b o ((p + q + 1 : Nat) : Int) (i : Int)) (fun r => r.2 = true ∧ LC r.1 (fun k => cvF A B k (p + 1)) (p + q + 1)) := by
  intro d
  induction d with
  | zero =>
    intro i o hi ho
    obtain rfl : i = p + q + 1 := by omega
    refine Ends.step (h := fun _ => some (o, true)) (fun k => ?_) (Ends.now ⟨rfl, ho⟩)
    show impl_MulPolynomials.l0 (k + 1) _ _ _ _ _ = _
    rw [impl_MulPolynomials.l0, if_neg (by omega)]
  | succ d ih =>
    intro i o hi ho
    have ho1 := ho.1
    have key := sum_some (Q := fun r => r.2 = true ∧ LC r.1 (fun k => cvF A B k (p + 1)) (p + q + 1)) a b A B p q M N ha hb hA hB hB0 hp hq hM hN hMN o (by omega) i (by omega) (p + 1) 0 (⟨0, 0⟩ : C64) (by omega) nought_C (fun s' hs' => ih (i + 1) (o ++ [s']) (by omega) ⟨by simp [ho1], fun m hm => by
      rw [rdOf_snoc]
      split
      · rename_i h
        exact ho.2 m (by omega)
      · rename_i h
        have e : m = o.length := by omega
        rw [if_pos e]
        rw [show m = i by omega]
        exact hs'⟩)
    refine Ends.step (fun k => ?_) key
    show impl_MulPolynomials.l0 (k + 1) _ _ _ _ _ = impl_MulPolynomials.l1 k _ _ _ _ _ _ _ _ _ _
    rw [impl_MulPolynomials.l0, if_pos (by omega)]
    rfl
theorem mul_some (a b : List C64) (A B : Nat → G) (p q M N : Nat) (ha : LC a A (p + 1)) (hb : LC b B (q + 1)) (hA : ∀ k, bd (A k) M) (hB : ∀ k, bd (B k) N) (hB0 : ∀ k, q < k → B k = g0)
    (hp : p ≤ 5) (hq : q ≤ 5) (hM : M ≤ 3125) (hN : N ≤ 3125) (hMN : M * N ≤ 3125) :
    Ends (fun k => impl_MulPolynomials.f k a b) (fun r => r.2 = true ∧ LC r.1 (fun k => cvF A B k (p + 1)) (p + q + 1)) := by
  have ha1 := ha.1
  have hb1 := hb.1
  have h := sums_some a b A B p q M N ha hb hA hB hB0 hp hq hM hN hMN (p + q + 1) 0 [] (by omega) ⟨rfl, fun m hm => by omega⟩
  refine Ends.congr (h := fun k => impl_MulPolynomials.j0 k a b false) (fun k => ?_) (Ends.step (fun k => ?_) h)
  · unfold impl_MulPolynomials.f
    rw [weights_some a (by omega) (by omega)]
    simp only [Option.bind_some, if_true]
    rw [weights_some b (by omega) (by omega)]
    simp only [Option.bind_some, if_true]
    rw [w64 (n := (a.length : Int) + (b.length : Int)) (by omega) (by omega), w64 (by omega) (by omega), decide_eq_false (by omega)]
  · show impl_MulPolynomials.j0 (k + 1) _ _ _ = _
    rw [impl_MulPolynomials.j0, if_neg (by decide), w64 (n := (a.length : Int) + (b.length : Int)) (by omega) (by omega), w64 (by omega) (by omega), show (a.length : Int) + (b.length : Int) - 1 = ((p + q + 1 : Nat) : Int) by omega]
    rfl
end Go.Proofs.Ytnfcbacdggkfeaa.PlainP
