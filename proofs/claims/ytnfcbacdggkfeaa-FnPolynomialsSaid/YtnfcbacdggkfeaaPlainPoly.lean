/-
  Polynomials over complex whole numbers, told by their coefficients: what a zero more makes of them, their values, their products.
-/
import Derived.Test.YtnfcbacdggkfeaaPlainInt
namespace Go.Proofs.Ytnfcbacdggkfeaa.PlainP

structure G where
  re : Int
  im : Int
def gadd (a b : G) : G := ⟨a.re + b.re, a.im + b.im⟩
def gsub (a b : G) : G := ⟨a.re - b.re, a.im - b.im⟩
def gmul (a b : G) : G := ⟨a.re * b.re - a.im * b.im, a.re * b.im + a.im * b.re⟩
def g0 : G := ⟨0, 0⟩
def g1 : G := ⟨1, 0⟩
theorem gext {a b : G} (h1 : a.re = b.re) (h2 : a.im = b.im) : a = b := by
  cases a; cases b
  simp only at h1 h2
  rw [h1, h2]
/-- Both parts are at most M. -/
def bd (z : G) (M : Nat) : Prop := z.re.natAbs ≤ M ∧ z.im.natAbs ≤ M
theorem bd_mono {z : G} {M N : Nat} (h : bd z M) (hN : M ≤ N) : bd z N := ⟨Nat.le_trans h.1 hN, Nat.le_trans h.2 hN⟩
theorem bd_add {a b : G} {M N : Nat} (ha : bd a M) (hb : bd b N) : bd (gadd a b) (M + N) := by
  obtain ⟨a1, a2⟩ := ha
  obtain ⟨b1, b2⟩ := hb
  simp only [bd, gadd]
  omega
theorem bd_sub {a b : G} {M N : Nat} (ha : bd a M) (hb : bd b N) : bd (gsub a b) (M + N) := by
  obtain ⟨a1, a2⟩ := ha
  obtain ⟨b1, b2⟩ := hb
  simp only [bd, gsub]
  omega
theorem abs_mul {a b : Int} {M N : Nat} (ha : a.natAbs ≤ M) (hb : b.natAbs ≤ N) : (a * b).natAbs ≤ M * N := by
  rw [Int.natAbs_mul]
  exact Nat.mul_le_mul ha hb
theorem bd_mul {a b : G} {M N : Nat} (ha : bd a M) (hb : bd b N) : bd (gmul a b) (2 * (M * N)) := by
  have h1 := abs_mul ha.1 hb.1
  have h2 := abs_mul ha.2 hb.2
  have h3 := abs_mul ha.1 hb.2
  have h4 := abs_mul ha.2 hb.1
  simp only [bd, gmul]
  omega
/-- One zero more. -/
def stepF (z : G) (c : Nat → G) (k : Nat) : G := gsub (if k = 0 then g0 else c (k - 1)) (gmul z (c k))
def oneF (k : Nat) : G := if k = 0 then g1 else g0
def polyF (zs : List G) : Nat → G := zs.foldl (fun c z => stepF z c) oneF
theorem polyF_snoc (zs : List G) (z : G) : polyF (zs ++ [z]) = stepF z (polyF zs) := by simp [polyF, List.foldl_append]
theorem snoc_ind {P : List G → Prop} (h0 : P []) (hs : ∀ zs z, P zs → P (zs ++ [z])) : ∀ zs, P zs := by
  intro zs
  have : ∀ l : List G, P l.reverse := by
    intro l
    induction l with
    | nil => exact h0
    | cons a l ih => rw [List.reverse_cons]; exact hs _ _ ih
  have h := this zs.reverse
  rwa [List.reverse_reverse] at h
theorem gsub_zero_mul (z : G) : gsub g0 (gmul z g0) = g0 := by apply gext <;> simp [gsub, gmul, g0]
theorem poly_above : ∀ zs : List G, ∀ k, zs.length < k → polyF zs k = g0 := by
  refine snoc_ind ?_ ?_
  · intro k hk
    show oneF k = g0
    unfold oneF
    rw [if_neg (by simp at hk; omega)]
  · intro zs z ih k hk
    rw [List.length_append, List.length_singleton] at hk
    rw [polyF_snoc]
    unfold stepF
    rw [if_neg (by omega), ih (k - 1) (by omega), ih k (by omega), gsub_zero_mul]
theorem poly_top : ∀ zs : List G, polyF zs zs.length = g1 := by
  refine snoc_ind rfl ?_
  intro zs z ih
  rw [List.length_append, List.length_singleton, polyF_snoc]
  unfold stepF
  rw [if_neg (by omega), Nat.add_sub_cancel, ih, poly_above zs _ (by omega)]
  apply gext <;> simp [gsub, gmul, g0, g1]
theorem step_bd {z : G} {c : Nat → G} {M : Nat} (hz : bd z 2) (hc : ∀ k, bd (c k) M) (k : Nat) : bd (stepF z c k) (5 * M) := by
  unfold stepF
  have h1 : bd (if k = 0 then g0 else c (k - 1)) M := by
    split
    · exact ⟨Nat.zero_le _, Nat.zero_le _⟩
    · exact hc _
  exact bd_mono (bd_sub h1 (bd_mul hz (hc k))) (by omega)
theorem poly_bd : ∀ zs : List G, (∀ z ∈ zs, bd z 2) → ∀ k, bd (polyF zs k) (5 ^ zs.length) := by
  refine snoc_ind ?_ ?_
  · intro _ k
    show bd (oneF k) 1
    unfold oneF
    split
    · exact ⟨by decide, by decide⟩
    · exact ⟨by decide, by decide⟩
  · intro zs z ih h k
    rw [polyF_snoc, List.length_append, List.length_singleton, Nat.pow_succ, Nat.mul_comm]
    exact step_bd (h z (by simp)) (ih (fun y hy => h y (by simp [hy]))) k
/-! Values, from the highest coefficient down. -/
def hF (c : Nat → G) (x : G) (top : Nat) : Nat → G
  | 0 => c top
  | i + 1 => gadd (gmul (hF c x top i) x) (c (top - (i + 1)))
theorem h_step (c : Nat → G) (x z : G) (n : Nat) (h0 : c (n + 1) = g0) : ∀ i, i < n → hF (stepF z c) x (n + 1) (i + 1) = gadd (gmul (gsub x z) (hF c x n i)) (c (n - (i + 1))) := by
  intro i
  induction i with
  | zero =>
    intro hi
    simp only [hF]
    have e1 : stepF z c (n + 1) = c n := by
      unfold stepF
      rw [if_neg (by omega), Nat.add_sub_cancel, h0]
      apply gext <;> simp [gsub, gmul, g0]
    have e2 : stepF z c (n + 1 - (0 + 1)) = gsub (c (n - (0 + 1))) (gmul z (c n)) := by
      unfold stepF
      rw [show n + 1 - (0 + 1) = n by omega, if_neg (by omega)]
    rw [e1, e2]
    apply gext <;> simp only [gadd, gsub, gmul] <;> grind
  | succ i ih =>
    intro hi
    have := ih (by omega)
    rw [hF, this]
    have e2 : stepF z c (n + 1 - (i + 1 + 1)) = gsub (c (n - (i + 1 + 1))) (gmul z (c (n - (i + 1)))) := by
      unfold stepF
      rw [if_neg (by omega), show n + 1 - (i + 1 + 1) - 1 = n - (i + 1 + 1) by omega, show n + 1 - (i + 1 + 1) = n - (i + 1) by omega]
    rw [e2, hF]
    apply gext <;> simp only [gadd, gsub, gmul] <;> grind
theorem h_all (c : Nat → G) (x z : G) (n : Nat) (h0 : c (n + 1) = g0) : hF (stepF z c) x (n + 1) (n + 1) = gmul (gsub x z) (hF c x n n) := by
  have e2 : stepF z c (n + 1 - (n + 1)) = gsub g0 (gmul z (c 0)) := by
    unfold stepF
    rw [if_pos (by omega), Nat.sub_self]
  rcases Nat.eq_zero_or_pos n with hn | hn
  · subst hn
    have e1 : stepF z c 1 = c 0 := by
      unfold stepF
      rw [if_neg (by omega), show 1 - 1 = 0 from rfl, show c 1 = g0 from h0]
      apply gext <;> simp [gsub, gmul, g0]
    simp only [hF]
    rw [show (0 + 1 : Nat) = 1 from rfl, e1, show (1 - 1 : Nat) = 0 from rfl]
    rw [show (0 + 1 - (0 + 1) : Nat) = 0 from rfl] at e2
    rw [e2]
    apply gext <;> simp only [gadd, gsub, gmul, g0] <;> grind
  · obtain ⟨m, rfl⟩ : ∃ m, n = m + 1 := ⟨n - 1, by omega⟩
    rw [hF, h_step c x z (m + 1) h0 m (by omega), e2, hF, Nat.sub_self]
    apply gext <;> simp only [gadd, gsub, gmul, g0] <;> grind
/-- The product of the differences from all zeros, as the law makes it. -/
def prF (zs : List G) (x : G) : G := zs.foldl (fun a z => gmul a (gsub x z)) g1
theorem prF_snoc (zs : List G) (z x : G) : prF (zs ++ [z]) x = gmul (prF zs x) (gsub x z) := by simp [prF, List.foldl_append]
theorem value_poly (x : G) : ∀ zs : List G, hF (polyF zs) x zs.length zs.length = prF zs x := by
  refine snoc_ind rfl ?_
  intro zs z ih
  rw [List.length_append, List.length_singleton, polyF_snoc, h_all _ _ _ _ (poly_above zs _ (by omega)), ih, prF_snoc]
  apply gext <;> simp only [gmul, gsub] <;> grind
theorem gmul_zero (a : G) : gmul a g0 = g0 := by apply gext <;> simp [gmul, g0]
theorem zero_gmul (a : G) : gmul g0 a = g0 := by apply gext <;> simp [gmul, g0]
theorem fold_zero (x : G) : ∀ zs : List G, zs.foldl (fun a z => gmul a (gsub x z)) g0 = g0 := by
  intro zs
  induction zs with
  | nil => rfl
  | cons z zs ih => rw [List.foldl_cons, zero_gmul, ih]
theorem fold_mem (x : G) : ∀ (zs : List G) (a : G), x ∈ zs → zs.foldl (fun a z => gmul a (gsub x z)) a = g0 := by
  intro zs
  induction zs with
  | nil => intro a h; cases h
  | cons z zs ih =>
    intro a h
    rw [List.foldl_cons]
    rcases List.mem_cons.1 h with h | h
    · subst h
      have : gsub x x = g0 := by apply gext <;> simp [gsub, g0]
      rw [this, gmul_zero, fold_zero]
    · exact ih _ h
theorem pr_zero {zs : List G} {x : G} (h : x ∈ zs) : prF zs x = g0 := fold_mem x zs g1 h
theorem h_bd {c : Nat → G} {x : G} {M : Nat} (hx : bd x 2) (hc : ∀ k, bd (c k) M) (top : Nat) : ∀ i, bd (hF c x top i) (5 ^ i * M) := by
  intro i
  induction i with
  | zero => simpa [hF] using hc top
  | succ i ih =>
    refine bd_mono (bd_add (bd_mul ih hx) (hc _)) ?_
    rw [Nat.pow_succ]
    have : M ≤ 5 ^ i * M := Nat.le_mul_of_pos_left _ (Nat.pow_pos (by decide))
    have e : 5 ^ i * 5 * M = 5 * (5 ^ i * M) := by rw [Nat.mul_comm (5 ^ i) 5, Nat.mul_assoc]
    rw [e]
    omega
theorem pr_bd {x : G} (hx : bd x 2) : ∀ zs : List G, (∀ z ∈ zs, bd z 2) → bd (prF zs x) (8 ^ zs.length) := by
  refine snoc_ind ?_ ?_
  · intro _
    exact ⟨show (1 : Int).natAbs ≤ 1 by decide, show (0 : Int).natAbs ≤ 1 by decide⟩
  · intro zs z ih h
    rw [prF_snoc, List.length_append, List.length_singleton, Nat.pow_succ]
    exact bd_mono (bd_mul (ih (fun y hy => h y (by simp [hy]))) (bd_sub hx (h z (by simp)))) (by omega)
/-! Products of polynomials. -/
def cvF (a b : Nat → G) (k : Nat) : Nat → G
  | 0 => g0
  | i + 1 => if i ≤ k then gadd (cvF a b k i) (gmul (a i) (b (k - i))) else cvF a b k i
theorem cv_step (a b : Nat → G) (z : G) (k : Nat) : ∀ m, cvF a (stepF z b) k m = gsub (if k = 0 then g0 else cvF a b (k - 1) m) (gmul z (cvF a b k m)) := by
  intro m
  induction m with
  | zero =>
    simp only [cvF]
    rw [gmul_zero]
    split <;> (apply gext <;> simp [gsub, g0])
  | succ m ih =>
    simp only [cvF]
    by_cases hm : m ≤ k
    · rw [if_pos hm, if_pos hm, ih]
      unfold stepF
      by_cases hk : k = 0
      · subst hk
        obtain rfl : m = 0 := by omega
        simp only [if_true, Nat.sub_self]
        apply gext <;> simp only [gadd, gsub, gmul, g0] <;> grind
      · rw [if_neg hk, if_neg hk]
        by_cases hmk : m = k
        · subst hmk
          rw [Nat.sub_self, if_pos rfl, if_neg (by omega)]
          apply gext <;> simp only [gadd, gsub, gmul, g0] <;> grind
        · rw [if_neg (by omega), if_pos (by omega), show k - m - 1 = k - 1 - m by omega]
          apply gext <;> simp only [gadd, gsub, gmul] <;> grind
    · rw [if_neg hm, if_neg hm, ih]
      by_cases hk : k = 0
      · rw [if_pos hk, if_pos hk]
      · rw [if_neg hk, if_neg hk, if_neg (by omega)]
theorem cv_one (a : Nat → G) (k : Nat) : ∀ m, cvF a oneF k m = if k < m then a k else g0 := by
  intro m
  induction m with
  | zero => rw [if_neg (by omega)]; rfl
  | succ m ih =>
    simp only [cvF]
    by_cases hm : m ≤ k
    · rw [if_pos hm, ih, if_neg (by omega)]
      by_cases hk : k = m
      · subst hk
        rw [if_pos (by omega), Nat.sub_self]
        apply gext <;> simp [gadd, gmul, g0, oneF, g1]
      · rw [if_neg (by omega)]
        have : oneF (k - m) = g0 := by unfold oneF; rw [if_neg (by omega)]
        rw [this, gmul_zero]
        apply gext <;> simp [gadd, g0]
    · rw [if_neg hm, ih, if_pos (by omega), if_pos (by omega)]
theorem cv_poly (as : List G) (m : Nat) (hm : as.length < m) : ∀ bs : List G, ∀ k, cvF (polyF as) (polyF bs) k m = polyF (as ++ bs) k := by
  refine snoc_ind ?_ ?_
  · intro k
    rw [List.append_nil]
    show cvF (polyF as) oneF k m = _
    rw [cv_one]
    split
    · rfl
    · rw [poly_above as k (by omega)]
  · intro bs z ih k
    rw [← List.append_assoc, polyF_snoc, polyF_snoc, cv_step]
    unfold stepF
    rw [ih k]
    by_cases hk : k = 0
    · rw [if_pos hk, if_pos hk]
    · rw [if_neg hk, if_neg hk, ih (k - 1)]
theorem cv_bd {a b : Nat → G} {M N : Nat} (ha : ∀ k, bd (a k) M) (hb : ∀ k, bd (b k) N) (k : Nat) : ∀ i, bd (cvF a b k i) (i * (2 * (M * N))) := by
  intro i
  induction i with
  | zero => exact ⟨Nat.zero_le _, Nat.zero_le _⟩
  | succ i ih =>
    simp only [cvF]
    split
    · refine bd_mono (bd_add ih (bd_mul (ha i) (hb (k - i)))) ?_
      rw [Nat.add_mul, Nat.one_mul]
      exact Nat.le_refl _
    · refine bd_mono ih (Nat.mul_le_mul_right _ (by omega))
end Go.Proofs.Ytnfcbacdggkfeaa.PlainP
