/-
  The plain law of FnExactLoadOf: the program's and the reference's load of beams is one fraction.
-/
import Derived.Test.YtekcngoemeadlaaPlain
import Derived.Test.YtekcngoemeadlaaQx5
namespace Go.Proofs.Ytekcngoemeadlaa.Plain
open Go.RowKit Go.Proofs.YtekcngoemeadlaaW.PrintWords Go.Proofs.YtekcngoemeadlaaW.PrintLast Go.Proofs.YtekcngoemeadlaaW.PrintMore
open Go.Proofs.Ytekcngoemeadlaa.Q

theorem common_loop : ∀ (n k a b : Nat), b ≤ n → n < k → spec_l09Common.l0 k (a : Int) (b : Int) = some ((Nat.gcd b a : Nat) : Int) := by
  intro n
  induction n with
  | zero =>
    intro k a b hb hk
    obtain ⟨k, rfl⟩ : ∃ m, k = m + 1 := ⟨k - 1, by omega⟩
    obtain rfl : b = 0 := by omega
    simp [spec_l09Common.l0]
  | succ n ih =>
    intro k a b hb hk
    obtain ⟨k, rfl⟩ : ∃ m, k = m + 1 := ⟨k - 1, by omega⟩
    rcases Nat.eq_zero_or_pos b with rfl | hpos
    · simp [spec_l09Common.l0]
    · simp only [spec_l09Common.l0]
      rw [if_pos (by omega), if_neg (by omega)]
      have hm : Int.tmod (a : Int) (b : Int) = ((a % b : Nat) : Int) := by rw [Int.tmod_eq_emod_of_nonneg (by omega)]; rfl
      have hlt := Nat.mod_lt a hpos
      rw [hm, ih k b (a % b) (by omega) (by omega), Nat.gcd_rec b a]
theorem divisor_eq : ∀ (k : Nat) (a b : Int), impl_divisor.l0 k a b = spec_l09Common.l0 k a b := by
  intro k
  induction k with
  | zero => intros; rfl
  | succ k ih => intro a b; simp only [impl_divisor.l0, spec_l09Common.l0, ih]
theorem common_f (k a b : Nat) (h : b < k) : spec_l09Common.f k (a : Int) (b : Int) = some ((Nat.gcd b a : Nat) : Int) := common_loop b k a b (Nat.le_refl _) h
theorem divisor_f (k a b : Nat) (h : b < k) : impl_divisor.f k (a : Int) (b : Int) = some ((Nat.gcd b a : Nat) : Int) := (divisor_eq k _ _).trans (common_f k a b h)

theorem tdiv_nat (a b : Nat) : Int.tdiv (a : Int) (b : Int) = ((a / b : Nat) : Int) := by rw [Int.tdiv_eq_ediv_of_nonneg (by omega)]; rfl
theorem w64n {n : Nat} (h : n ≤ 9223372036854775807) : wrap64 (n : Int) = (n : Int) := w64 (by omega) (by omega)

/-- One step of the two loops. -/
theorem load_loop (l : List S54) (hl : l.all beamB = true) (hn : l.length ≤ 7) : ∀ (d k i : Nat) (n D : Nat), i + d = l.length → 1000000000001 + d < k → 1 ≤ D → D ≤ 1000000000000 → n ≤ i * D →
    ∃ r, spec_LoadOf.l0 k l (n : Int) (D : Int) (l.length : Int) (i : Int) = some r ∧ impl_LoadOf.l0 k (n : Int) (D : Int) l (l.length : Int) (i : Int) = some r := by
  intro d
  induction d with
  | zero =>
    intro k i n D hi hk h1 h2 h3
    obtain ⟨k, rfl⟩ : ∃ m, k = m + 1 := ⟨k - 1, by omega⟩
    simp only [spec_LoadOf.l0, impl_LoadOf.l0]
    rw [if_neg (by omega), if_neg (by omega)]
    exact ⟨_, rfl, rfl⟩
  | succ d ih =>
    intro k i n D hi hk h1 h2 h3
    obtain ⟨k, rfl⟩ : ∃ m, k = m + 1 := ⟨k - 1, by omega⟩
    have hlt : i < l.length := by omega
    have hb := List.all_eq_true.1 hl _ (List.getElem_mem hlt)
    simp only [beamB, Bool.and_eq_true, inB_iff] at hb
    obtain ⟨-, hw, he⟩ := hb
    obtain ⟨w, hw'⟩ := Int.eq_ofNat_of_zero_le (show 0 ≤ l[i].f1 by omega)
    obtain ⟨E, hE'⟩ := Int.eq_ofNat_of_zero_le (show 0 ≤ l[i].f2 by omega)
    have hw1 : 1 ≤ w := by omega
    have hwE : w ≤ E := by omega
    have hE : E ≤ 10000 := by omega
    simp only [spec_LoadOf.l0, impl_LoadOf.l0]
    rw [if_pos (by omega), if_pos (by omega), if_pos (by omega), if_pos (by omega), if_pos (by omega), if_pos (by omega), rd54 l i hlt, hE', hw', common_f k D E (by omega), divisor_f k D E (by omega)]
    simp only [Option.bind_some]
    -- the divisor
    have hg : 0 < Nat.gcd E D := Nat.gcd_pos_of_pos_left _ (by omega)
    obtain ⟨e, hEe⟩ := Nat.gcd_dvd_left E D
    obtain ⟨q, hDq⟩ := Nat.gcd_dvd_right E D
    generalize Nat.gcd E D = g at *
    have hediv : E / g = e := by rw [hEe]; exact Nat.mul_div_cancel_left _ hg
    have hqdiv : D / g = q := by rw [hDq]; exact Nat.mul_div_cancel_left _ hg
    have he0 : 1 ≤ e := by
      rcases Nat.eq_zero_or_pos e with h | h
      · subst h; simp at hEe; omega
      · exact h
    have hq0 : 1 ≤ q := by
      rcases Nat.eq_zero_or_pos q with h | h
      · subst h; simp at hDq; omega
      · exact h
    have heE : e ≤ 10000 := by
      have : e ≤ g * e := Nat.le_mul_of_pos_left _ hg
      omega
    have hqD : q ≤ D := by
      have : q ≤ g * q := Nat.le_mul_of_pos_left _ hg
      omega
    have hcom : q * E = D * e := by rw [hEe, hDq]; rw [Nat.mul_comm g e, ← Nat.mul_assoc, Nat.mul_comm q e, Nat.mul_assoc, Nat.mul_comm q g, Nat.mul_comm e]
    have hDe : D * e ≤ 1000000000000 * 10000 := Nat.mul_le_mul h2 heE
    have hg0 : ¬ ((g : Int) = 0) := by omega
    have hE0 : ¬ ((E : Int) = 0) := by omega
    have hD0 : ¬ ((D : Int) = 0) := by omega
    rw [if_neg hg0, if_neg hg0, tdiv_nat, tdiv_nat, hediv, hqdiv, w64n (n := e) (by omega), w64n (n := q) (by omega)]
    rw [show (D : Int) * (e : Int) = ((D * e : Nat) : Int) by simp, show (q : Int) * (E : Int) = ((D * e : Nat) : Int) by rw [← hcom]; simp, w64n (n := D * e) (by omega)]
    by_cases hbig : ((D * e : Nat) : Int) > 1000000000000
    · rw [if_pos hbig, if_pos hbig]; exact ⟨_, rfl, rfl⟩
    · rw [if_neg hbig, if_neg hbig, if_neg hE0, if_neg hD0, if_neg hE0]
      have hsm : D * e ≤ 1000000000000 := by omega
      have h4 : D * e / D = e := Nat.mul_div_cancel_left _ (by omega)
      have h5 : D * e / E = q := by rw [← hcom]; exact Nat.mul_div_cancel _ (by omega)
      rw [tdiv_nat, tdiv_nat, h4, h5, w64n (n := e) (by omega), w64n (n := q) (by omega)]
      have hne : n * e ≤ 7 * (D * e) := by
        have : n ≤ 7 * D := Nat.le_trans h3 (Nat.mul_le_mul_right _ (by omega))
        calc n * e ≤ 7 * D * e := Nat.mul_le_mul_right _ this
          _ = 7 * (D * e) := Nat.mul_assoc ..
      have hwq : w * q ≤ D * e := by
        rw [← hcom, Nat.mul_comm w q]
        exact Nat.mul_le_mul_left _ hwE
      have hne' : n * e ≤ i * (D * e) := by
        calc n * e ≤ i * D * e := Nat.mul_le_mul_right _ h3
          _ = i * (D * e) := Nat.mul_assoc ..
      have hwq1 : 1 ≤ w * q := Nat.mul_pos hw1 hq0
      rw [show (n : Int) * (e : Int) = ((n * e : Nat) : Int) by simp, show (w : Int) * (q : Int) = ((w * q : Nat) : Int) by simp, w64n (n := n * e) (by omega), w64n (n := w * q) (by omega), show ((n * e : Nat) : Int) + ((w * q : Nat) : Int) = ((n * e + w * q : Nat) : Int) by simp, w64n (n := n * e + w * q) (by omega)]
      rw [common_f k _ _ (by omega), divisor_f k _ _ (by omega)]
      simp only [Option.bind_some]
      have hDe1 : 1 ≤ D * e := Nat.mul_pos h1 he0
      have hg2 : 0 < Nat.gcd (D * e) (n * e + w * q) := Nat.gcd_pos_of_pos_left _ (by omega)
      have hd2 := Nat.gcd_dvd_left (D * e) (n * e + w * q)
      have hd3 := Nat.gcd_dvd_right (D * e) (n * e + w * q)
      have hle : n * e + w * q ≤ (i + 1) * (D * e) := by rw [Nat.succ_mul]; omega
      generalize Nat.gcd (D * e) (n * e + w * q) = g2 at *
      have hg20 : ¬ ((g2 : Int) = 0) := by omega
      rw [if_neg hg20, if_neg hg20, tdiv_nat, tdiv_nat]
      obtain ⟨a, ha⟩ := hd2
      obtain ⟨b, hb⟩ := hd3
      have ha1 : D * e / g2 = a := by rw [ha]; exact Nat.mul_div_cancel_left _ hg2
      have hb1 : (n * e + w * q) / g2 = b := by rw [hb]; exact Nat.mul_div_cancel_left _ hg2
      have ha0 : 1 ≤ a := by
        rcases Nat.eq_zero_or_pos a with h | h
        · subst h; simp at ha; omega
        · exact h
      have haD : a ≤ 1000000000000 := by
        have : a ≤ g2 * a := Nat.le_mul_of_pos_left _ hg2
        omega
      have hb7 : b ≤ (i + 1) * a := by
        rw [hb, ha, ← Nat.mul_assoc, Nat.mul_comm (i + 1) g2, Nat.mul_assoc] at hle
        exact Nat.le_of_mul_le_mul_left hle hg2
      have hb8 : b ≤ 9223372036854775807 := by
        have : (i + 1) * a ≤ 7 * 1000000000000 := Nat.mul_le_mul (by omega) haD
        omega
      rw [ha1, hb1, w64n (n := a) (by omega), w64n (n := b) hb8, w64_succ hlt (by omega)]
      exact ih k (i + 1) b a (by omega) (by omega) ha0 haD hb7

theorem load_f (l : List S54) (hn : l.length ≤ 9223372036854775807) (k : Nat) (hk : 1000000000001 + l.length < k) : ∃ r, spec_LoadOf.f k l = some r ∧ impl_LoadOf.f k l = some r := by
  unfold spec_LoadOf.f impl_LoadOf.f
  rw [specBeams_f l hn k (by omega), areBeams_f l hn k (by omega)]
  simp only [Option.bind_some]
  cases h : areB l
  · exact ⟨_, rfl, rfl⟩
  · simp only [areB, Bool.and_eq_true, inB_iff] at h
    rw [if_pos rfl, if_pos rfl]
    exact load_loop l h.1 (by omega) l.length k 0 0 1 (by omega) (by omega) (by omega) (by omega) (by omega)

theorem loadOf (l : List S86) (hn : l.length ≤ 9223372036854775807) : ∃ k, laws_FnExactLoadOf.f k l = some true := by
  refine ⟨1000000000003 + l.length, ?_⟩
  unfold laws_FnExactLoadOf.f
  obtain ⟨r, hr, h⟩ := szBeamS_f l 1048576 (by omega) hn
  rw [hr]
  simp only [Option.bind_some]
  rcases h with h | ⟨_, h⟩
  · rw [if_pos h]
  · by_cases h' : r < 0
    · rw [if_pos h']
    · rw [if_neg h', toBeamS_f l (by omega) _ (by omega)]
      obtain ⟨⟨x, y, z⟩, h1, h2⟩ := load_f (l.map conv) (by simpa using hn) (1000000000003 + l.length) (by rw [List.length_map]; omega)
      simp only [Option.bind_some]
      rw [h1, h2]
      simp only [Option.bind_some, if_true]
      obtain ⟨k, hk⟩ : ∃ m, 1000000000003 + l.length = m + 1 := ⟨1000000000002 + l.length, by omega⟩
      rw [hk]
      simp only [laws_FnExactLoadOf.j0]
      rw [toBeamS_f l (by omega) _ (by omega)]
      simp only [Option.bind_some]
      rw [eqBeamS_f _ (by simpa using hn) _ (by simp; omega)]
      simp
end Go.Proofs.Ytekcngoemeadlaa.Plain
