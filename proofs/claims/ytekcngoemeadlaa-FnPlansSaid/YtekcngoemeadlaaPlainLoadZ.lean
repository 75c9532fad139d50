/-
  The load of beams: a fraction that is the sum of their shares.
-/
import Derived.Test.YtekcngoemeadlaaPlainFuncsZ
namespace Go.Proofs.Ytekcngoemeadlaa.PlainZ
open Go.RowKit Go.Proofs.YtekcngoemeadlaaW.PrintWords Go.Proofs.YtekcngoemeadlaaW.PrintLast Go.Proofs.YtekcngoemeadlaaW.PrintMore
open Go.Proofs.Ytekcngoemeadlaa.Z

theorem divisor_loop : ∀ (n k a b : Nat), b ≤ n → n < k → impl_divisor.l0 k (a : Int) (b : Int) = some ((Nat.gcd b a : Nat) : Int) := by
  intro n
  induction n with
  | zero =>
    intro k a b hb hk
    obtain ⟨k, rfl⟩ : ∃ m, k = m + 1 := ⟨k - 1, by omega⟩
    obtain rfl : b = 0 := by omega
    simp [impl_divisor.l0]
  | succ n ih =>
    intro k a b hb hk
    obtain ⟨k, rfl⟩ : ∃ m, k = m + 1 := ⟨k - 1, by omega⟩
    rcases Nat.eq_zero_or_pos b with rfl | hpos
    · simp [impl_divisor.l0]
    · rw [impl_divisor.l0, if_pos (by omega), if_neg (by omega)]
      have hm : Int.tmod (a : Int) (b : Int) = ((a % b : Nat) : Int) := by rw [Int.tmod_eq_emod_of_nonneg (by omega)]; rfl
      have hlt := Nat.mod_lt a hpos
      rw [hm, ih k b (a % b) (by omega) (by omega), Nat.gcd_rec b a]
theorem divisor_f (k a b : Nat) (h : b < k) : impl_divisor.f k (a : Int) (b : Int) = some ((Nat.gcd b a : Nat) : Int) := divisor_loop b k a b (Nat.le_refl _) h
theorem tdiv_nat (a b : Nat) : Int.tdiv (a : Int) (b : Int) = ((a / b : Nat) : Int) := by rw [Int.tdiv_eq_ediv_of_nonneg (by omega)]; rfl
theorem w64n {n : Nat} (h : n ≤ 9223372036854775807) : wrap64 (n : Int) = (n : Int) := w64 (by omega) (by omega)
/-- The whole part of a sum of two fractions. -/
theorem frac_add {X B' a B c E : Nat} (hB : 0 < B) (hE : 0 < E) (hB' : 0 < B') (h : X * (B * E) = B' * (a * E + c * B)) : a / B + c / E ≤ X / B' ∧ X / B' ≤ a / B + c / E + 1 := by
  have p0 : a / B * B ≤ a := Nat.div_mul_le_self a B
  have p1 : a < (a / B + 1) * B := by have := Nat.lt_mul_div_succ a hB; rw [Nat.mul_comm] at this; exact this
  have q0 : c / E * E ≤ c := Nat.div_mul_le_self c E
  have q1 : c < (c / E + 1) * E := by have := Nat.lt_mul_div_succ c hE; rw [Nat.mul_comm] at this; exact this
  generalize a / B = p at *
  generalize c / E = q at *
  have hBE : 0 < B * E := Nat.mul_pos hB hE
  constructor
  · rw [Nat.le_div_iff_mul_le hB']
    refine Nat.le_of_mul_le_mul_right ?_ hBE
    rw [h]
    have e1 : (p + q) * B' * (B * E) = B' * (p * B * E + q * E * B) := by
      rw [Nat.mul_add, Nat.add_mul, Nat.add_mul]
      congr 1
      · simp only [Nat.mul_left_comm, Nat.mul_comm]
      · simp only [Nat.mul_left_comm, Nat.mul_comm]
    rw [e1]
    exact Nat.mul_le_mul_left _ (Nat.add_le_add (Nat.mul_le_mul_right _ p0) (Nat.mul_le_mul_right _ q0))
  · refine Nat.le_of_lt_succ ?_
    rw [Nat.div_lt_iff_lt_mul hB']
    refine Nat.lt_of_mul_lt_mul_right (a := B * E) ?_
    rw [h]
    have e1 : (p + q + 1).succ * B' * (B * E) = B' * ((p + 1) * B * E + (q + 1) * E * B) := by
      have e2 : (p + q + 1).succ = (p + 1) + (q + 1) := by omega
      rw [e2, Nat.mul_add, Nat.add_mul, Nat.add_mul]
      congr 1
      · simp only [Nat.mul_assoc, Nat.mul_left_comm, Nat.mul_comm]
      · simp only [Nat.mul_assoc, Nat.mul_left_comm, Nat.mul_comm]
    rw [e1]
    refine Nat.mul_lt_mul_of_pos_left (Nat.add_lt_add_of_lt_of_le ?_ (Nat.mul_le_mul_right _ (Nat.le_of_lt q1))) hB'
    exact Nat.mul_lt_mul_of_pos_right p1 hE
/-- The shares of the first beams, each T-fold and cut to a whole number. -/
def shF (bs : List S54) (T : Nat) : Nat → Nat
  | 0 => 0
  | i + 1 => shF bs T i + (bs.getD i z54).f1.toNat * T / (bs.getD i z54).f2.toNat
/-- One step of the load, in natural numbers. -/
theorem load_step {A B d e : Nat} (hB : 0 < B) (hd : 0 < d) (he : 0 < e) :
    ∃ A' B', B / Nat.gcd e B * e / Nat.gcd (B / Nat.gcd e B * e) (A * (B / Nat.gcd e B * e / B) + d * (B / Nat.gcd e B * e / e)) = B' ∧
      (A * (B / Nat.gcd e B * e / B) + d * (B / Nat.gcd e B * e / e)) / Nat.gcd (B / Nat.gcd e B * e) (A * (B / Nat.gcd e B * e / B) + d * (B / Nat.gcd e B * e / e)) = A' ∧
      0 < B' ∧ 0 < A' ∧ B' ≤ B * e ∧ A' * (B * e) = B' * (A * e + d * B) := by
  have hg : 0 < Nat.gcd e B := Nat.gcd_pos_of_pos_left _ he
  obtain ⟨b', hb'⟩ : Nat.gcd e B ∣ B := Nat.gcd_dvd_right e B
  obtain ⟨e', he'⟩ : Nat.gcd e B ∣ e := Nat.gcd_dvd_left e B
  generalize hgg : Nat.gcd e B = g at *
  have hb0 : 0 < b' := Nat.pos_of_ne_zero (fun h => by subst h; omega)
  have he0 : 0 < e' := Nat.pos_of_ne_zero (fun h => by subst h; omega)
  have c1 : B / g = b' := by rw [hb', Nat.mul_div_cancel_left _ hg]
  have c2 : b' * e / e = b' := Nat.mul_div_cancel _ he
  have c3 : b' * e / B = e' := by
    have : b' * e = e' * B := by rw [hb', he']; simp only [Nat.mul_left_comm, Nat.mul_comm]
    rw [this, Nat.mul_div_cancel _ hB]
  rw [c1, c2, c3]
  have hC : 0 < b' * e := Nat.mul_pos hb0 he
  have hN : 0 < A * e' + d * b' := Nat.add_pos_right _ (Nat.mul_pos hd hb0)
  have hh : 0 < Nat.gcd (b' * e) (A * e' + d * b') := Nat.gcd_pos_of_pos_left _ hC
  obtain ⟨x, hx⟩ : Nat.gcd (b' * e) (A * e' + d * b') ∣ b' * e := Nat.gcd_dvd_left _ _
  obtain ⟨y, hy⟩ : Nat.gcd (b' * e) (A * e' + d * b') ∣ A * e' + d * b' := Nat.gcd_dvd_right _ _
  have key : (A * e' + d * b') * (B * e) = b' * e * (A * e + d * B) := by
    have k1 : B * e' = b' * e := by rw [hb', he']; simp only [Nat.mul_left_comm, Nat.mul_comm]
    calc (A * e' + d * b') * (B * e) = A * e * (B * e') + d * B * (b' * e) := by rw [Nat.add_mul]; congr 1 <;> simp only [Nat.mul_left_comm, Nat.mul_comm]
      _ = b' * e * (A * e + d * B) := by rw [k1, Nat.mul_add]; congr 1 <;> simp only [Nat.mul_left_comm, Nat.mul_comm]
  have hle : b' * e ≤ B * e := Nat.mul_le_mul_right _ (by rw [hb']; exact Nat.le_mul_of_pos_left _ hg)
  generalize hhh : Nat.gcd (b' * e) (A * e' + d * b') = h at *
  refine ⟨y, x, by rw [hx]; exact Nat.mul_div_cancel_left _ hh, by rw [hy]; exact Nat.mul_div_cancel_left _ hh, ?_, ?_, ?_, ?_⟩
  · exact Nat.pos_of_ne_zero (fun z => by subst z; omega)
  · exact Nat.pos_of_ne_zero (fun z => by subst z; omega)
  · exact Nat.le_trans (by rw [hx]; exact Nat.le_mul_of_pos_left _ hh) hle
  · rw [hx, hy] at key
    rw [Nat.mul_assoc, Nat.mul_assoc] at key
    exact Nat.eq_of_mul_eq_mul_left hh key
theorem load_loop {bs : List S54} (hb : ∀ b ∈ bs, okB b) (h4 : bs.length ≤ 4) (T : Nat) : ∀ (d k i A B : Nat), i + d = bs.length → 100000000 + d < k → 0 < B → B ≤ 23 ^ i → A ≤ i * B → shF bs T i ≤ A * T / B → A * T / B ≤ shF bs T i + i → (0 < i → 0 < A) →
    ∃ A' B' : Nat, impl_LoadOf.l0 k (A : Int) (B : Int) bs (bs.length : Int) (i : Int) = some ((A' : Int), (B' : Int), true) ∧ 0 < B' ∧ B' ≤ 23 ^ 4 ∧ A' ≤ 4 * B' ∧ (0 < bs.length → 0 < A') ∧ shF bs T bs.length ≤ A' * T / B' ∧ A' * T / B' ≤ shF bs T bs.length + 4 := by
  intro d
  induction d with
  | zero =>
    intro k i A B hi hk hB hB2 hA s1 s2 hpos
    obtain ⟨k, rfl⟩ : ∃ m, k = m + 1 := ⟨k - 1, by omega⟩
    obtain rfl : i = bs.length := by omega
    rw [impl_LoadOf.l0, if_neg (by omega)]
    refine ⟨A, B, rfl, hB, Nat.le_trans hB2 (Nat.pow_le_pow_right (by decide) h4), Nat.le_trans hA (Nat.mul_le_mul_right _ h4), hpos, s1, by omega⟩
  | succ d ih =>
    intro k i A B hi hk hB hB2 hA s1 s2 hpos
    obtain ⟨k, rfl⟩ : ∃ m, k = m + 1 := ⟨k - 1, by omega⟩
    have hlt : i < bs.length := by omega
    obtain ⟨-, -, ⟨d0, d1⟩, d2, d3⟩ := okB_rd hb (i : Int) (by omega) (by omega)
    rw [rd54] at d0 d1 d2 d3
    have hB3 : B ≤ 279841 := Nat.le_trans hB2 (Nat.le_trans (Nat.pow_le_pow_right (by decide) (show i ≤ 4 by omega)) (by decide))
    have hsh : shF bs T (i + 1) = shF bs T i + (bs.getD i z54).f1.toNat * T / (bs.getD i z54).f2.toNat := rfl
    rw [impl_LoadOf.l0, if_pos (by omega), if_pos (by omega), if_pos (by omega), rd54]
    obtain ⟨dd, hdd⟩ := Int.eq_ofNat_of_zero_le (show 0 ≤ (bs.getD i z54).f1 by omega)
    obtain ⟨ee, hee⟩ := Int.eq_ofNat_of_zero_le (show 0 ≤ (bs.getD i z54).f2 by omega)
    rw [hdd, hee, Int.toNat_natCast, Int.toNat_natCast] at hsh
    rw [hdd, hee]
    have hdd1 : 0 < dd ∧ dd ≤ 4 := by omega
    have hee1 : dd ≤ ee ∧ ee ≤ 23 := by omega
    obtain ⟨A', B', e1, e2, hB', hA', hle, hkey⟩ := load_step (A := A) (B := B) (d := dd) (e := ee) hB (by omega) (by omega)
    have hg : 0 < Nat.gcd ee B := Nat.gcd_pos_of_pos_left _ (by omega)
    have hBg : B / Nat.gcd ee B ≤ B := Nat.div_le_self _ _
    have hcm : B / Nat.gcd ee B * ee ≤ 279841 * 23 := Nat.mul_le_mul (by omega) hee1.2
    have hcp : 0 < B / Nat.gcd ee B * ee := Nat.mul_pos (Nat.div_pos (Nat.gcd_le_right _ hB) hg) (by omega)
    have hA3 : A ≤ 4 * 279841 := Nat.le_trans hA (Nat.mul_le_mul (by omega) hB3)
    rw [divisor_f k B ee (by omega), Option.bind_some, if_neg (by omega), tdiv_nat, w64n (by omega), ← Int.natCast_mul]
    generalize hcc : B / Nat.gcd ee B * ee = C at *
    have hC1 : C / B ≤ C := Nat.div_le_self _ _
    have hC2 : C / ee ≤ C := Nat.div_le_self _ _
    have hm1 : A * (C / B) ≤ 4 * 279841 * (279841 * 23) := Nat.mul_le_mul hA3 (by omega)
    have hm2 : dd * (C / ee) ≤ 4 * (279841 * 23) := Nat.mul_le_mul hdd1.2 (by omega)
    rw [w64n (n := C) (by omega), if_neg (by omega), if_neg (by omega), if_neg (by omega), tdiv_nat, tdiv_nat, w64n (n := C / B) (by omega), w64n (n := C / ee) (by omega), ← Int.natCast_mul, ← Int.natCast_mul, w64n (n := A * (C / B)) (by omega), w64n (n := dd * (C / ee)) (by omega), ← Int.natCast_add, w64n (n := A * (C / B) + dd * (C / ee)) (by omega), divisor_f k _ C (by omega), Option.bind_some]
    have hg2 : 0 < Nat.gcd C (A * (C / B) + dd * (C / ee)) := Nat.gcd_pos_of_pos_left _ hcp
    have hA'2 : A' ≤ A * (C / B) + dd * (C / ee) := by rw [← e2]; exact Nat.div_le_self _ _
    have hB'2 : B' ≤ C := by rw [← e1]; exact Nat.div_le_self _ _
    rw [if_neg (by omega), tdiv_nat, tdiv_nat, e1, e2, w64n (n := A') (by omega), w64n (n := B') (by omega), w64_succ hlt (by omega)]
    obtain ⟨f1, f2⟩ := frac_add (X := A' * T) (B' := B') (a := A * T) (B := B) (c := dd * T) (E := ee) hB (by omega) hB' (by
      have : A' * T * (B * ee) = T * (A' * (B * ee)) := by simp only [Nat.mul_left_comm, Nat.mul_comm]
      rw [this, hkey]
      have : A * T * ee + dd * T * B = T * (A * ee + dd * B) := by rw [Nat.mul_add]; congr 1 <;> simp only [Nat.mul_left_comm, Nat.mul_comm]
      rw [this]
      simp only [Nat.mul_left_comm])
    refine ih k (i + 1) A' B' (by omega) (by omega) hB' ?_ ?_ (by omega) (by omega) (fun _ => hA')
    · rw [Nat.pow_succ]
      exact Nat.le_trans hle (Nat.mul_le_mul hB2 hee1.2)
    · have hde : dd * B ≤ ee * B := Nat.mul_le_mul_right _ hee1.1
      have hAe : A * ee ≤ i * B * ee := Nat.mul_le_mul_right _ hA
      have hBe : 0 < B * ee := Nat.mul_pos hB (by omega)
      refine Nat.le_of_mul_le_mul_right ?_ hBe
      rw [hkey]
      have : (i + 1) * B' * (B * ee) = B' * (i * B * ee + ee * B) := by
        have : B' * (i * B * ee + ee * B) = B' * ((i + 1) * (B * ee)) := by
          congr 1
          rw [Nat.add_mul, Nat.one_mul, Nat.mul_assoc, Nat.mul_comm ee B]
        rw [this]
        simp only [Nat.mul_assoc, Nat.mul_left_comm]
      rw [this]
      exact Nat.mul_le_mul_left _ (by omega)
theorem load_val {bs : List S54} (hb : ∀ b ∈ bs, okB b) (h1 : 1 ≤ bs.length) (h4 : bs.length ≤ 4) (T : Nat) (k : Nat) (hk : 100000010 < k) :
    ∃ A B : Nat, impl_LoadOf.f k bs = some ((A : Int), (B : Int), true) ∧ 0 < B ∧ B ≤ 23 ^ 4 ∧ A ≤ 4 * B ∧ 0 < A ∧ shF bs T bs.length ≤ A * T / B ∧ A * T / B ≤ shF bs T bs.length + 4 := by
  unfold impl_LoadOf.f
  rw [areBeams_true hb h1 h4 k (by omega), Option.bind_some, if_pos rfl]
  obtain ⟨A, B, e, x1, x2, x3, x4, x5, x6⟩ := load_loop hb h4 T bs.length k 0 0 1 (by omega) (by omega) (by decide) (by decide) (by omega) (by simp [shF]) (by simp) (fun h => absurd h (by decide))
  exact ⟨A, B, e, x1, x2, x3, x4 h1, x5, x6⟩
end Go.Proofs.Ytekcngoemeadlaa.PlainZ
