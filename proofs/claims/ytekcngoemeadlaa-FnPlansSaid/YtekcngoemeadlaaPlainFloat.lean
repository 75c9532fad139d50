/-
  Numbers of double precision that are not negative: each is a whole multiple of the least one; sums, differences and quotients of small ones differ from the exact ones by little.
-/
import Derived.Laws.FloatArith
namespace Go.Proofs.Ytekcngoemeadlaa.PlainZ
open Ieee

/-- The word stands for V times 2^-1074. -/
def Val (w V : Nat) : Prop := ∃ m j : Nat, FloatKind.f64.decode w = .number false m (-1074 + (j : Int)) ∧ V = m * 2 ^ j
theorem read_rung (E kept : Nat) (hk : kept ≤ 2 ^ 53) (hE : E = 0 ∨ 2 ^ 52 ≤ kept) (hE2 : E ≤ 2000) : Val (E * 2 ^ 52 + kept) (kept * 2 ^ E) := by
  have e1 : Ieee.double.signWeight = 2 ^ 63 := rfl
  have e2 : Ieee.double.binade = 2 ^ 52 := rfl
  have e3 : Ieee.double.infRung = 2047 * 2 ^ 52 := rfl
  have e4 : Ieee.double.leastPlace = -1074 := rfl
  have hlt : E * 2 ^ 52 + kept < 2 ^ 63 := by omega
  have hd : FloatKind.f64.decode (E * 2 ^ 52 + kept) = Ieee.double.read (E * 2 ^ 52 + kept) := rfl
  have hneg : (E * 2 ^ 52 + kept) / 2 ^ 63 = 0 := Nat.div_eq_of_lt hlt
  unfold Val
  rw [hd]
  simp only [Format.read, e1, e2, e3, e4, hneg, Nat.mod_eq_of_lt hlt]
  by_cases h1 : E * 2 ^ 52 + kept < 2 ^ 52
  · obtain rfl : E = 0 := by omega
    exact ⟨kept, 0, by rw [if_pos h1]; simp, by simp⟩
  · rw [if_neg h1, if_pos (by omega)]
    rcases Nat.lt_or_ge kept (2 ^ 53) with hk1 | hk1
    · have hk0 : 2 ^ 52 ≤ kept := by omega
      have hq : (E * 2 ^ 52 + kept) / 2 ^ 52 = E + 1 := by omega
      have hr : (E * 2 ^ 52 + kept) % 2 ^ 52 = kept - 2 ^ 52 := by omega
      refine ⟨kept, E, ?_, rfl⟩
      rw [hq, hr, show 2 ^ 52 + (kept - 2 ^ 52) = kept by omega, show E + 1 - 1 = E by omega]
      rfl
    · obtain rfl : kept = 2 ^ 53 := by omega
      have hq : (E * 2 ^ 52 + 2 ^ 53) / 2 ^ 52 = E + 2 := by omega
      have hr : (E * 2 ^ 52 + 2 ^ 53) % 2 ^ 52 = 0 := by omega
      refine ⟨2 ^ 52, E + 1, ?_, by rw [Nat.pow_succ]; omega⟩
      rw [hq, hr, show E + 2 - 1 = E + 1 by omega]
      rfl
theorem log2_bd {n : Nat} (h : n ≠ 0) : 2 ^ n.log2 ≤ n ∧ n < 2 ^ (n.log2 + 1) := ⟨Nat.log2_self_le h, Nat.lt_log2_self⟩
theorem cut_zero (n : Nat) : Toward.even.cut false n 0 = n := by
  unfold Toward.cut
  simp [Nat.mod_one]
/-- A number cut to a whole one is off by less than one. -/
theorem cut_near (n d : Nat) : ∃ k, Toward.even.cut false n d = k ∧ k * 2 ^ d ≤ n + 2 ^ d ∧ n ≤ k * 2 ^ d + 2 ^ d := by
  refine ⟨_, rfl, ?_⟩
  unfold Toward.cut
  simp only [Nat.shiftLeft_eq, Nat.one_mul]
  rcases Nat.lt_or_ge (n.log2 + 2) d with h | h
  · rw [Nat.min_eq_right (by omega)]
    have hn : n < 2 ^ (n.log2 + 1) := Nat.lt_log2_self
    have hp : 2 ^ (n.log2 + 2) = 2 * 2 ^ (n.log2 + 1) := by rw [Nat.pow_succ 2 (n.log2 + 1)]; omega
    have h2 : 2 ^ (n.log2 + 2) ≤ 2 ^ d := Nat.pow_le_pow_right (by decide) (by omega)
    have hlow : n / 2 ^ (n.log2 + 2) = 0 := Nat.div_eq_of_lt (by omega)
    have hrest : n % 2 ^ (n.log2 + 2) = n := Nat.mod_eq_of_lt (by omega)
    have hb1 : decide (2 ^ (n.log2 + 2) < 2 * n) = false := decide_eq_false (by omega)
    have hb2 : (2 ^ (n.log2 + 2) == 2 * n) = false := by simp; omega
    rw [hlow, hrest, hb1, hb2]
    simp
    omega
  · rw [Nat.min_eq_left h]
    have hpos : 0 < 2 ^ d := Nat.two_pow_pos d
    have hdm := Nat.div_add_mod n (2 ^ d)
    have hm := Nat.mod_lt n hpos
    generalize (decide (2 ^ d < 2 * (n % 2 ^ d)) || 2 ^ d == 2 * (n % 2 ^ d) && n / 2 ^ d % 2 == 1) = b
    rw [Nat.mul_comm] at hdm
    generalize hq : n / 2 ^ d * 2 ^ d = q at hdm
    cases b
    · simp only [Bool.toNat_false, Nat.add_zero, hq]; omega
    · simp only [Bool.toNat_true, Nat.add_mul, Nat.one_mul, hq]; omega
/-- A number written as the nearest word: at the place p (above the least one by p), it is off by at most 2^1026 times the least one, if it is at most 16; a whole number of at most 53 digits is written as it is. -/
theorem nearest_near (mag p : Nat) (h : mag * 2 ^ p ≤ 16 * 2 ^ 1074) : ∃ V, Val (FloatKind.f64.encode (.number false mag (-1074 + (p : Int)))) V ∧ V ≤ mag * 2 ^ p + 2 ^ 1026 ∧ mag * 2 ^ p ≤ V + 2 ^ 1026 := by
  have e0 : FloatKind.f64.encode (.number false mag (-1074 + (p : Int))) = Ieee.double.nearest false mag (-1074 + (p : Int)) := rfl
  have e1 : Ieee.double.fractionBits = 52 := rfl
  have e2 : Ieee.double.binade = 2 ^ 52 := rfl
  have e3 : Ieee.double.infRung = 2047 * 2 ^ 52 := rfl
  have e4 : Ieee.double.leastPlace = -1074 := rfl
  rw [e0]
  obtain ⟨U, hU, hUE⟩ : ∃ U, U = 2 ^ 1026 ∧ ∀ E : Nat, E ≤ 1026 → 2 ^ E ≤ U := ⟨2 ^ 1026, rfl, fun E h => Nat.pow_le_pow_right (n := 2) (by decide) h⟩
  rw [← hU]
  clear hU
  unfold Format.nearest
  by_cases h0 : mag = 0
  · subst h0
    rw [if_pos rfl]
    refine ⟨0, ?_, by omega, by omega⟩
    have := read_rung 0 0 (by omega) (.inl rfl) (by omega)
    simpa [Format.word] using this
  · rw [if_neg h0]
    obtain ⟨l1, l2⟩ := log2_bd h0
    generalize hl : mag.log2 = L at *
    -- the number is at most 16, so its first digit stands at most at the place 4
    have hLp : L + p ≤ 1078 := by
      rcases Nat.lt_or_ge (L + p) 1079 with h' | h'
      · exact Nat.le_of_lt_succ h'
      · exfalso
        have a1 : 2 ^ (L + p) ≤ mag * 2 ^ p := by rw [Nat.pow_add]; exact Nat.mul_le_mul_right _ l1
        have a2 := Nat.le_trans a1 h
        obtain ⟨k, hk⟩ : ∃ k, L + p = 1074 + (5 + k) := ⟨L + p - 1079, by clear h a1 a2; omega⟩
        rw [hk, Nat.pow_add] at a2
        clear h a1
        have a3 := Nat.two_pow_pos 1074
        generalize 2 ^ 1074 = T at *
        have a4 : 2 ^ (5 + k) = 32 * 2 ^ k := Nat.pow_add 2 5 k
        have a5 := Nat.two_pow_pos k
        rw [a4] at a2
        have a6 : T * 32 ≤ T * (32 * 2 ^ k) := Nat.mul_le_mul_left T (by omega)
        omega
    clear h
    simp only [e1, e2, e3, e4]
    rcases Nat.lt_or_ge (L + p) 52 with hs | hs
    · -- below the least exponent: written at the least place
      have hlast : max (-1074 + (p : Int) + (L : Int) - ((52 : Nat) : Int)) (-1074) = -1074 := by omega
      rw [hlast, show (-1074 + (p : Int) - -1074).toNat = p by omega, show (-1074 - (-1074 + (p : Int))).toNat = 0 by omega, cut_zero, show ((-1074 : Int) - -1074).toNat = 0 by omega, Nat.shiftLeft_eq]
      have hlt : mag * 2 ^ p < 2 ^ 52 := by
        have a1 : mag * 2 ^ p < 2 ^ (L + 1) * 2 ^ p := Nat.mul_lt_mul_of_pos_right l2 (Nat.two_pow_pos p)
        have a2 : 2 ^ (L + 1) * 2 ^ p = 2 ^ (L + 1 + p) := (Nat.pow_add 2 (L + 1) p).symm
        have a3 : 2 ^ (L + 1 + p) ≤ 2 ^ 52 := Nat.pow_le_pow_right (by decide) (by omega)
        omega
      refine ⟨mag * 2 ^ p, ?_, Nat.le_add_right _ _, Nat.le_add_right _ _⟩
      rw [Nat.min_eq_left (show 0 * 2 ^ 52 + mag * 2 ^ p ≤ 2047 * 2 ^ 52 by rw [Nat.zero_mul, Nat.zero_add]; exact Nat.le_trans (Nat.le_of_lt hlt) (by decide))]
      have := read_rung 0 (mag * 2 ^ p) (Nat.le_trans (Nat.le_of_lt hlt) (by decide)) (.inl rfl) (by decide)
      simpa [Format.word] using this
    · obtain ⟨E, hE⟩ : ∃ E, L + p = 52 + E := ⟨L + p - 52, by omega⟩
      have hlast : max (-1074 + (p : Int) + (L : Int) - ((52 : Nat) : Int)) (-1074) = -1074 + (E : Int) := by omega
      rw [hlast, show (-1074 + (E : Int) - -1074).toNat = E by omega, Nat.shiftLeft_eq]
      rcases Nat.lt_or_ge p E with hpe | hpe
      · rw [show (-1074 + (p : Int) - (-1074 + (E : Int))).toNat = 0 by omega, show (-1074 + (E : Int) - (-1074 + (p : Int))).toNat = E - p by omega, Nat.pow_zero, Nat.mul_one]
        obtain ⟨k, hk, k1, k2⟩ := cut_near mag (E - p)
        rw [hk]
        have hLe : L = 52 + (E - p) := by omega
        have kge : 2 ^ 52 ≤ k := by
          have hdv : 2 ^ 52 ≤ mag / 2 ^ (E - p) := by
            rw [Nat.le_div_iff_mul_le (Nat.two_pow_pos _), ← Nat.pow_add, ← hLe]; exact l1
          rw [← hk]
          unfold Toward.cut
          simp only [Nat.shiftLeft_eq, Nat.one_mul]
          rw [Nat.min_eq_left (by omega)]
          exact Nat.le_trans hdv (Nat.le_add_right _ _)
        have kle : k ≤ 2 ^ 53 := by
          have hlt : mag < 2 ^ 53 * 2 ^ (E - p) := by rw [← Nat.pow_add]; rw [show 53 + (E - p) = L + 1 by omega]; exact l2
          have hpos := Nat.two_pow_pos (E - p)
          rcases Nat.lt_or_ge (2 ^ 53) k with hc | hc
          · exfalso
            have a1 : (2 ^ 53 + 1) * 2 ^ (E - p) ≤ k * 2 ^ (E - p) := Nat.mul_le_mul_right _ hc
            rw [Nat.add_mul, Nat.one_mul] at a1
            omega
          · exact hc
        rw [Nat.min_eq_left (by omega)]
        refine ⟨k * 2 ^ E, ?_, ?_, ?_⟩
        · have := read_rung E k kle (.inr kge) (by omega)
          simpa [Format.word] using this
        · have a1 : k * 2 ^ E = k * 2 ^ (E - p) * 2 ^ p := by rw [Nat.mul_assoc, ← Nat.pow_add]; congr 2; omega
          have a2 : 2 ^ E = 2 ^ (E - p) * 2 ^ p := by rw [← Nat.pow_add]; congr 1; omega
          have a3 : k * 2 ^ (E - p) * 2 ^ p ≤ (mag + 2 ^ (E - p)) * 2 ^ p := Nat.mul_le_mul_right _ k1
          rw [Nat.add_mul] at a3
          have a4 := hUE E (by omega)
          omega
        · have a1 : k * 2 ^ E = k * 2 ^ (E - p) * 2 ^ p := by rw [Nat.mul_assoc, ← Nat.pow_add]; congr 2; omega
          have a2 : 2 ^ E = 2 ^ (E - p) * 2 ^ p := by rw [← Nat.pow_add]; congr 1; omega
          have a3 : mag * 2 ^ p ≤ (k * 2 ^ (E - p) + 2 ^ (E - p)) * 2 ^ p := Nat.mul_le_mul_right _ k2
          rw [Nat.add_mul] at a3
          have a4 := hUE E (by omega)
          omega
      · rw [show (-1074 + (p : Int) - (-1074 + (E : Int))).toNat = p - E by omega, show (-1074 + (E : Int) - (-1074 + (p : Int))).toNat = 0 by omega, cut_zero]
        have kge : 2 ^ 52 ≤ mag * 2 ^ (p - E) := by
          have a1 : 2 ^ L * 2 ^ (p - E) ≤ mag * 2 ^ (p - E) := Nat.mul_le_mul_right _ l1
          rw [← Nat.pow_add, show L + (p - E) = 52 by omega] at a1
          exact a1
        have kle : mag * 2 ^ (p - E) < 2 ^ 53 := by
          have a1 : mag * 2 ^ (p - E) < 2 ^ (L + 1) * 2 ^ (p - E) := Nat.mul_lt_mul_of_pos_right l2 (Nat.two_pow_pos _)
          rw [← Nat.pow_add, show L + 1 + (p - E) = 53 by omega] at a1
          exact a1
        rw [Nat.min_eq_left (by omega)]
        have a5 : mag * 2 ^ (p - E) * 2 ^ E = mag * 2 ^ p := by rw [Nat.mul_assoc, ← Nat.pow_add]; congr 2; omega
        refine ⟨mag * 2 ^ (p - E) * 2 ^ E, ?_, by omega, by omega⟩
        have := read_rung E (mag * 2 ^ (p - E)) (by omega) (.inr kge) (by omega)
        simpa [Format.word] using this
/-- V is off from X by at most as much as one writing can be. -/
def Near (V X D : Nat) : Prop := V ≤ X + D ∧ X ≤ V + D
theorem common (m a n b : Nat) : m * 2 ^ a = m * 2 ^ (a - min a b) * 2 ^ min a b ∧ n * 2 ^ b = n * 2 ^ (b - min a b) * 2 ^ min a b := by
  constructor
  · rw [Nat.mul_assoc, ← Nat.pow_add]; congr 2; omega
  · rw [Nat.mul_assoc, ← Nat.pow_add]; congr 2; omega
theorem base_min (a b : Nat) : min (-1074 + (a : Int)) (-1074 + (b : Int)) = -1074 + ((min a b : Nat) : Int) := by omega
theorem up_a (a b : Nat) : (-1074 + (a : Int) - (-1074 + ((min a b : Nat) : Int))).toNat = a - min a b := by omega
theorem up_b (a b : Nat) : (-1074 + (b : Int) - (-1074 + ((min a b : Nat) : Int))).toNat = b - min a b := by omega
theorem add_near {w1 w2 V1 V2 : Nat} (h1 : Val w1 V1) (h2 : Val w2 V2) (h : V1 + V2 ≤ 16 * 2 ^ 1074) : ∃ w V, floatBits .add .f64 w1 w2 = some w ∧ Val w V ∧ Near V (V1 + V2) (2 ^ 1026) := by
  obtain ⟨m, a, d1, rfl⟩ := h1
  obtain ⟨n, b, d2, rfl⟩ := h2
  obtain ⟨c1, c2⟩ := common m a n b
  have hs : m * 2 ^ a + n * 2 ^ b = (m * 2 ^ (a - min a b) + n * 2 ^ (b - min a b)) * 2 ^ min a b := by rw [c1, c2, Nat.add_mul]
  rw [hs] at h
  obtain ⟨V, v1, v2, v3⟩ := nearest_near _ _ h
  refine ⟨_, V, ?_, v1, by rw [hs]; exact ⟨v2, v3⟩⟩
  have e1 : FloatKind.f64.format.read w1 = .number false m (-1074 + (a : Int)) := d1
  have e2 : FloatKind.f64.format.read w2 = .number false n (-1074 + (b : Int)) := d2
  show (Datum.sum (FloatKind.f64.format.read w1) (FloatKind.f64.format.read w2)).map FloatKind.f64.format.write = _
  rw [e1, e2]
  simp only [Datum.sum, base_min, up_a, up_b, signed, Nat.shiftLeft_eq, Bool.false_eq_true, if_false, Option.map_some]
  rw [← Int.natCast_add, Int.natAbs_natCast]
  have hb : (if ((m * 2 ^ (a - min a b) + n * 2 ^ (b - min a b) : Nat) : Int) = 0 then (false && false) else decide (((m * 2 ^ (a - min a b) + n * 2 ^ (b - min a b) : Nat) : Int) < 0)) = false := by
    split
    · rfl
    · exact decide_eq_false (by omega)
  rw [hb]
  rfl
theorem sub_near {w1 w2 V1 V2 : Nat} (h1 : Val w1 V1) (h2 : Val w2 V2) (hle : V2 ≤ V1) (h : V1 ≤ 16 * 2 ^ 1074) : ∃ w V, floatBits .sub .f64 w1 w2 = some w ∧ Val w V ∧ Near V (V1 - V2) (2 ^ 1026) := by
  obtain ⟨m, a, d1, rfl⟩ := h1
  obtain ⟨n, b, d2, rfl⟩ := h2
  obtain ⟨c1, c2⟩ := common m a n b
  have hle2 : n * 2 ^ (b - min a b) ≤ m * 2 ^ (a - min a b) := by
    rw [c1, c2] at hle
    exact Nat.le_of_mul_le_mul_right hle (Nat.two_pow_pos _)
  have hs : m * 2 ^ a - n * 2 ^ b = (m * 2 ^ (a - min a b) - n * 2 ^ (b - min a b)) * 2 ^ min a b := by rw [c1, c2, Nat.sub_mul]
  have h' : (m * 2 ^ (a - min a b) - n * 2 ^ (b - min a b)) * 2 ^ min a b ≤ 16 * 2 ^ 1074 := by
    rw [← hs]; exact Nat.le_trans (Nat.sub_le _ _) h
  obtain ⟨V, v1, v2, v3⟩ := nearest_near _ _ h'
  refine ⟨_, V, ?_, v1, by rw [hs]; exact ⟨v2, v3⟩⟩
  have e1 : FloatKind.f64.format.read w1 = .number false m (-1074 + (a : Int)) := d1
  have e2 : FloatKind.f64.format.read w2 = .number false n (-1074 + (b : Int)) := d2
  show (Datum.sum (FloatKind.f64.format.read w1) (FloatKind.f64.format.read w2).opposite).map FloatKind.f64.format.write = _
  rw [e1, e2]
  clear h h' hle c1 c2 hs v1 v2 v3
  simp only [Datum.opposite, Datum.sum, base_min, up_a, up_b, signed, Nat.shiftLeft_eq, Bool.false_eq_true, if_false, if_true, Bool.not_false, Option.map_some]
  generalize m * 2 ^ (a - min a b) = x at *
  generalize n * 2 ^ (b - min a b) = y at *
  have hx : (x : Int) + -(y : Int) = ((x - y : Nat) : Int) := by omega
  rw [hx, Int.natAbs_natCast]
  have hb : (if ((x - y : Nat) : Int) = 0 then (false && true) else decide (((x - y : Nat) : Int) < 0)) = false := by
    split
    · rfl
    · exact decide_eq_false (by omega)
  rw [hb]
  rfl
theorem order_val {w1 w2 V1 V2 : Nat} (h1 : Val w1 V1) (h2 : Val w2 V2) : FloatKind.f64.format.order w1 w2 = some (compare V1 V2) := by
  obtain ⟨m, a, d1, rfl⟩ := h1
  obtain ⟨n, b, d2, rfl⟩ := h2
  obtain ⟨c1, c2⟩ := common m a n b
  have e1 : FloatKind.f64.format.read w1 = .number false m (-1074 + (a : Int)) := d1
  have e2 : FloatKind.f64.format.read w2 = .number false n (-1074 + (b : Int)) := d2
  show Datum.order (FloatKind.f64.format.read w1) (FloatKind.f64.format.read w2) = _
  rw [e1, e2]
  simp only [Datum.order, base_min, up_a, up_b, signed, Nat.shiftLeft_eq, Bool.false_eq_true, if_false]
  rw [c1, c2]
  have hp := Nat.two_pow_pos (min a b)
  generalize m * 2 ^ (a - min a b) = x
  generalize n * 2 ^ (b - min a b) = y
  generalize 2 ^ min a b = z at *
  congr 1
  simp only [compare, compareOfLessAndEq]
  have i1 : ((x : Int) < (y : Int)) ↔ x * z < y * z := by rw [Int.ofNat_lt]; exact (Nat.mul_lt_mul_right hp).symm
  have i2 : ((x : Int) = (y : Int)) ↔ x * z = y * z := by
    rw [Int.ofNat_inj]; exact ⟨fun h => by rw [h], fun h => Nat.eq_of_mul_eq_mul_right hp h⟩
  by_cases g1 : (x : Int) < y
  · rw [if_pos g1, if_pos (i1.1 g1)]
  · rw [if_neg g1, if_neg (fun h => g1 (i1.2 h))]
    by_cases g2 : (x : Int) = y
    · rw [if_pos g2, if_pos (i2.1 g2)]
    · rw [if_neg g2, if_neg (fun h => g2 (i2.2 h))]
theorem lt_val {w1 w2 V1 V2 : Nat} (h1 : Val w1 V1) (h2 : Val w2 V2) : (FloatKind.f64.format.order w1 w2 == some .lt) = decide (V1 < V2) := by
  rw [order_val h1 h2]
  simp only [compare, compareOfLessAndEq]
  by_cases g1 : V1 < V2
  · rw [if_pos g1, decide_eq_true g1]; rfl
  · rw [if_neg g1, decide_eq_false g1]
    by_cases g2 : V1 = V2
    · rw [if_pos g2]; rfl
    · rw [if_neg g2]; rfl
theorem gt_val {w1 w2 V1 V2 : Nat} (h1 : Val w1 V1) (h2 : Val w2 V2) : (FloatKind.f64.format.order w1 w2 == some .gt) = decide (V2 < V1) := by
  rw [order_val h1 h2]
  simp only [compare, compareOfLessAndEq]
  by_cases g1 : V1 < V2
  · rw [if_pos g1, decide_eq_false (by omega)]; rfl
  · rw [if_neg g1]
    by_cases g2 : V1 = V2
    · rw [if_pos g2, decide_eq_false (by omega)]; rfl
    · rw [if_neg g2, decide_eq_true (by omega)]; rfl
/-- What the word of a whole number of at most 53 digits stands for. -/
theorem int_read {n : Nat} (h0 : n ≠ 0) (h : n < 2 ^ 53) : FloatKind.f64.decode (floatOfInt .f64 (n : Int)) = .number false (n * 2 ^ (52 - n.log2)) ((n.log2 : Int) - 52) ∧ n.log2 ≤ 52 ∧ 2 ^ 52 ≤ n * 2 ^ (52 - n.log2) ∧ n * 2 ^ (52 - n.log2) < 2 ^ 53 := by
  obtain ⟨l1, l2⟩ := log2_bd h0
  generalize hL : n.log2 = L at *
  have hL52 : L ≤ 52 := by
    rcases Nat.lt_or_ge L 53 with h' | h'
    · omega
    · exfalso
      have := Nat.pow_le_pow_right (n := 2) (by decide) h'
      omega
  have kge : 2 ^ 52 ≤ n * 2 ^ (52 - L) := by
    have a1 : 2 ^ L * 2 ^ (52 - L) ≤ n * 2 ^ (52 - L) := Nat.mul_le_mul_right _ l1
    rw [← Nat.pow_add, show L + (52 - L) = 52 by omega] at a1
    exact a1
  have klt : n * 2 ^ (52 - L) < 2 ^ 53 := by
    have a1 : n * 2 ^ (52 - L) < 2 ^ (L + 1) * 2 ^ (52 - L) := Nat.mul_lt_mul_of_pos_right l2 (Nat.two_pow_pos _)
    rw [← Nat.pow_add, show L + 1 + (52 - L) = 53 by omega] at a1
    exact a1
  refine ⟨?_, hL52, kge, klt⟩
  have e0 : floatOfInt .f64 (n : Int) = Ieee.double.nearest (decide ((n : Int) < 0)) (n : Int).natAbs 0 := rfl
  have e1 : Ieee.double.fractionBits = 52 := rfl
  have e2 : Ieee.double.binade = 2 ^ 52 := rfl
  have e3 : Ieee.double.infRung = 2047 * 2 ^ 52 := rfl
  have e4 : Ieee.double.leastPlace = -1074 := rfl
  have e5 : Ieee.double.signWeight = 2 ^ 63 := rfl
  rw [e0, Int.natAbs_natCast, decide_eq_false (show ¬ (n : Int) < 0 by omega)]
  have hlast : max (0 + (L : Int) - ((52 : Nat) : Int)) (-1074) = (L : Int) - 52 := by omega
  unfold Format.nearest
  rw [if_neg h0]
  simp only [e1, e2, e3, e4, hL, hlast]
  rw [show (0 - ((L : Int) - 52)).toNat = 52 - L by omega, show ((L : Int) - 52 - 0).toNat = 0 by omega, cut_zero, show ((L : Int) - 52 - -1074).toNat = L + 1022 by omega, Nat.shiftLeft_eq]
  generalize n * 2 ^ (52 - L) = kept at *
  rw [Nat.min_eq_left (by omega)]
  have hd : FloatKind.f64.decode (Ieee.double.word false ((L + 1022) * 2 ^ 52 + kept)) = Ieee.double.read ((L + 1022) * 2 ^ 52 + kept) := rfl
  have hlt : (L + 1022) * 2 ^ 52 + kept < 2 ^ 63 := by omega
  rw [hd]
  simp only [Format.read, e2, e3, e4, e5, Nat.div_eq_of_lt hlt, Nat.mod_eq_of_lt hlt]
  rw [if_neg (by omega), if_pos (by omega), show ((L + 1022) * 2 ^ 52 + kept) / 2 ^ 52 = L + 1023 by omega, show ((L + 1022) * 2 ^ 52 + kept) % 2 ^ 52 = kept - 2 ^ 52 by omega, show 2 ^ 52 + (kept - 2 ^ 52) = kept by omega, show L + 1023 - 1 = L + 1022 by omega, show (-1074 : Int) + ((L + 1022 : Nat) : Int) = (L : Int) - 52 by omega]
  rfl
theorem quot_mul (D n : Nat) (h : 0 < n) : (2 * (D / n) + (D % n != 0).toNat) * n ≤ 2 * D + n ∧ 2 * D ≤ (2 * (D / n) + (D % n != 0).toNat) * n + n := by
  have hdm := Nat.div_add_mod D n
  have hm := Nat.mod_lt D h
  generalize D % n = r at *
  generalize hq : D / n = q at *
  have hx : 2 * q * n = 2 * (n * q) := by rw [Nat.mul_assoc, Nat.mul_comm q n]
  rw [Nat.add_mul, hx]
  generalize n * q = y at *
  by_cases hr : r = 0
  · subst hr; simp; omega
  · have : (r != 0) = true := by simp [hr]
    rw [this]
    simp only [Bool.toNat_true, Nat.one_mul]
    omega
theorem norm_log2 {m : Nat} (h1 : 2 ^ 52 ≤ m) (h2 : m < 2 ^ 53) : m.log2 = 52 := (Nat.log2_eq_iff (by omega)).2 ⟨h1, h2⟩
theorem quo_end {b V Q U X BP : Nat} (v2 : V ≤ Q + U) (v3 : Q ≤ V + U) (j1 : b * Q ≤ X + BP) (j2 : X ≤ b * Q + BP) (h : BP ≤ b * U) : Near (b * V) X (b * (2 * U)) := by
  have c3 := Nat.mul_le_mul_left b v2
  have c4 := Nat.mul_le_mul_left b v3
  rw [Nat.mul_add] at c3 c4
  unfold Near
  rw [Nat.mul_left_comm b 2, Nat.two_mul]
  omega
/-- A quotient of whole numbers that is at most 8: its word is near it. -/
theorem quo_near {a b : Nat} (ha : a ≠ 0) (hb : b ≠ 0) (ha2 : a < 2 ^ 53) (hb2 : b < 2 ^ 53) (hab : a ≤ 8 * b) :
    ∃ w V, floatBits .quo .f64 (floatOfInt .f64 (a : Int)) (floatOfInt .f64 (b : Int)) = some w ∧ Val w V ∧ Near (b * V) (a * 2 ^ 1074) (b * (2 * 2 ^ 1026)) := by
  obtain ⟨r1, la, m1, m2⟩ := int_read ha ha2
  obtain ⟨r2, lb, n1, n2⟩ := int_read hb hb2
  have hlab : a.log2 ≤ b.log2 + 3 := by
    obtain ⟨x1, -⟩ := log2_bd ha
    obtain ⟨-, y2⟩ := log2_bd hb
    rcases Nat.lt_or_ge (b.log2 + 3) a.log2 with h | h
    · exfalso
      have := Nat.pow_le_pow_right (n := 2) (by decide) (show b.log2 + 1 + 3 ≤ a.log2 by omega)
      rw [Nat.pow_add] at this
      omega
    · exact h
  have hlm := norm_log2 m1 m2
  have hln := norm_log2 n1 n2
  generalize hLa : a.log2 = La at *
  generalize hLb : b.log2 = Lb at *
  obtain ⟨P, hP⟩ : ∃ P : Nat, P + Lb = 1019 + La := ⟨1019 + La - Lb, by omega⟩
  obtain ⟨k1, k2⟩ := quot_mul (a * 2 ^ (52 - La) * 2 ^ 54) (b * 2 ^ (52 - Lb)) (by omega)
  generalize hq : 2 * (a * 2 ^ (52 - La) * 2 ^ 54 / (b * 2 ^ (52 - Lb))) + (a * 2 ^ (52 - La) * 2 ^ 54 % (b * 2 ^ (52 - Lb)) != 0).toNat = q at *
  have p1 : b * 2 ^ (52 - Lb) * 2 ^ (967 + La) = b * 2 ^ P := by rw [Nat.mul_assoc, ← Nat.pow_add]; congr 2; omega
  have p2 : 2 * (a * 2 ^ (52 - La) * 2 ^ 54) * 2 ^ (967 + La) = a * 2 ^ 1074 := by
    have : 2 * (a * 2 ^ (52 - La) * 2 ^ 54) * 2 ^ (967 + La) = a * (2 ^ 1 * 2 ^ (52 - La) * 2 ^ 54 * 2 ^ (967 + La)) := by
      rw [Nat.pow_one]
      simp only [Nat.mul_assoc, Nat.mul_left_comm]
    rw [this, ← Nat.pow_add, ← Nat.pow_add, ← Nat.pow_add]
    congr 2
    omega
  have j1 : b * (q * 2 ^ P) ≤ a * 2 ^ 1074 + b * 2 ^ P := by
    have := Nat.mul_le_mul_right (2 ^ (967 + La)) k1
    rw [Nat.add_mul, p1, p2, Nat.mul_assoc, p1, Nat.mul_left_comm] at this
    exact this
  have j2 : a * 2 ^ 1074 ≤ b * (q * 2 ^ P) + b * 2 ^ P := by
    have := Nat.mul_le_mul_right (2 ^ (967 + La)) k2
    rw [Nat.add_mul, p1, p2, Nat.mul_assoc, p1, Nat.mul_left_comm] at this
    exact this
  have hPU := Nat.pow_le_pow_right (n := 2) (by decide) (show P ≤ 1026 by omega)
  have hPT := Nat.pow_le_pow_right (n := 2) (by decide) (show P ≤ 1074 by omega)
  have hle : q * 2 ^ P ≤ 16 * 2 ^ 1074 := by
    have b1 : b * (q * 2 ^ P) ≤ b * (9 * 2 ^ 1074) := by
      clear hPU p2 j2 k1 k2 p1
      generalize 2 ^ 1074 = T at *
      have c1 : a * T ≤ 8 * b * T := Nat.mul_le_mul_right T hab
      have c2 : b * 2 ^ P ≤ b * T := Nat.mul_le_mul_left b hPT
      have c3 : b * (9 * T) = 8 * b * T + b * T := by rw [Nat.mul_left_comm, Nat.mul_assoc]; omega
      omega
    have b2 := Nat.le_of_mul_le_mul_left b1 (Nat.pos_of_ne_zero hb)
    clear hPU p2 j2 k1 k2 p1 j1 b1 hPT
    generalize 2 ^ 1074 = T at *
    omega
  obtain ⟨V, v1, v2, v3⟩ := nearest_near q P hle
  refine ⟨_, V, ?_, v1, ?_⟩
  · have e1 : FloatKind.f64.format.read (floatOfInt .f64 (a : Int)) = .number false (a * 2 ^ (52 - La)) ((La : Int) - 52) := r1
    have e2 : FloatKind.f64.format.read (floatOfInt .f64 (b : Int)) = .number false (b * 2 ^ (52 - Lb)) ((Lb : Int) - 52) := r2
    show (Datum.quotient (52 + 2) (FloatKind.f64.format.read (floatOfInt .f64 (a : Int))) (FloatKind.f64.format.read (floatOfInt .f64 (b : Int)))).map FloatKind.f64.format.write = _
    rw [e1, e2]
    simp only [Datum.quotient]
    rw [if_neg (by omega), hlm, hln, Nat.shiftLeft_eq, show 52 + 2 + 52 - 52 = 54 from rfl, hq, show (La : Int) - 52 - ((Lb : Int) - 52) - ((54 : Nat) : Int) - 1 = -1074 + (P : Int) by omega]
    rfl
  · clear hle hPT p2 k1 k2 p1 v1
    generalize 2 ^ 1026 = U at *
    generalize 2 ^ 1074 = T at *
    exact quo_end v2 v3 j1 j2 (Nat.mul_le_mul_left b hPU)
/-- All that the law of plans asks of floats, the two powers left as letters. -/
def World2 (U T : Nat) : Prop := 1 ≤ U ∧ T = 2 ^ 48 * U ∧
    (∀ w1 w2 V1 V2 : Nat, Val w1 V1 → Val w2 V2 → V1 + V2 ≤ 16 * T → ∃ w V, floatBits .add .f64 w1 w2 = some w ∧ Val w V ∧ Near V (V1 + V2) U) ∧
    (∀ w1 w2 V1 V2 : Nat, Val w1 V1 → Val w2 V2 → V2 ≤ V1 → V1 ≤ 16 * T → ∃ w V, floatBits .sub .f64 w1 w2 = some w ∧ Val w V ∧ Near V (V1 - V2) U) ∧
    (∀ a b : Nat, a ≠ 0 → b ≠ 0 → a < 2 ^ 53 → b < 2 ^ 53 → a ≤ 8 * b → ∃ w V, floatBits .quo .f64 (floatOfInt .f64 (a : Int)) (floatOfInt .f64 (b : Int)) = some w ∧ Val w V ∧ Near (b * V) (a * T) (b * (2 * U))) ∧
    (∃ C, Val 4517329193108106637 C ∧ 60 * U < C) ∧ Val 0 0
theorem world_big (X Y U : Nat) (hX : 1 ≤ X) (hU : U = Y * X) (hY : Y = 2 ^ 24) : 60 * U < 4722366482869645 * X := by
  subst hU
  subst hY
  omega
theorem pow_split (a b n : Nat) (h : a + b = n) : 2 ^ n = 2 ^ a * 2 ^ b := by subst h; exact Nat.pow_add 2 a b
theorem const_val (X : Nat) (hX : 2 ^ 1002 = X) : Val 4517329193108106637 (4722366482869645 * X) := ⟨4722366482869645, 1002, by kernel_rfl, by rw [hX]⟩
theorem world_of (U T X : Nat) (hU : 2 ^ 1026 = U) (hT : 2 ^ 1074 = T) (hX : 2 ^ 1002 = X) : World2 U T := by
  have hp := Nat.two_pow_pos 1026
  rw [hU] at hp
  have hX1 := Nat.two_pow_pos 1002
  rw [hX] at hX1
  have h2 := pow_split 48 1026 1074 rfl
  rw [hT, hU] at h2
  have h3 := pow_split 24 1002 1026 rfl
  rw [hU, hX] at h3
  refine ⟨hp, h2, fun w1 w2 V1 V2 h1 h2 h => ?_, fun w1 w2 V1 V2 h1 h2 h h' => ?_, fun a b ha hb ha2 hb2 hab => ?_, ⟨_, const_val X hX, ?_⟩, ⟨0, 0, by kernel_rfl, rfl⟩⟩
  · rw [← hT] at h
    obtain ⟨w, V, e1, e2, e3⟩ := add_near h1 h2 h
    rw [hU] at e3
    exact ⟨w, V, e1, e2, e3⟩
  · rw [← hT] at h'
    obtain ⟨w, V, e1, e2, e3⟩ := sub_near h1 h2 h h'
    rw [hU] at e3
    exact ⟨w, V, e1, e2, e3⟩
  · obtain ⟨w, V, e1, e2, e3⟩ := quo_near ha hb ha2 hb2 hab
    rw [hU, hT] at e3
    exact ⟨w, V, e1, e2, e3⟩
  · exact world_big X (2 ^ 24) U hX1 h3 rfl
theorem float_world : ∃ U T : Nat, World2 U T := ⟨_, _, world_of _ _ _ rfl rfl rfl⟩
end Go.Proofs.Ytekcngoemeadlaa.PlainZ
