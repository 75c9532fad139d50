/-
  One snapshot: both programs come to the same row.
-/
import Derived.Test.YtncckihaacceaaaSx3
import Derived.Test.YtncckihaacceaaaSx4
import Derived.Test.YtncckihaacceaaaSnA
import Derived.Test.YtncckihaacceaaaSnB
namespace Go.Proofs.Ytncckihaacceaaa.SnP
open Ieee Go.RowKit Go.Proofs.YtncckihaacceaaaW.PrintWords Go.Proofs.YtncckihaacceaaaW.PrintLast Go.Proofs.YtncckihaacceaaaW.PrintMore
open Go.Proofs.Ytncckihaacceaaa.S Go.Proofs.Ytncckihaacceaaa.PlainP

/-- The phasor of n 4096ths of a turn. -/
def ph (n : Int) : C64 := (spec_l01Phasor.f 30 (fq .quo .f64 (floatOfInt .f64 n) 4661225614328463360)).getD c64z
def PhOk (y : C64) : Prop := ∃ T : Nat, T = 1062 ∧ PhB T y
theorem ph_ok {n : Int} (hn : n.natAbs ≤ 524288) : FOk .quo .f64 (floatOfInt .f64 n) 4661225614328463360 = true ∧ (∀ k, impl_PhasorOf.f (k + 30) (fq .quo .f64 (floatOfInt .f64 n) 4661225614328463360) = some (ph n)) ∧ (∀ k, spec_l01Phasor.f (k + 30) (fq .quo .f64 (floatOfInt .f64 n) 4661225614328463360) = some (ph n)) ∧ PhOk (ph n) := by
  obtain ⟨h0, y, h1, h2, h3⟩ := phasor hn
  have e : ph n = y := by
    unfold ph
    have := h2 0
    rw [Nat.zero_add] at this
    rw [this]; rfl
  rw [e]
  exact ⟨h0, h1, h2, h3⟩
/-- How much earlier a wave comes at a place. -/
def steps (p : S88) (u v : Int) : Int := p.f0 * u + p.f1 * v
theorem mul_bd {a u : Int} (h0 : -4096 ≤ a) (h1 : a ≤ 4096) (h2 : -64 ≤ u) (h3 : u ≤ 64) : (a * u).natAbs ≤ 262144 := by
  rw [Int.natAbs_mul]
  exact Nat.le_trans (Nat.mul_le_mul (show a.natAbs ≤ 4096 by omega) (show u.natAbs ≤ 64 by omega)) (by decide)
theorem steps_ok {p : S88} {u v : Int} (hp : goodP p = true) (hd : vdir u v = true) : wrap64 (wrap64 (p.f0 * u) + wrap64 (p.f1 * v)) = steps p u v ∧ (steps p u v).natAbs ≤ 524288 := by
  simp only [goodP, Bool.and_eq_true, inB_iff] at hp
  obtain ⟨⟨a0, a1⟩, b0, b1⟩ := hp
  obtain ⟨u0, u1, v0, v1⟩ := vdir_bd hd
  have h1 := mul_bd a0 a1 u0 u1
  have h2 := mul_bd b0 b1 v0 v1
  unfold steps
  rw [w64 (n := p.f0 * u) (by omega) (by omega), w64 (n := p.f1 * v) (by omega) (by omega), w64 (by omega) (by omega)]
  exact ⟨rfl, by omega⟩
def steerL (l : List S88) (u v : Int) : List C64 := l.map (fun p => ph (steps p u v))
theorem impl_steer_loop (l : List S88) (u v : Int) (hn : l.length ≤ 16) (hP : ∀ (i : Nat) (h : i < l.length), goodP l[i] = true) (hd : vdir u v = true) : ∀ (d k i : Nat) (acc : List C64), i + d = l.length → d + 31 ≤ k → acc.length + d ≤ 100 →
    impl_steering.l0 k acc l (l.length : Int) (i : Int) u v = some (acc ++ (l.drop i).map (fun p => ph (steps p u v))) := by
  intro d
  induction d with
  | zero =>
    intro k i acc hi hk ha
    obtain ⟨k, rfl⟩ : ∃ m, k = m + 1 := ⟨k - 1, by omega⟩
    simp only [impl_steering.l0]
    rw [if_neg (by omega), List.drop_of_length_le (by omega)]
    simp
  | succ d ih =>
    intro k i acc hi hk ha
    obtain ⟨k, rfl⟩ : ∃ m, k = m + 1 := ⟨k - 1, by omega⟩
    have hlt : i < l.length := by omega
    obtain ⟨s1, s2⟩ := steps_ok (hP i hlt) hd
    obtain ⟨p0, p1, -, -⟩ := ph_ok s2
    replace p1 := p1 (k - 30)
    rw [show k - 30 + 30 = k by omega] at p1
    simp only [impl_steering.l0]
    rw [if_pos (by omega), if_pos (by omega), if_pos (by omega), rd88 l i hlt, s1, if_pos p0, p1]
    simp only [Option.bind_some]
    rw [if_pos (by omega), w64_succ hlt (by omega), ih k (i + 1) _ (by omega) (by omega) (by simp; omega), List.drop_eq_getElem_cons hlt, List.map_cons, List.append_assoc]
    rfl
theorem spec_steer_loop (l : List S88) (u v : Int) (hn : l.length ≤ 16) (hP : ∀ (i : Nat) (h : i < l.length), goodP l[i] = true) (hd : vdir u v = true) : ∀ (d k i : Nat) (acc : List C64), i + d = l.length → d + 31 ≤ k → acc.length + d ≤ 100 →
    spec_l02Steering.l0 k l acc (i : Int) u v = some (acc ++ (l.drop i).map (fun p => ph (steps p u v))) := by
  intro d
  induction d with
  | zero =>
    intro k i acc hi hk ha
    obtain ⟨k, rfl⟩ : ∃ m, k = m + 1 := ⟨k - 1, by omega⟩
    simp only [spec_l02Steering.l0]
    rw [if_neg (by omega), List.drop_of_length_le (by omega)]
    simp
  | succ d ih =>
    intro k i acc hi hk ha
    obtain ⟨k, rfl⟩ : ∃ m, k = m + 1 := ⟨k - 1, by omega⟩
    have hlt : i < l.length := by omega
    obtain ⟨s1, s2⟩ := steps_ok (hP i hlt) hd
    obtain ⟨p0, -, p1, -⟩ := ph_ok s2
    replace p1 := p1 (k - 30)
    rw [show k - 30 + 30 = k by omega] at p1
    simp only [spec_l02Steering.l0, spec_l02Steps.f]
    rw [if_pos (by omega), if_pos (by omega), rd88 l i hlt, s1]
    simp only [Option.bind_some]
    rw [if_pos p0, p1]
    simp only [Option.bind_some]
    rw [if_pos (by omega), w64_succ hlt (by omega), ih k (i + 1) _ (by omega) (by omega) (by simp; omega), List.drop_eq_getElem_cons hlt, List.map_cons, List.append_assoc]
    rfl
theorem steer_len (l : List S88) (u v : Int) : (steerL l u v).length = l.length := by unfold steerL; simp
theorem steer_ok (l : List S88) (u v : Int) (hn : l.length ≤ 16) (hP : ∀ (i : Nat) (h : i < l.length), goodP l[i] = true) (hd : vdir u v = true) (k : Nat) (hk : 60 ≤ k) :
    impl_steering.f k l u v = some (steerL l u v) ∧ spec_l02Steering.f k l u v = some (steerL l u v) := by
  constructor
  · unfold impl_steering.f
    have := impl_steer_loop l u v hn hP hd l.length k 0 [] (by omega) (by omega) (by simp; omega)
    rw [show ((0 : Nat) : Int) = 0 from rfl] at this
    rw [this]
    simp [steerL]
  · unfold spec_l02Steering.f
    have := spec_steer_loop l u v hn hP hd l.length k 0 [] (by omega) (by omega) (by simp; omega)
    rw [show ((0 : Nat) : Int) = 0 from rfl] at this
    rw [this]
    simp [steerL]
theorem steer_ph (l : List S88) (u v : Int) (hP : ∀ (i : Nat) (h : i < l.length), goodP l[i] = true) (hd : vdir u v = true) (i : Nat) (h : i < l.length) : PhOk (rdOf c64z (steerL l u v) (i : Int)) := by
  have e : rdOf c64z (steerL l u v) (i : Int) = ph (steps l[i] u v) := by
    unfold rdOf steerL
    simp [List.getD_eq_getElem?_getD, List.getElem?_eq_getElem h]
  rw [e]
  exact (ph_ok (steps_ok (hP i h) hd).2).2.2.2
/-- To each number of a row, from the i-th on, its own is added. -/
def nz (f : Nat → C64) : Nat → Nat → List C64 → List C64
  | 0, _, out => out
  | d + 1, i, out => nz f d (i + 1) (out.set i (addC (rdOf c64z out (i : Int)) (f i)))
theorem nz_len (f : Nat → C64) : ∀ (d i : Nat) (out : List C64), (nz f d i out).length = out.length
  | 0, _, _ => rfl
  | d + 1, i, out => by
    show (nz f d (i + 1) (out.set i _)).length = _
    rw [nz_len f d]; simp
def mulV (x y : C64) : C64 := (mulC x y).getD c64z
theorem mulV_ok {x y : C64} (h1 : HalfP x.re) (h2 : HalfP x.im) (hy : PhOk y) : mulC x y = some (mulV x y) := by
  obtain ⟨T, hT, hy⟩ := hy
  obtain ⟨r, hr⟩ := mulC_ok hT h1 h2 hy
  unfold mulV
  rw [hr]; rfl
theorem spec_mix {P : List S88} {S : List S69} {lv : Nat} {sd ix k0 : Int} {x : C64} {st : List C64} {n : Nat} (hn : n ≤ 16) (hst : st.length = n) (h1 : HalfP x.re) (h2 : HalfP x.im) (hy : ∀ i : Nat, i < n → PhOk (rdOf c64z st (i : Int))) : ∀ (d k i : Nat) (out : List C64), out.length = n → i + d = n →
    spec_l06Shot.l1 (k + d + 1) P S lv sd ix out k0 x st (i : Int) = spec_l06Shot.l0 k P S lv sd ix (nz (fun i => mulV x (rdOf c64z st (i : Int))) d i out) (wrap64 (k0 + 1)) := by
  intro d
  induction d with
  | zero =>
    intro k i out ho hi
    show spec_l06Shot.l1 (k + 1) _ _ _ _ _ _ _ _ _ _ = _
    simp only [spec_l06Shot.l1]
    rw [if_neg (by omega)]
    rfl
  | succ d ih =>
    intro k i out ho hi
    obtain ⟨K, hK⟩ : ∃ K, K = k + d + 1 := ⟨_, rfl⟩
    rw [show k + (d + 1) + 1 = K + 1 by omega]
    simp only [spec_l06Shot.l1, spec_l01Mul.f]
    rw [if_pos (by omega), if_pos (by omega), if_pos (by omega), mulV_ok h1 h2 (hy i (by omega))]
    simp only [Option.bind_some]
    rw [w64_succ (n := n) (by omega) (by omega), Int.toNat_natCast, hK]
    exact ih k (i + 1) _ (by simpa using ho) (by omega)
theorem impl_mix {P : List S88} {S : List S69} {lv : Nat} {sd ix k0 m : Int} {x : C64} {st : List C64} {n : Nat} (hn : n ≤ 16) (hst : st.length = n) (h1 : HalfP x.re) (h2 : HalfP x.im) (hy : ∀ i : Nat, i < n → PhOk (rdOf c64z st (i : Int))) : ∀ (d k i : Nat) (out : List C64), out.length = n → i + d = n →
    impl_snapshot.l1 (k + d + 1) P lv sd ix out x S m k0 st (st.length : Int) (i : Int) = impl_snapshot.l0 k P lv sd ix (nz (fun i => mulV x (rdOf c64z st (i : Int))) d i out) S m (wrap64 (k0 + 1)) := by
  intro d
  induction d with
  | zero =>
    intro k i out ho hi
    show impl_snapshot.l1 (k + 1) _ _ _ _ _ _ _ _ _ _ _ _ = _
    simp only [impl_snapshot.l1]
    rw [if_neg (by omega)]
    rfl
  | succ d ih =>
    intro k i out ho hi
    obtain ⟨K, hK⟩ : ∃ K, K = k + d + 1 := ⟨_, rfl⟩
    rw [show k + (d + 1) + 1 = K + 1 by omega]
    simp only [impl_snapshot.l1, impl_MulComplex.f, impl_add.f]
    rw [if_pos (by omega), if_pos (by omega), if_pos (by omega), if_pos (by omega), mulV_ok h1 h2 (hy i (by omega))]
    simp only [Option.bind_some]
    rw [w64_succ (n := n) (by omega) (by omega), Int.toNat_natCast, hK]
    exact ih k (i + 1) _ (by simpa using ho) (by omega)
def noiseV (sd ix : Int) (lv : Nat) (i : Nat) : C64 := (spec_l06Noise.f sd ix (i : Int) lv).getD c64z
theorem noiseV_ok {sd ix : Int} (lv : Nat) (s0 : 0 ≤ sd) (s1 : sd ≤ 2147483647) (i0 : 0 ≤ ix) (i1 : ix ≤ 1000064) {i : Nat} (h : i ≤ 16) : spec_l06Noise.f sd ix (i : Int) lv = some (noiseV sd ix lv i) ∧ impl_noise.f sd ix (i : Int) lv = some (noiseV sd ix lv i) := by
  obtain ⟨c, h1, h2⟩ := noise_ok (e := (i : Int)) lv s0 s1 i0 i1 (by omega) (by omega)
  have e : noiseV sd ix lv i = c := by unfold noiseV; rw [h1]; rfl
  rw [e]
  exact ⟨h1, h2⟩
theorem spec_noises {lv : Nat} {sd ix : Int} {n : Nat} (hn : n ≤ 16) (s0 : 0 ≤ sd) (s1 : sd ≤ 2147483647) (i0 : 0 ≤ ix) (i1 : ix ≤ 1000064) : ∀ (d k i : Nat) (out : List C64), out.length = n → i + d = n → d < k →
    spec_l06Shot.l2 k lv sd ix out (i : Int) = some (nz (noiseV sd ix lv) d i out) := by
  intro d
  induction d with
  | zero =>
    intro k i out ho hi hk
    obtain ⟨k, rfl⟩ : ∃ m, k = m + 1 := ⟨k - 1, by omega⟩
    simp only [spec_l06Shot.l2]
    rw [if_neg (by omega)]
    rfl
  | succ d ih =>
    intro k i out ho hi hk
    obtain ⟨k, rfl⟩ : ∃ m, k = m + 1 := ⟨k - 1, by omega⟩
    simp only [spec_l06Shot.l2]
    rw [if_pos (by omega), if_pos (by omega), (noiseV_ok lv s0 s1 i0 i1 (show i ≤ 16 by omega)).1]
    simp only [Option.bind_some]
    rw [w64_succ (n := n) (by omega) (by omega), Int.toNat_natCast]
    exact ih k (i + 1) _ (by simpa using ho) (by omega) (by omega)
theorem impl_noises {lv : Nat} {sd ix : Int} {n : Nat} (hn : n ≤ 16) (s0 : 0 ≤ sd) (s1 : sd ≤ 2147483647) (i0 : 0 ≤ ix) (i1 : ix ≤ 1000064) : ∀ (d k i : Nat) (out : List C64), out.length = n → i + d = n → d < k →
    impl_snapshot.l2 k lv sd ix out (n : Int) (i : Int) = some (nz (noiseV sd ix lv) d i out) := by
  intro d
  induction d with
  | zero =>
    intro k i out ho hi hk
    obtain ⟨k, rfl⟩ : ∃ m, k = m + 1 := ⟨k - 1, by omega⟩
    simp only [impl_snapshot.l2]
    rw [if_neg (by omega)]
    rfl
  | succ d ih =>
    intro k i out ho hi hk
    obtain ⟨k, rfl⟩ : ∃ m, k = m + 1 := ⟨k - 1, by omega⟩
    simp only [impl_snapshot.l2, impl_add.f]
    rw [if_pos (by omega), if_pos (by omega), if_pos (by omega), (noiseV_ok lv s0 s1 i0 i1 (show i ≤ 16 by omega)).2]
    simp only [Option.bind_some]
    rw [w64_succ (n := n) (by omega) (by omega), Int.toNat_natCast]
    exact ih k (i + 1) _ (by simpa using ho) (by omega) (by omega)
def symV (s i : Int) : C64 := (spec_l06Symbol.f s i).getD c64z
theorem symV_ok {s i : Int} (h0 : 0 ≤ s) (h1 : s ≤ 2147483647) (i0 : 0 ≤ i) (i1 : i ≤ 1000064) : spec_l06Symbol.f s i = some (symV s i) ∧ impl_symbol.f s i = some (symV s i) ∧ ∀ g, HalfP (scaleC (symV s i) g).re ∧ HalfP (scaleC (symV s i) g).im := by
  obtain ⟨a, b, e1, e2⟩ := symbol_ok h0 h1 i0 i1
  have e : symV s i = ⟨halfW a, halfW b⟩ := by unfold symV; rw [e1]; rfl
  rw [e]
  exact ⟨e1, e2, scaled_half a b⟩
/-- What the sources from the j-th on add. -/
def sr (P : List S88) (S : List S69) (ix : Int) : Nat → Nat → List C64 → List C64
  | 0, _, out => out
  | d + 1, j, out => sr P S ix d (j + 1) (nz (fun i => mulV (scaleC (symV (S.getD j z69).f2 ix) (S.getD j z69).f1) (rdOf c64z (steerL P (S.getD j z69).f0.f0 (S.getD j z69).f0.f1) (i : Int))) P.length 0 out)
theorem sr_len (P : List S88) (S : List S69) (ix : Int) : ∀ (d j : Nat) (out : List C64), (sr P S ix d j out).length = out.length
  | 0, _, _ => rfl
  | d + 1, j, out => by
    show (sr P S ix d (j + 1) _).length = _
    rw [sr_len P S ix d, nz_len]
section
variable {P : List S88} {S : List S69} {lv : Nat} {sd ix : Int} (hn : P.length ≤ 16) (hP : ∀ (i : Nat) (h : i < P.length), goodP P[i] = true) (hS : ∀ (j : Nat) (h : j < S.length), good S[j] = true) (hm : S.length ≤ 4) (s0 : 0 ≤ sd) (s1 : sd ≤ 2147483647) (i0 : 0 ≤ ix) (i1 : ix ≤ 1000064)
include hn hP hS hm s0 s1 i0 i1
theorem spec_srcs : ∀ (d k j : Nat) (out : List C64), out.length = P.length → j + d = S.length → 20 * d + 100 ≤ k →
    spec_l06Shot.l0 k P S lv sd ix out (j : Int) = some (nz (noiseV sd ix lv) P.length 0 (sr P S ix d j out)) := by
  intro d
  induction d with
  | zero =>
    intro k j out ho hj hk
    obtain ⟨k, rfl⟩ : ∃ m, k = m + 1 := ⟨k - 1, by omega⟩
    simp only [spec_l06Shot.l0]
    rw [if_neg (by omega)]
    exact spec_noises hn s0 s1 i0 i1 P.length k 0 out ho (by omega) (by omega)
  | succ d ih =>
    intro k j out ho hj hk
    have hlt : j < S.length := by omega
    have hg := hS j hlt
    simp only [good, Bool.and_eq_true] at hg
    obtain ⟨hd, hsd⟩ := hg
    have hsd' := (inB_iff _ _ _).1 hsd
    have hgd : S.getD j z69 = S[j] := by simp [List.getD_eq_getElem?_getD, List.getElem?_eq_getElem hlt]
    obtain ⟨y1, -, y3⟩ := symV_ok hsd'.1 hsd'.2 i0 i1
    obtain ⟨h1, h2⟩ := y3 S[j].f1
    obtain ⟨K, rfl⟩ : ∃ K, k = K + P.length + 1 + 1 := ⟨k - P.length - 2, by omega⟩
    obtain ⟨K2, hK2⟩ : ∃ K2, K2 = K + P.length + 1 := ⟨_, rfl⟩
    rw [← hK2]
    simp only [spec_l06Shot.l0]
    rw [if_pos (by omega), if_pos (by omega), rd69 S j hlt, y1]
    simp only [Option.bind_some, spec_l01Scale.f]
    rw [(steer_ok P S[j].f0.f0 S[j].f0.f1 hn hP hd K2 (by omega)).2]
    simp only [Option.bind_some]
    rw [hK2]
    have := spec_mix (P := P) (S := S) (lv := lv) (sd := sd) (ix := ix) (k0 := (j : Int)) hn (steer_len P S[j].f0.f0 S[j].f0.f1) h1 h2 (fun i hi => steer_ph P _ _ hP hd i hi) P.length K 0 out ho (by omega)
    rw [show ((0 : Nat) : Int) = 0 from rfl] at this
    rw [this, w64_succ hlt (by omega), ih K (j + 1) _ (by rw [nz_len]; exact ho) (by omega) (by omega)]
    show _ = some (nz _ _ 0 (sr P S ix d (j + 1) _))
    rw [hgd]
theorem impl_srcs : ∀ (d k j : Nat) (out : List C64), out.length = P.length → j + d = S.length → 20 * d + 100 ≤ k →
    impl_snapshot.l0 k P lv sd ix out S (S.length : Int) (j : Int) = some (nz (noiseV sd ix lv) P.length 0 (sr P S ix d j out)) := by
  intro d
  induction d with
  | zero =>
    intro k j out ho hj hk
    obtain ⟨k, rfl⟩ : ∃ m, k = m + 1 := ⟨k - 1, by omega⟩
    simp only [impl_snapshot.l0]
    rw [if_neg (by omega), ho]
    exact impl_noises hn s0 s1 i0 i1 P.length k 0 out ho (by omega) (by omega)
  | succ d ih =>
    intro k j out ho hj hk
    have hlt : j < S.length := by omega
    have hg := hS j hlt
    simp only [good, Bool.and_eq_true] at hg
    obtain ⟨hd, hsd⟩ := hg
    have hsd' := (inB_iff _ _ _).1 hsd
    have hgd : S.getD j z69 = S[j] := by simp [List.getD_eq_getElem?_getD, List.getElem?_eq_getElem hlt]
    obtain ⟨-, y1, y3⟩ := symV_ok hsd'.1 hsd'.2 i0 i1
    obtain ⟨h1, h2⟩ := y3 S[j].f1
    obtain ⟨K, rfl⟩ : ∃ K, k = K + P.length + 1 + 1 := ⟨k - P.length - 2, by omega⟩
    obtain ⟨K2, hK2⟩ : ∃ K2, K2 = K + P.length + 1 := ⟨_, rfl⟩
    rw [← hK2]
    simp only [impl_snapshot.l0]
    rw [if_pos (by omega), if_pos (by omega), if_pos (by omega), rd69 S j hlt, y1]
    simp only [Option.bind_some, impl_ScaleComplex.f]
    rw [(steer_ok P S[j].f0.f0 S[j].f0.f1 hn hP hd K2 (by omega)).1]
    simp only [Option.bind_some]
    rw [hK2]
    have := impl_mix (P := P) (S := S) (lv := lv) (sd := sd) (ix := ix) (k0 := (j : Int)) (m := (S.length : Int)) hn (steer_len P S[j].f0.f0 S[j].f0.f1) h1 h2 (fun i hi => steer_ph P _ _ hP hd i hi) P.length K 0 out ho (by omega)
    rw [show ((0 : Nat) : Int) = 0 from rfl] at this
    rw [this, w64_succ hlt (by omega), ih K (j + 1) _ (by rw [nz_len]; exact ho) (by omega) (by omega)]
    show _ = some (nz _ _ 0 (sr P S ix d (j + 1) _))
    rw [hgd]
end
/-- A snapshot. -/
def shotV (P : List S88) (S : List S69) (lv : Nat) (sd ix : Int) : List C64 := nz (noiseV sd ix lv) P.length 0 (sr P S ix S.length 0 (List.replicate P.length c64z))
theorem shotV_len (P : List S88) (S : List S69) (lv : Nat) (sd ix : Int) : (shotV P S lv sd ix).length = P.length := by unfold shotV; rw [nz_len, sr_len]; simp
theorem shot_ok {P : List S88} {S : List S69} (lv : Nat) {sd ix : Int} (hn : P.length ≤ 16) (hP : ∀ (i : Nat) (h : i < P.length), goodP P[i] = true) (hS : ∀ (j : Nat) (h : j < S.length), good S[j] = true) (hm : S.length ≤ 4) (s0 : 0 ≤ sd) (s1 : sd ≤ 2147483647) (i0 : 0 ≤ ix) (i1 : ix ≤ 1000064) (k : Nat) (hk : 200 ≤ k) :
    spec_l06Shot.f k P S lv sd ix = some (shotV P S lv sd ix) ∧ impl_snapshot.f k P S lv sd ix = some (shotV P S lv sd ix) := by
  constructor
  · unfold spec_l06Shot.f shotV
    rw [if_pos (by omega), if_pos (by omega), Int.toNat_natCast]
    exact spec_srcs hn hP hS hm s0 s1 i0 i1 S.length k 0 _ (by simp) (by omega) (by omega)
  · unfold impl_snapshot.f shotV
    rw [if_pos (by omega), if_pos (by omega), Int.toNat_natCast]
    exact impl_srcs hn hP hS hm s0 s1 i0 i1 S.length k 0 _ (by simp) (by omega) (by omega)
end Go.Proofs.Ytncckihaacceaaa.SnP
