/-
  What the laws of plans share of beams and directions, over lists of whole numbers, without Go and memory.
-/
import Derived.Test.YtekcngoemeadlaaBx7
namespace Go.Proofs.Ytekcngoemeadlaa.PlainB
open Go.RowKit Go.Proofs.YtekcngoemeadlaaW.PrintWords Go.Proofs.YtekcngoemeadlaaW.PrintLast Go.Proofs.YtekcngoemeadlaaW.PrintMore
open Go.Proofs.Ytekcngoemeadlaa.B

theorem w64 {n : Int} (h0 : -9223372036854775808 ≤ n) (h1 : n ≤ 9223372036854775807) : wrap64 n = n := by unfold wrap64; omega
theorem w64_succ {i : Nat} {n : Nat} (h : i < n) (hn : n ≤ 9223372036854775807) : wrap64 ((i : Int) + 1) = ((i + 1 : Nat) : Int) := by unfold wrap64; omega

/-! ### Ranges and directions -/
def inB (a b c : Int) : Bool := decide (b ≤ a) && decide (a ≤ c)
theorem in_f (a b c : Int) : spec_l00In.f a b c = some (inB a b c) := by
  unfold spec_l00In.f inB
  by_cases h : a ≥ b
  · rw [if_pos h]; simp [h]
  · rw [if_neg h]; simp [h]
theorem within_f (a b c : Int) : impl_within.f a b c = some (inB a b c) := in_f a b c
theorem inB_iff (a b c : Int) : inB a b c = true ↔ b ≤ a ∧ a ≤ c := by simp [inB]

def vdir (a b : Int) : Bool := inB a (-64) 64 && (inB b (-64) 64 && decide (a * a + b * b ≤ 4096))
theorem sq_le {a : Int} (h0 : -64 ≤ a) (h1 : a ≤ 64) : 0 ≤ a * a ∧ a * a ≤ 4096 := by
  constructor
  · rcases Int.le_total 0 a with h | h
    · exact Int.mul_nonneg h h
    · have := Int.mul_nonneg (show 0 ≤ -a by omega) (show 0 ≤ -a by omega)
      rwa [Int.neg_mul_neg] at this
  · have : (64 - a) * (64 + a) ≥ 0 := Int.mul_nonneg (by omega) (by omega)
    have e : (64 - a) * (64 + a) = 4096 - a * a := by
      rw [Int.sub_mul, Int.mul_add, Int.mul_add, Int.mul_comm a 64]; omega
    omega
theorem dir_f (a b : Int) : spec_l02Direction.f a b = some (vdir a b) := by
  unfold spec_l02Direction.f vdir
  rw [in_f, in_f]
  simp only [Option.bind_some]
  cases ha : inB a (-64) 64
  · simp
  · cases hb : inB b (-64) 64
    · simp
    · have h1 := (inB_iff _ _ _).1 ha
      have h2 := (inB_iff _ _ _).1 hb
      have s1 := sq_le h1.1 h1.2
      have s2 := sq_le h2.1 h2.2
      rw [w64 (n := a * a) (by omega) (by omega), w64 (n := b * b) (by omega) (by omega), w64 (by omega) (by omega)]
      simp
theorem vdir_f (a b : Int) : impl_ValidDirection.f a b = some (vdir a b) := dir_f a b
theorem vdir_bd {a b : Int} (h : vdir a b = true) : -64 ≤ a ∧ a ≤ 64 ∧ -64 ≤ b ∧ b ≤ 64 := by
  simp only [vdir, Bool.and_eq_true, inB_iff] at h
  omega

/-! ### Beams -/
def conv (x : S86) : S54 := ⟨⟨x.f0.f0, x.f0.f1⟩, x.f1, x.f2⟩
def beamB (x : S54) : Bool := vdir x.f0.f0 x.f0.f1 && (inB x.f1 1 10000 && inB x.f2 x.f1 10000)
def areB (l : List S54) : Bool := l.all beamB && inB (l.length : Int) 1 7

theorem rd54 (l : List S54) (i : Nat) (h : i < l.length) : rd_T54 l (i : Int) = l[i] := by
  unfold rd_T54
  simp [List.getD_eq_getElem?_getD, List.getElem?_eq_getElem h]
theorem rd86 (l : List S86) (i : Nat) (h : i < l.length) : rd_T86 l (i : Int) = l[i] := by
  unfold rd_T86
  simp [List.getD_eq_getElem?_getD, List.getElem?_eq_getElem h]

theorem l09Is_loop (l : List S54) (hn : l.length ≤ 9223372036854775807) : ∀ (d k i : Nat), i + d = l.length → d < k →
    spec_l09Is.l0 k l (l.length : Int) (i : Int) = some ((l.drop i).all beamB && inB (l.length : Int) 1 7) := by
  intro d
  induction d with
  | zero =>
    intro k i hi hk
    obtain ⟨k, rfl⟩ : ∃ m, k = m + 1 := ⟨k - 1, by omega⟩
    simp only [spec_l09Is.l0]
    rw [if_neg (by omega), List.drop_of_length_le (by omega)]
    unfold inB
    by_cases h : (l.length : Int) ≥ 1
    · rw [if_pos h]; simp [h]
    · rw [if_neg h]; simp [h]
  | succ d ih =>
    intro k i hi hk
    obtain ⟨k, rfl⟩ : ∃ m, k = m + 1 := ⟨k - 1, by omega⟩
    have hlt : i < l.length := by omega
    simp only [spec_l09Is.l0]
    rw [if_pos (by omega), if_pos (by omega), if_pos (by omega), rd54 l i hlt, dir_f, List.drop_eq_getElem_cons hlt]
    simp only [Option.bind_some, in_f, List.all_cons]
    rw [w64_succ hlt hn, ih k (i + 1) (by omega) (by omega)]
    unfold beamB
    cases vdir l[i].f0.f0 l[i].f0.f1 <;> cases inB l[i].f1 1 10000 <;> cases inB l[i].f2 l[i].f1 10000 <;> simp
theorem specBeams_f (l : List S54) (hn : l.length ≤ 9223372036854775807) (k : Nat) (hk : l.length < k) : spec_l09Is.f k l = some (areB l) := by
  have := l09Is_loop l hn l.length k 0 (by omega) hk
  simpa [spec_l09Is.f, areB] using this

theorem areBeams_loop (l : List S54) (hn : l.length ≤ 9223372036854775807) : ∀ (d k i : Nat), i + d = l.length → d < k →
    impl_AreBeams.l0 k l l (l.length : Int) (i : Int) = some ((l.drop i).all beamB && inB (l.length : Int) 1 7) := by
  intro d
  induction d with
  | zero =>
    intro k i hi hk
    obtain ⟨k, rfl⟩ : ∃ m, k = m + 1 := ⟨k - 1, by omega⟩
    simp only [impl_AreBeams.l0]
    rw [if_neg (by omega), List.drop_of_length_le (by omega), within_f]
    simp
  | succ d ih =>
    intro k i hi hk
    obtain ⟨k, rfl⟩ : ∃ m, k = m + 1 := ⟨k - 1, by omega⟩
    have hlt : i < l.length := by omega
    simp only [impl_AreBeams.l0]
    rw [if_pos (by omega), if_pos (by omega), if_pos (by omega), rd54 l i hlt, vdir_f, List.drop_eq_getElem_cons hlt]
    simp only [Option.bind_some, within_f, List.all_cons]
    rw [w64_succ hlt hn, ih k (i + 1) (by omega) (by omega)]
    unfold beamB
    cases vdir l[i].f0.f0 l[i].f0.f1 <;> cases inB l[i].f1 1 10000 <;> cases inB l[i].f2 l[i].f1 10000 <;> simp
theorem areBeams_f (l : List S54) (hn : l.length ≤ 9223372036854775807) (k : Nat) (hk : l.length < k) : impl_AreBeams.f k l = some (areB l) := by
  have := areBeams_loop l hn l.length k 0 (by omega) hk
  simpa [impl_AreBeams.f, areB] using this

/-! ### Copies and comparisons -/
theorem take_set_self {α : Type} (l : List α) (i : Nat) (a : α) : (l.set i a).take i = l.take i := by
  apply List.ext_getElem?
  intro j
  rw [List.getElem?_take, List.getElem?_take]
  split
  · rw [List.getElem?_set_ne (by omega)]
  · rfl
theorem toBeam_loop (l : List S86) (hn : l.length ≤ 9223372036854775807) : ∀ (d k i : Nat) (x : List S54), x.length = l.length → i + d = l.length → d < k →
    laws_toBeamS.l0 k l x (i : Int) = some (x.take i ++ (l.drop i).map conv) := by
  intro d
  induction d with
  | zero =>
    intro k i x hx hi hk
    obtain ⟨k, rfl⟩ : ∃ m, k = m + 1 := ⟨k - 1, by omega⟩
    simp only [laws_toBeamS.l0]
    rw [if_neg (by omega), List.drop_of_length_le (by omega), List.take_of_length_le (by omega)]
    simp
  | succ d ih =>
    intro k i x hx hi hk
    obtain ⟨k, rfl⟩ : ∃ m, k = m + 1 := ⟨k - 1, by omega⟩
    have hlt : i < l.length := by omega
    simp only [laws_toBeamS.l0]
    rw [if_pos (by omega), if_pos (by omega), rd86 l i hlt]
    simp only [laws_toBeam.f, laws_toDirection.f, Option.bind_some]
    rw [if_pos (by omega), w64_succ hlt hn, ih k (i + 1) _ (by simpa using hx) (by omega) (by omega), List.drop_eq_getElem_cons hlt]
    congr 1
    rw [List.map_cons, Int.toNat_natCast, List.take_succ_eq_append_getElem (by simp; omega)]
    simp [conv, take_set_self]
theorem toBeamS_f (l : List S86) (hn : l.length ≤ 8796093022208) (k : Nat) (hk : l.length < k) : laws_toBeamS.f k l = some (l.map conv) := by
  unfold laws_toBeamS.f
  rw [if_pos (by omega), if_pos (by omega)]
  have := toBeam_loop l (by omega) l.length k 0 (List.replicate ((l.length : Int)).toNat z54) (by simp) (by omega) hk
  simpa using this
theorem eqDir_refl (a b : Int) : laws_eqDirection.f a b a b = some true := by simp [laws_eqDirection.f]
theorem eqBeam_refl (a b c d : Int) : laws_eqBeam.f a b c d a b c d = some true := by simp [laws_eqBeam.f, eqDir_refl]
theorem eqBeam_loop (l : List S54) (hn : l.length ≤ 9223372036854775807) : ∀ (d k i : Nat), i + d = l.length → d < k → laws_eqBeamS.l0 k l l (i : Int) = some true := by
  intro d
  induction d with
  | zero =>
    intro k i hi hk
    obtain ⟨k, rfl⟩ : ∃ m, k = m + 1 := ⟨k - 1, by omega⟩
    simp only [laws_eqBeamS.l0]
    rw [if_neg (by omega)]
  | succ d ih =>
    intro k i hi hk
    obtain ⟨k, rfl⟩ : ∃ m, k = m + 1 := ⟨k - 1, by omega⟩
    have hlt : i < l.length := by omega
    simp only [laws_eqBeamS.l0]
    rw [if_pos (by omega), if_pos (by omega), if_pos (by omega), eqBeam_refl]
    simp only [Option.bind_some, if_true]
    rw [w64_succ hlt hn, ih k (i + 1) (by omega) (by omega)]
theorem eqBeamS_f (l : List S54) (hn : l.length ≤ 9223372036854775807) (k : Nat) (hk : l.length < k) : laws_eqBeamS.f k l l = some true := by
  have := eqBeam_loop l hn l.length k 0 (by omega) hk
  simpa [laws_eqBeamS.f] using this
theorem szBeamS_f (l : List S86) (a : Int) (ha : 0 ≤ a ∧ a ≤ 1048576) (hn : l.length ≤ 9223372036854775807) : ∃ r, laws_szBeamS.f l a = some r ∧ (r < 0 ∨ (r = a - l.length ∧ (l.length : Int) ≤ a)) := by
  unfold laws_szBeamS.f
  rw [w64 (n := a - (l.length : Int)) (by omega) (by omega)]
  by_cases h : a - (l.length : Int) < 0
  · rw [if_pos h]; exact ⟨_, rfl, .inl (by decide)⟩
  · rw [if_neg h]; exact ⟨_, rfl, .inr ⟨rfl, by omega⟩⟩

end Go.Proofs.Ytekcngoemeadlaa.PlainB
