/-
  The plain law of FnExactValidSources: the program and the reference judge a row of sources alike.
-/
import Derived.Test.YtncckihaacceaaaVx2
namespace Go.Proofs.Ytncckihaacceaaa.PlainV
open Go.RowKit Go.Proofs.YtncckihaacceaaaW.PrintWords Go.Proofs.YtncckihaacceaaaW.PrintLast Go.Proofs.YtncckihaacceaaaW.PrintMore
open Go.Proofs.Ytncckihaacceaaa.V

theorem w64 {n : Int} (h0 : -9223372036854775808 ≤ n) (h1 : n ≤ 9223372036854775807) : wrap64 n = n := by unfold wrap64; omega
theorem w64_succ {i : Nat} {n : Nat} (h : i < n) (hn : n ≤ 9223372036854775807) : wrap64 ((i : Int) + 1) = ((i + 1 : Nat) : Int) := by unfold wrap64; omega

/-! ### Ranges and directions -/
def inB (a b c : Int) : Bool := decide (b ≤ a) && decide (a ≤ c)
theorem in_f (a b c : Int) : spec_l00In.f a b c = some (inB a b c) := by
  unfold spec_l00In.f inB
  by_cases h : a ≥ b
  · rw [if_pos h]; simp [h]
  · rw [if_neg h]; simp [h]
theorem within_f (a b c : Int) : impl_within.f a b c = some (inB a b c) := in_f a b c
theorem inB_iff (a b c : Int) : inB a b c = true ↔ b ≤ a ∧ a ≤ c := by simp [inB]

def vdir (a b : Int) : Bool := inB a (-64) 64 && (inB b (-64) 64 && decide (a * a + b * b ≤ 4096))
theorem sq_le {a : Int} (h0 : -64 ≤ a) (h1 : a ≤ 64) : 0 ≤ a * a ∧ a * a ≤ 4096 := by
  constructor
  · rcases Int.le_total 0 a with h | h
    · exact Int.mul_nonneg h h
    · have := Int.mul_nonneg (show 0 ≤ -a by omega) (show 0 ≤ -a by omega)
      rwa [Int.neg_mul_neg] at this
  · have : (64 - a) * (64 + a) ≥ 0 := Int.mul_nonneg (by omega) (by omega)
    have e : (64 - a) * (64 + a) = 4096 - a * a := by
      rw [Int.sub_mul, Int.mul_add, Int.mul_add, Int.mul_comm a 64]; omega
    omega
theorem dir_f (a b : Int) : spec_l02Direction.f a b = some (vdir a b) := by
  unfold spec_l02Direction.f vdir
  rw [in_f, in_f]
  simp only [Option.bind_some]
  cases ha : inB a (-64) 64
  · simp
  · cases hb : inB b (-64) 64
    · simp
    · have h1 := (inB_iff _ _ _).1 ha
      have h2 := (inB_iff _ _ _).1 hb
      have s1 := sq_le h1.1 h1.2
      have s2 := sq_le h2.1 h2.2
      rw [w64 (n := a * a) (by omega) (by omega), w64 (n := b * b) (by omega) (by omega), w64 (by omega) (by omega)]
      simp
theorem vdir_f (a b : Int) : impl_ValidDirection.f a b = some (vdir a b) := dir_f a b
theorem vdir_bd {a b : Int} (h : vdir a b = true) : -64 ≤ a ∧ a ≤ 64 ∧ -64 ≤ b ∧ b ≤ 64 := by
  simp only [vdir, Bool.and_eq_true, inB_iff] at h
  omega

theorem take_set_self {α : Type} (l : List α) (i : Nat) (a : α) : (l.set i a).take i = l.take i := by
  apply List.ext_getElem?
  intro j
  rw [List.getElem?_take, List.getElem?_take]
  split
  · rw [List.getElem?_set_ne (by omega)]
  · rfl
/-! ### Sources -/
def conv (x : S73) : S69 := ⟨⟨x.f0.f0, x.f0.f1⟩, x.f1, x.f2⟩
def good (x : S69) : Bool := vdir x.f0.f0 x.f0.f1 && inB x.f2 0 2147483647
theorem rd69 (l : List S69) (i : Nat) (h : i < l.length) : rd_T69 l (i : Int) = l[i] := by
  unfold rd_T69
  simp [List.getD_eq_getElem?_getD, List.getElem?_eq_getElem h]
theorem rd73 (l : List S73) (i : Nat) (h : i < l.length) : rd_T73 l (i : Int) = l[i] := by
  unfold rd_T73
  simp [List.getD_eq_getElem?_getD, List.getElem?_eq_getElem h]
theorem impl_loop (l : List S69) (hn : l.length ≤ 9223372036854775807) : ∀ (d k i : Nat), i + d = l.length → d < k →
    impl_ValidSources.l0 k l l (l.length : Int) (i : Int) = some ((l.drop i).all good && decide ((l.length : Int) ≤ 4)) := by
  intro d
  induction d with
  | zero =>
    intro k i hi hk
    obtain ⟨k, rfl⟩ : ∃ m, k = m + 1 := ⟨k - 1, by omega⟩
    simp only [impl_ValidSources.l0]
    rw [if_neg (by omega), List.drop_of_length_le (by omega)]
    simp
  | succ d ih =>
    intro k i hi hk
    obtain ⟨k, rfl⟩ : ∃ m, k = m + 1 := ⟨k - 1, by omega⟩
    have hlt : i < l.length := by omega
    simp only [impl_ValidSources.l0]
    rw [if_pos (by omega), if_pos (by omega), if_pos (by omega), rd69 l i hlt, vdir_f, List.drop_eq_getElem_cons hlt]
    simp only [Option.bind_some, impl_isSeed.f, within_f, List.all_cons]
    rw [w64_succ hlt hn, ih k (i + 1) (by omega) (by omega)]
    unfold good
    cases vdir l[i].f0.f0 l[i].f0.f1 <;> cases inB l[i].f2 0 2147483647 <;> simp
theorem spec_loop (l : List S69) (h4 : l.length ≤ 4) : ∀ (d k i : Nat), i + d = l.length → 2 * d + 1 < k →
    spec_l06Sources.l0 k l (i : Int) = some ((l.drop i).all good && decide ((l.length : Int) ≤ 4)) := by
  intro d
  induction d with
  | zero =>
    intro k i hi hk
    obtain ⟨k, rfl⟩ : ∃ m, k = m + 2 := ⟨k - 2, by omega⟩
    simp only [spec_l06Sources.l0, spec_l06Sources.j1]
    rw [if_neg (by omega), List.drop_of_length_le (by omega)]
    simp
  | succ d ih =>
    intro k i hi hk
    obtain ⟨k, rfl⟩ : ∃ m, k = m + 2 := ⟨k - 2, by omega⟩
    have hlt : i < l.length := by omega
    have hd : decide ((l.length : Int) ≤ 4) = true := decide_eq_true (by omega)
    simp only [spec_l06Sources.l0, spec_l06Sources.j1, hd]
    rw [if_pos (by omega), if_pos True.intro, if_pos (by omega), if_pos (by omega), rd69 l i hlt, dir_f, List.drop_eq_getElem_cons hlt]
    simp only [Option.bind_some, spec_l06Seed.f, in_f, List.all_cons]
    rw [w64_succ hlt (by omega), ih k (i + 1) (by omega) (by omega), hd]
    unfold good
    cases vdir l[i].f0.f0 l[i].f0.f1 <;> cases inB l[i].f2 0 2147483647 <;> simp
theorem spec_f (l : List S69) (k : Nat) (hk : 20 < k) : spec_l06Sources.f k l = some (l.all good && decide ((l.length : Int) ≤ 4)) := by
  unfold spec_l06Sources.f
  by_cases h : l.length ≤ 4
  · have := spec_loop l h l.length k 0 (by omega) (by omega)
    simpa using this
  · obtain ⟨k, rfl⟩ : ∃ m, k = m + 2 := ⟨k - 2, by omega⟩
    have hd : decide ((l.length : Int) ≤ 4) = false := decide_eq_false (by omega)
    simp only [spec_l06Sources.l0, spec_l06Sources.j1, hd]
    rw [if_pos (by omega)]
    simp
theorem toSource_loop (l : List S73) (hn : l.length ≤ 9223372036854775807) : ∀ (d k i : Nat) (x : List S69), x.length = l.length → i + d = l.length → d < k →
    laws_toSourceS.l0 k l x (i : Int) = some (x.take i ++ (l.drop i).map conv) := by
  intro d
  induction d with
  | zero =>
    intro k i x hx hi hk
    obtain ⟨k, rfl⟩ : ∃ m, k = m + 1 := ⟨k - 1, by omega⟩
    simp only [laws_toSourceS.l0]
    rw [if_neg (by omega), List.drop_of_length_le (by omega), List.take_of_length_le (by omega)]
    simp
  | succ d ih =>
    intro k i x hx hi hk
    obtain ⟨k, rfl⟩ : ∃ m, k = m + 1 := ⟨k - 1, by omega⟩
    have hlt : i < l.length := by omega
    simp only [laws_toSourceS.l0]
    rw [if_pos (by omega), if_pos (by omega), rd73 l i hlt]
    simp only [laws_toSource.f, laws_toDirection.f, Option.bind_some]
    rw [if_pos (by omega), w64_succ hlt hn, ih k (i + 1) _ (by simpa using hx) (by omega) (by omega), List.drop_eq_getElem_cons hlt]
    congr 1
    rw [List.map_cons, Int.toNat_natCast, List.take_succ_eq_append_getElem (by simp; omega)]
    simp [conv, take_set_self]
theorem toSourceS_f (l : List S73) (hn : l.length ≤ 8796093022208) (k : Nat) (hk : l.length < k) : laws_toSourceS.f k l = some (l.map conv) := by
  unfold laws_toSourceS.f
  rw [if_pos (by omega), if_pos (by omega)]
  have := toSource_loop l (by omega) l.length k 0 (List.replicate ((l.length : Int)).toNat z69) (by simp) (by omega) hk
  simpa using this
theorem eqSource_loop (l : List S69) (hn : l.length ≤ 9223372036854775807) : ∀ (d k i : Nat), i + d = l.length → d < k → laws_eqSourceS.l0 k l l (i : Int) = some true := by
  intro d
  induction d with
  | zero =>
    intro k i hi hk
    obtain ⟨k, rfl⟩ : ∃ m, k = m + 1 := ⟨k - 1, by omega⟩
    simp only [laws_eqSourceS.l0]
    rw [if_neg (by omega)]
  | succ d ih =>
    intro k i hi hk
    obtain ⟨k, rfl⟩ : ∃ m, k = m + 1 := ⟨k - 1, by omega⟩
    have hlt : i < l.length := by omega
    simp only [laws_eqSourceS.l0, laws_eqSource.f]
    rw [if_pos (by omega), if_pos (by omega), if_pos (by omega), if_pos (by simp)]
    simp only [Option.bind_some, if_true]
    rw [w64_succ hlt hn, ih k (i + 1) (by omega) (by omega)]
theorem eqSourceS_f (l : List S69) (hn : l.length ≤ 9223372036854775807) (k : Nat) (hk : l.length < k) : laws_eqSourceS.f k l l = some true := by
  have := eqSource_loop l hn l.length k 0 (by omega) hk
  simpa [laws_eqSourceS.f] using this
theorem szSourceS_f (l : List S73) (a : Int) (ha : 0 ≤ a ∧ a ≤ 1048576) (hn : l.length ≤ 9223372036854775807) : ∃ r, laws_szSourceS.f l a = some r ∧ (r < 0 ∨ (r = a - l.length ∧ (l.length : Int) ≤ a)) := by
  unfold laws_szSourceS.f
  rw [w64 (n := a - (l.length : Int)) (by omega) (by omega)]
  by_cases h : a - (l.length : Int) < 0
  · rw [if_pos h]; exact ⟨_, rfl, .inl (by decide)⟩
  · rw [if_neg h]; exact ⟨_, rfl, .inr ⟨rfl, by omega⟩⟩
theorem validSources (l : List S73) (hn : l.length ≤ 9223372036854775807) : ∃ k, laws_FnExactValidSources.f k l = some true := by
  refine ⟨l.length + 30, ?_⟩
  unfold laws_FnExactValidSources.f
  obtain ⟨r, hr, h⟩ := szSourceS_f l 1048576 (by omega) hn
  rw [hr]
  simp only [Option.bind_some]
  by_cases h0 : r < 0
  · rw [if_pos h0]
  rw [if_neg h0]
  obtain ⟨h1, h2⟩ := h.resolve_left h0
  rw [toSourceS_f l (by omega) _ (by omega)]
  have hi := impl_loop (l.map conv) (by simpa using hn) (l.map conv).length (l.length + 30) 0 (by omega) (by simp)
  rw [show ((0 : Nat) : Int) = 0 from rfl, List.drop_zero] at hi
  simp only [Option.bind_some, spec_ValidSources.f, impl_ValidSources.f]
  rw [spec_f _ _ (by omega), hi]
  simp only [Option.bind_some, bne_self_eq_false, Bool.false_eq_true, if_false]
  rw [eqSourceS_f _ (by simpa using hn) _ (by simp)]
  simp
end Go.Proofs.Ytncckihaacceaaa.PlainV
