/-
  Places and sources: what the program and the reference judge valid, and the rows that are made of what came in.
-/
import Derived.Test.YtncckihaacceaaaSx2
import Derived.Test.YtncckihaacceaaaSx3
import Derived.Test.YtncckihaacceaaaSx4
namespace Go.Proofs.Ytncckihaacceaaa.SnP
open Go.RowKit Go.Proofs.YtncckihaacceaaaW.PrintWords Go.Proofs.YtncckihaacceaaaW.PrintLast Go.Proofs.YtncckihaacceaaaW.PrintMore
open Go.Proofs.Ytncckihaacceaaa.S

theorem w64 {n : Int} (h0 : -9223372036854775808 ≤ n) (h1 : n ≤ 9223372036854775807) : wrap64 n = n := by unfold wrap64; omega
theorem w64_succ {i : Nat} {n : Nat} (h : i < n) (hn : n ≤ 9223372036854775807) : wrap64 ((i : Int) + 1) = ((i + 1 : Nat) : Int) := by unfold wrap64; omega

/-! ### Ranges and directions -/
def inB (a b c : Int) : Bool := decide (b ≤ a) && decide (a ≤ c)
theorem in_f (a b c : Int) : spec_l00In.f a b c = some (inB a b c) := by
  unfold spec_l00In.f inB
  by_cases h : a ≥ b
  · rw [if_pos h]; simp [h]
  · rw [if_neg h]; simp [h]
theorem within_f (a b c : Int) : impl_within.f a b c = some (inB a b c) := in_f a b c
theorem inB_iff (a b c : Int) : inB a b c = true ↔ b ≤ a ∧ a ≤ c := by simp [inB]

def vdir (a b : Int) : Bool := inB a (-64) 64 && (inB b (-64) 64 && decide (a * a + b * b ≤ 4096))
theorem sq_le {a : Int} (h0 : -64 ≤ a) (h1 : a ≤ 64) : 0 ≤ a * a ∧ a * a ≤ 4096 := by
  constructor
  · rcases Int.le_total 0 a with h | h
    · exact Int.mul_nonneg h h
    · have := Int.mul_nonneg (show 0 ≤ -a by omega) (show 0 ≤ -a by omega)
      rwa [Int.neg_mul_neg] at this
  · have : (64 - a) * (64 + a) ≥ 0 := Int.mul_nonneg (by omega) (by omega)
    have e : (64 - a) * (64 + a) = 4096 - a * a := by
      rw [Int.sub_mul, Int.mul_add, Int.mul_add, Int.mul_comm a 64]; omega
    omega
theorem dir_f (a b : Int) : spec_l02Direction.f a b = some (vdir a b) := by
  unfold spec_l02Direction.f vdir
  rw [in_f, in_f]
  simp only [Option.bind_some]
  cases ha : inB a (-64) 64
  · simp
  · cases hb : inB b (-64) 64
    · simp
    · have h1 := (inB_iff _ _ _).1 ha
      have h2 := (inB_iff _ _ _).1 hb
      have s1 := sq_le h1.1 h1.2
      have s2 := sq_le h2.1 h2.2
      rw [w64 (n := a * a) (by omega) (by omega), w64 (n := b * b) (by omega) (by omega), w64 (by omega) (by omega)]
      simp
theorem vdir_f (a b : Int) : impl_ValidDirection.f a b = some (vdir a b) := dir_f a b
theorem vdir_bd {a b : Int} (h : vdir a b = true) : -64 ≤ a ∧ a ≤ 64 ∧ -64 ≤ b ∧ b ≤ 64 := by
  simp only [vdir, Bool.and_eq_true, inB_iff] at h
  omega

theorem take_set_self {α : Type} (l : List α) (i : Nat) (a : α) : (l.set i a).take i = l.take i := by
  apply List.ext_getElem?
  intro j
  rw [List.getElem?_take, List.getElem?_take]
  split
  · rw [List.getElem?_set_ne (by omega)]
  · rfl
/-! ### Sources -/
def conv (x : S73) : S69 := ⟨⟨x.f0.f0, x.f0.f1⟩, x.f1, x.f2⟩
def good (x : S69) : Bool := vdir x.f0.f0 x.f0.f1 && inB x.f2 0 2147483647
theorem rd69 (l : List S69) (i : Nat) (h : i < l.length) : rd_T69 l (i : Int) = l[i] := by
  unfold rd_T69
  simp [List.getD_eq_getElem?_getD, List.getElem?_eq_getElem h]
theorem rd73 (l : List S73) (i : Nat) (h : i < l.length) : rd_T73 l (i : Int) = l[i] := by
  unfold rd_T73
  simp [List.getD_eq_getElem?_getD, List.getElem?_eq_getElem h]
theorem impl_loop (l : List S69) (hn : l.length ≤ 9223372036854775807) : ∀ (d k i : Nat), i + d = l.length → d < k →
    impl_ValidSources.l0 k l l (l.length : Int) (i : Int) = some ((l.drop i).all good && decide ((l.length : Int) ≤ 4)) := by
  intro d
  induction d with
  | zero =>
    intro k i hi hk
    obtain ⟨k, rfl⟩ : ∃ m, k = m + 1 := ⟨k - 1, by omega⟩
    simp only [impl_ValidSources.l0]
    rw [if_neg (by omega), List.drop_of_length_le (by omega)]
    simp
  | succ d ih =>
    intro k i hi hk
    obtain ⟨k, rfl⟩ : ∃ m, k = m + 1 := ⟨k - 1, by omega⟩
    have hlt : i < l.length := by omega
    simp only [impl_ValidSources.l0]
    rw [if_pos (by omega), if_pos (by omega), if_pos (by omega), rd69 l i hlt, vdir_f, List.drop_eq_getElem_cons hlt]
    simp only [Option.bind_some, impl_isSeed.f, within_f, List.all_cons]
    rw [w64_succ hlt hn, ih k (i + 1) (by omega) (by omega)]
    unfold good
    cases vdir l[i].f0.f0 l[i].f0.f1 <;> cases inB l[i].f2 0 2147483647 <;> simp
theorem spec_loop (l : List S69) (h4 : l.length ≤ 4) : ∀ (d k i : Nat), i + d = l.length → 2 * d + 1 < k →
    spec_l06Sources.l0 k l (i : Int) = some ((l.drop i).all good && decide ((l.length : Int) ≤ 4)) := by
  intro d
  induction d with
  | zero =>
    intro k i hi hk
    obtain ⟨k, rfl⟩ : ∃ m, k = m + 2 := ⟨k - 2, by omega⟩
    simp only [spec_l06Sources.l0, spec_l06Sources.j1]
    rw [if_neg (by omega), List.drop_of_length_le (by omega)]
    simp
  | succ d ih =>
    intro k i hi hk
    obtain ⟨k, rfl⟩ : ∃ m, k = m + 2 := ⟨k - 2, by omega⟩
    have hlt : i < l.length := by omega
    have hd : decide ((l.length : Int) ≤ 4) = true := decide_eq_true (by omega)
    simp only [spec_l06Sources.l0, spec_l06Sources.j1, hd]
    rw [if_pos (by omega), if_pos True.intro, if_pos (by omega), if_pos (by omega), rd69 l i hlt, dir_f, List.drop_eq_getElem_cons hlt]
    simp only [Option.bind_some, spec_l06Seed.f, in_f, List.all_cons]
    rw [w64_succ hlt (by omega), ih k (i + 1) (by omega) (by omega), hd]
    unfold good
    cases vdir l[i].f0.f0 l[i].f0.f1 <;> cases inB l[i].f2 0 2147483647 <;> simp
theorem spec_f (l : List S69) (k : Nat) (hk : 20 < k) : spec_l06Sources.f k l = some (l.all good && decide ((l.length : Int) ≤ 4)) := by
  unfold spec_l06Sources.f
  by_cases h : l.length ≤ 4
  · have := spec_loop l h l.length k 0 (by omega) (by omega)
    simpa using this
  · obtain ⟨k, rfl⟩ : ∃ m, k = m + 2 := ⟨k - 2, by omega⟩
    have hd : decide ((l.length : Int) ≤ 4) = false := decide_eq_false (by omega)
    simp only [spec_l06Sources.l0, spec_l06Sources.j1, hd]
    rw [if_pos (by omega)]
    simp
theorem toSource_loop (l : List S73) (hn : l.length ≤ 9223372036854775807) : ∀ (d k i : Nat) (x : List S69), x.length = l.length → i + d = l.length → d < k →
    laws_toSourceS.l0 k l x (i : Int) = some (x.take i ++ (l.drop i).map conv) := by
  intro d
  induction d with
  | zero =>
    intro k i x hx hi hk
    obtain ⟨k, rfl⟩ : ∃ m, k = m + 1 := ⟨k - 1, by omega⟩
    simp only [laws_toSourceS.l0]
    rw [if_neg (by omega), List.drop_of_length_le (by omega), List.take_of_length_le (by omega)]
    simp
  | succ d ih =>
    intro k i x hx hi hk
    obtain ⟨k, rfl⟩ : ∃ m, k = m + 1 := ⟨k - 1, by omega⟩
    have hlt : i < l.length := by omega
    simp only [laws_toSourceS.l0]
    rw [if_pos (by omega), if_pos (by omega), rd73 l i hlt]
    simp only [laws_toSource.f, laws_toDirection.f, Option.bind_some]
    rw [if_pos (by omega), w64_succ hlt hn, ih k (i + 1) _ (by simpa using hx) (by omega) (by omega), List.drop_eq_getElem_cons hlt]
    congr 1
    rw [List.map_cons, Int.toNat_natCast, List.take_succ_eq_append_getElem (by simp; omega)]
    simp [conv, take_set_self]
theorem toSourceS_f (l : List S73) (hn : l.length ≤ 8796093022208) (k : Nat) (hk : l.length < k) : laws_toSourceS.f k l = some (l.map conv) := by
  unfold laws_toSourceS.f
  rw [if_pos (by omega), if_pos (by omega)]
  have := toSource_loop l (by omega) l.length k 0 (List.replicate ((l.length : Int)).toNat z69) (by simp) (by omega) hk
  simpa using this
theorem eqSource_loop (l : List S69) (hn : l.length ≤ 9223372036854775807) : ∀ (d k i : Nat), i + d = l.length → d < k → laws_eqSourceS.l0 k l l (i : Int) = some true := by
  intro d
  induction d with
  | zero =>
    intro k i hi hk
    obtain ⟨k, rfl⟩ : ∃ m, k = m + 1 := ⟨k - 1, by omega⟩
    simp only [laws_eqSourceS.l0]
    rw [if_neg (by omega)]
  | succ d ih =>
    intro k i hi hk
    obtain ⟨k, rfl⟩ : ∃ m, k = m + 1 := ⟨k - 1, by omega⟩
    have hlt : i < l.length := by omega
    simp only [laws_eqSourceS.l0, laws_eqSource.f]
    rw [if_pos (by omega), if_pos (by omega), if_pos (by omega), if_pos (by simp)]
    simp only [Option.bind_some, if_true]
    rw [w64_succ hlt hn, ih k (i + 1) (by omega) (by omega)]
theorem eqSourceS_f (l : List S69) (hn : l.length ≤ 9223372036854775807) (k : Nat) (hk : l.length < k) : laws_eqSourceS.f k l l = some true := by
  have := eqSource_loop l hn l.length k 0 (by omega) hk
  simpa [laws_eqSourceS.f] using this
theorem szSourceS_f (l : List S73) (a : Int) (ha : 0 ≤ a ∧ a ≤ 1048576) (hn : l.length ≤ 9223372036854775807) : ∃ r, laws_szSourceS.f l a = some r ∧ (r < 0 ∨ (r = a - l.length ∧ (l.length : Int) ≤ a)) := by
  unfold laws_szSourceS.f
  rw [w64 (n := a - (l.length : Int)) (by omega) (by omega)]
  by_cases h : a - (l.length : Int) < 0
  · rw [if_pos h]; exact ⟨_, rfl, .inl (by decide)⟩
  · rw [if_neg h]; exact ⟨_, rfl, .inr ⟨rfl, by omega⟩⟩
/-! ### Places -/
def convP (x : S90) : S88 := ⟨x.f0, x.f1⟩
theorem rd88 (l : List S88) (i : Nat) (h : i < l.length) : rd_T88 l (i : Int) = l[i] := by
  unfold rd_T88
  simp [List.getD_eq_getElem?_getD, List.getElem?_eq_getElem h]
theorem rd90 (l : List S90) (i : Nat) (h : i < l.length) : rd_T90 l (i : Int) = l[i] := by
  unfold rd_T90
  simp [List.getD_eq_getElem?_getD, List.getElem?_eq_getElem h]
theorem toPlace_loop (l : List S90) (hn : l.length ≤ 9223372036854775807) : ∀ (d k i : Nat) (x : List S88), x.length = l.length → i + d = l.length → d < k →
    laws_toPlaceS.l0 k l x (i : Int) = some (x.take i ++ (l.drop i).map convP) := by
  intro d
  induction d with
  | zero =>
    intro k i x hx hi hk
    obtain ⟨k, rfl⟩ : ∃ m, k = m + 1 := ⟨k - 1, by omega⟩
    simp only [laws_toPlaceS.l0]
    rw [if_neg (by omega), List.drop_of_length_le (by omega), List.take_of_length_le (by omega)]
    simp
  | succ d ih =>
    intro k i x hx hi hk
    obtain ⟨k, rfl⟩ : ∃ m, k = m + 1 := ⟨k - 1, by omega⟩
    have hlt : i < l.length := by omega
    simp only [laws_toPlaceS.l0]
    rw [if_pos (by omega), if_pos (by omega), rd90 l i hlt]
    simp only [laws_toPlace.f, Option.bind_some]
    rw [if_pos (by omega), w64_succ hlt hn, ih k (i + 1) _ (by simpa using hx) (by omega) (by omega), List.drop_eq_getElem_cons hlt]
    congr 1
    rw [List.map_cons, Int.toNat_natCast, List.take_succ_eq_append_getElem (by simp; omega)]
    simp [convP, take_set_self]
theorem toPlaceS_f (l : List S90) (hn : l.length ≤ 8796093022208) (k : Nat) (hk : l.length < k) : laws_toPlaceS.f k l = some (l.map convP) := by
  unfold laws_toPlaceS.f
  rw [if_pos (by omega), if_pos (by omega)]
  have := toPlace_loop l (by omega) l.length k 0 (List.replicate ((l.length : Int)).toNat z88) (by simp) (by omega) hk
  simpa using this
theorem eqPlace_loop (l : List S88) (hn : l.length ≤ 9223372036854775807) : ∀ (d k i : Nat), i + d = l.length → d < k → laws_eqPlaceS.l0 k l l (i : Int) = some true := by
  intro d
  induction d with
  | zero =>
    intro k i hi hk
    obtain ⟨k, rfl⟩ : ∃ m, k = m + 1 := ⟨k - 1, by omega⟩
    simp only [laws_eqPlaceS.l0]
    rw [if_neg (by omega)]
  | succ d ih =>
    intro k i hi hk
    obtain ⟨k, rfl⟩ : ∃ m, k = m + 1 := ⟨k - 1, by omega⟩
    have hlt : i < l.length := by omega
    simp only [laws_eqPlaceS.l0, laws_eqPlace.f]
    rw [if_pos (by omega), if_pos (by omega), if_pos (by omega)]
    simp only [if_true, Option.bind_some]
    rw [w64_succ hlt hn, ih k (i + 1) (by omega) (by omega)]
theorem eqPlaceS_f (l : List S88) (hn : l.length ≤ 9223372036854775807) (k : Nat) (hk : l.length < k) : laws_eqPlaceS.f k l l = some true := by
  have := eqPlace_loop l hn l.length k 0 (by omega) hk
  simpa [laws_eqPlaceS.f] using this
theorem szPlaceS_f (l : List S90) (a : Int) (ha : 0 ≤ a ∧ a ≤ 1048576) (hn : l.length ≤ 9223372036854775807) : ∃ r, laws_szPlaceS.f l a = some r ∧ (r < 0 ∨ (r = a - l.length ∧ (l.length : Int) ≤ a)) := by
  unfold laws_szPlaceS.f
  rw [w64 (n := a - (l.length : Int)) (by omega) (by omega)]
  by_cases h : a - (l.length : Int) < 0
  · rw [if_pos h]; exact ⟨_, rfl, .inl (by decide)⟩
  · rw [if_neg h]; exact ⟨_, rfl, .inr ⟨rfl, by omega⟩⟩
/-- The same place. -/
def samePl (p q : S88) : Bool := p.f0 == q.f0 && p.f1 == q.f1
def goodP (p : S88) : Bool := inB p.f0 (-4096) 4096 && inB p.f1 (-4096) 4096
/-- From the i-th place on: each is valid, and none before it is the same. -/
def okP (l : List S88) : Nat → Nat → Bool
  | 0, _ => true
  | d + 1, i => goodP (l.getD i z88) && (!(l.take i).any (fun p => samePl (l.getD i z88) p) && okP l d (i + 1))
theorem index_loop (l : List S88) (a b : Int) (hn : l.length ≤ 9223372036854775807) : ∀ (d k i : Nat), i + d = l.length → d < k →
    ∃ r, impl_Place_111.l0 k l (l.length : Int) (i : Int) a b = some r ∧ decide (r ≥ 0) = (l.drop i).any (fun p => a == p.f0 && b == p.f1) := by
  intro d
  induction d with
  | zero =>
    intro k i hi hk
    obtain ⟨k, rfl⟩ : ∃ m, k = m + 1 := ⟨k - 1, by omega⟩
    simp only [impl_Place_111.l0]
    rw [if_neg (by omega), List.drop_of_length_le (by omega)]
    exact ⟨_, rfl, by simp⟩
  | succ d ih =>
    intro k i hi hk
    obtain ⟨k, rfl⟩ : ∃ m, k = m + 1 := ⟨k - 1, by omega⟩
    have hlt : i < l.length := by omega
    simp only [impl_Place_111.l0]
    rw [if_pos (by omega), if_pos (by omega), if_pos (by omega), rd88 l i hlt, List.drop_eq_getElem_cons hlt, List.any_cons]
    by_cases h : (a == l[i].f0 && b == l[i].f1) = true
    · rw [if_pos h, h]
      exact ⟨_, rfl, by simp⟩
    · rw [if_neg h, w64_succ hlt hn]
      obtain ⟨r, h1, h2⟩ := ih k (i + 1) (by omega) (by omega)
      refine ⟨r, h1, ?_⟩
      rw [h2]
      simp [h]
theorem contains_f (l : List S88) (a b : Int) (hn : l.length ≤ 9223372036854775807) (k : Nat) (hk : l.length < k) : impl_Place_84.f k l a b = some (l.any (fun p => a == p.f0 && b == p.f1)) := by
  unfold impl_Place_84.f impl_Place_111.f
  obtain ⟨r, h1, h2⟩ := index_loop l a b hn l.length k 0 (by omega) hk
  rw [show ((0 : Nat) : Int) = 0 from rfl] at h1
  rw [h1, List.drop_zero] at *
  simp only [Option.bind_some]
  rw [h2]
theorem implP_loop (l : List S88) (hn : l.length ≤ 16) : ∀ (d k i : Nat), i + d = l.length → d + 20 < k → impl_ValidPlaces.l0 k l l (l.length : Int) (i : Int) = some (okP l d i) := by
  intro d
  induction d with
  | zero =>
    intro k i hi hk
    obtain ⟨k, rfl⟩ : ∃ m, k = m + 1 := ⟨k - 1, by omega⟩
    simp only [impl_ValidPlaces.l0]
    rw [if_neg (by omega)]
    rfl
  | succ d ih =>
    intro k i hi hk
    obtain ⟨k, rfl⟩ : ∃ m, k = m + 1 := ⟨k - 1, by omega⟩
    have hlt : i < l.length := by omega
    have hg : l.getD i z88 = l[i] := by simp [List.getD_eq_getElem?_getD, List.getElem?_eq_getElem hlt]
    simp only [impl_ValidPlaces.l0, impl_isCoordinate.f, within_f, okP, goodP, hg]
    rw [if_pos (by omega), if_pos (by omega), if_pos (by omega), rd88 l i hlt]
    simp only [Option.bind_some]
    cases h1 : inB l[i].f0 (-4096) 4096
    · simp
    · rw [if_pos rfl]
      cases h2 : inB l[i].f1 (-4096) 4096
      · simp
      · rw [if_pos rfl, if_pos (by omega), contains_f _ _ _ (by simp; omega) _ (by simp; omega), Int.toNat_natCast]
        simp only [Option.bind_some, Bool.and_self, Bool.true_and]
        have e : (l.take i).any (fun p => l[i].f0 == p.f0 && l[i].f1 == p.f1) = (l.take i).any (fun p => samePl l[i] p) := rfl
        rw [e]
        cases h3 : (l.take i).any (fun p => samePl l[i] p)
        · simp only [Bool.false_eq_true, if_false, Bool.not_false, Bool.true_and]
          rw [w64_succ hlt (by omega), ih k (i + 1) (by omega) (by omega)]
        · simp
theorem same_comm (p q : S88) : samePl p q = samePl q p := by
  unfold samePl
  rw [Bool.beq_comm (a := p.f0), Bool.beq_comm (a := p.f1)]
theorem specP_inner (l : List S88) (i : Nat) (hi : i < l.length) (hn : l.length ≤ 16) : ∀ (d k j : Nat), j + d = i →
    spec_l02Is.l1 (k + d + 1) l (i : Int) (j : Int) = if ((l.take i).drop j).any (fun p => samePl l[i] p) = true then some false else spec_l02Is.l0 k l ((i + 1 : Nat) : Int) := by
  intro d
  induction d with
  | zero =>
    intro k j hj
    obtain rfl : j = i := by omega
    show spec_l02Is.l1 (k + 1) l _ _ = _
    simp only [spec_l02Is.l1]
    rw [if_neg (by omega), List.drop_of_length_le (by rw [List.length_take]; omega), w64_succ hi (by omega)]
    simp
  | succ d ih =>
    intro k j hj
    have hj' : j < l.length := by omega
    have hjt : j < (l.take i).length := by simp; omega
    obtain ⟨K, hK⟩ : ∃ K, K = k + d + 1 := ⟨_, rfl⟩
    rw [show k + (d + 1) + 1 = K + 1 by omega]
    simp only [spec_l02Is.l1]
    rw [if_pos (by omega), if_pos (by omega), if_pos (by omega), if_pos (by omega), if_pos (by omega), rd88 l j hj', rd88 l i hi, List.drop_eq_getElem_cons hjt, List.any_cons, List.getElem_take]
    have e : (l[j].f0 == l[i].f0 && l[j].f1 == l[i].f1) = samePl l[i] l[j] := by rw [same_comm]; rfl
    rw [e]
    by_cases h : samePl l[i] l[j] = true
    · rw [if_pos h, h]; simp
    · rw [if_neg h, w64_succ hj' (by omega), hK, ih k (j + 1) (by omega)]
      have h' : samePl l[i] l[j] = false := by simpa using h
      rw [h', Bool.false_or]
theorem specP_loop (l : List S88) (hn : l.length ≤ 16) : ∀ (d k i : Nat), i + d = l.length → 20 * d + 1 < k → spec_l02Is.l0 k l (i : Int) = some (okP l d i) := by
  intro d
  induction d with
  | zero =>
    intro k i hi hk
    obtain ⟨k, rfl⟩ : ∃ m, k = m + 1 := ⟨k - 1, by omega⟩
    simp only [spec_l02Is.l0]
    rw [if_neg (by omega)]
    rfl
  | succ d ih =>
    intro k i hi hk
    obtain ⟨k, rfl⟩ : ∃ m, k = m + 1 := ⟨k - 1, by omega⟩
    have hlt : i < l.length := by omega
    have hg : l.getD i z88 = l[i] := by simp [List.getD_eq_getElem?_getD, List.getElem?_eq_getElem hlt]
    simp only [spec_l02Is.l0, spec_l02Place.f, in_f, okP, goodP, hg]
    rw [if_pos (by omega), if_pos (by omega), rd88 l i hlt]
    simp only [Option.bind_some]
    cases h1 : inB l[i].f0 (-4096) 4096
    · simp
    · rw [if_pos rfl]
      simp only [Option.bind_some, Bool.true_and]
      cases h2 : inB l[i].f1 (-4096) 4096
      · simp
      · rw [if_pos rfl]
        obtain ⟨k, rfl⟩ : ∃ m, k = m + i + 1 := ⟨k - i - 1, by omega⟩
        have h3 := specP_inner l i hlt hn i k 0 (by omega)
        rw [show ((0 : Nat) : Int) = 0 from rfl, List.drop_zero] at h3
        rw [h3]
        simp only [Bool.true_and]
        cases h4 : (l.take i).any (fun p => samePl l[i] p)
        · simp only [Bool.false_eq_true, if_false, Bool.not_false, Bool.true_and]
          exact ih k (i + 1) (by omega) (by omega)
        · simp
/-- Whether places are valid. -/
def validP (l : List S88) : Bool := inB (l.length : Int) 1 16 && okP l l.length 0
theorem implP_f (l : List S88) (k : Nat) (hk : 40 < k) : impl_ValidPlaces.f k l = some (validP l) := by
  unfold impl_ValidPlaces.f impl_isCount.f validP
  rw [within_f]
  simp only [Option.bind_some]
  cases h : inB (l.length : Int) 1 16
  · simp
  · have h' := (inB_iff _ _ _).1 h
    rw [if_pos rfl]
    have := implP_loop l (by omega) l.length k 0 (by omega) (by omega)
    rw [show ((0 : Nat) : Int) = 0 from rfl] at this
    rw [this]
    simp
theorem specP_f (l : List S88) (k : Nat) (hk : 340 < k) : spec_l02Is.f k l = some (validP l) := by
  unfold spec_l02Is.f validP
  rw [in_f]
  simp only [Option.bind_some]
  cases h : inB (l.length : Int) 1 16
  · simp
  · have h' := (inB_iff _ _ _).1 h
    rw [if_pos rfl]
    have := specP_loop l (by omega) l.length k 0 (by omega) (by omega)
    rw [show ((0 : Nat) : Int) = 0 from rfl] at this
    rw [this]
    simp
theorem okP_good (l : List S88) : ∀ (d i : Nat), okP l d i = true → ∀ j, i ≤ j → j < i + d → goodP (l.getD j z88) = true
  | 0, i, _, j, h1, h2 => by omega
  | d + 1, i, h, j, h1, h2 => by
    simp only [okP, Bool.and_eq_true] at h
    rcases Nat.lt_or_ge i j with hj | hj
    · exact okP_good l d (i + 1) h.2.2 j hj (by omega)
    · obtain rfl : j = i := by omega
      exact h.1
end Go.Proofs.Ytncckihaacceaaa.SnP
