/-
  The plain law of FnExactTourTicks, and what the laws of tours share: what the printed functions compute, over lists of whole numbers, without Go and memory.
-/
import Derived.Test.YtekcngoemeadlaaTx6
namespace Go.Proofs.Ytekcngoemeadlaa.PlainT
open Go.RowKit Go.Proofs.YtekcngoemeadlaaW.PrintWords Go.Proofs.YtekcngoemeadlaaW.PrintLast Go.Proofs.YtekcngoemeadlaaW.PrintMore
open Go.Proofs.Ytekcngoemeadlaa.T

theorem w64 {n : Int} (h0 : -9223372036854775808 ≤ n) (h1 : n ≤ 9223372036854775807) : wrap64 n = n := by unfold wrap64; omega
theorem w64_succ {i : Nat} {n : Nat} (h : i < n) (hn : n ≤ 9223372036854775807) : wrap64 ((i : Int) + 1) = ((i + 1 : Nat) : Int) := by unfold wrap64; omega

/-! ### Ranges and directions -/
def inB (a b c : Int) : Bool := decide (b ≤ a) && decide (a ≤ c)
theorem in_f (a b c : Int) : spec_l00In.f a b c = some (inB a b c) := by
  unfold spec_l00In.f inB
  by_cases h : a ≥ b
  · rw [if_pos h]; simp [h]
  · rw [if_neg h]; simp [h]
theorem within_f (a b c : Int) : impl_within.f a b c = some (inB a b c) := in_f a b c
theorem inB_iff (a b c : Int) : inB a b c = true ↔ b ≤ a ∧ a ≤ c := by simp [inB]

def vdir (a b : Int) : Bool := inB a (-64) 64 && (inB b (-64) 64 && decide (a * a + b * b ≤ 4096))
theorem sq_le {a : Int} (h0 : -64 ≤ a) (h1 : a ≤ 64) : 0 ≤ a * a ∧ a * a ≤ 4096 := by
  constructor
  · rcases Int.le_total 0 a with h | h
    · exact Int.mul_nonneg h h
    · have := Int.mul_nonneg (show 0 ≤ -a by omega) (show 0 ≤ -a by omega)
      rwa [Int.neg_mul_neg] at this
  · have : (64 - a) * (64 + a) ≥ 0 := Int.mul_nonneg (by omega) (by omega)
    have e : (64 - a) * (64 + a) = 4096 - a * a := by
      rw [Int.sub_mul, Int.mul_add, Int.mul_add, Int.mul_comm a 64]; omega
    omega
theorem dir_f (a b : Int) : spec_l02Direction.f a b = some (vdir a b) := by
  unfold spec_l02Direction.f vdir
  rw [in_f, in_f]
  simp only [Option.bind_some]
  cases ha : inB a (-64) 64
  · simp
  · cases hb : inB b (-64) 64
    · simp
    · have h1 := (inB_iff _ _ _).1 ha
      have h2 := (inB_iff _ _ _).1 hb
      have s1 := sq_le h1.1 h1.2
      have s2 := sq_le h2.1 h2.2
      rw [w64 (n := a * a) (by omega) (by omega), w64 (n := b * b) (by omega) (by omega), w64 (by omega) (by omega)]
      simp
theorem vdir_f (a b : Int) : impl_ValidDirection.f a b = some (vdir a b) := dir_f a b
theorem vdir_bd {a b : Int} (h : vdir a b = true) : -64 ≤ a ∧ a ≤ 64 ∧ -64 ≤ b ∧ b ≤ 64 := by
  simp only [vdir, Bool.and_eq_true, inB_iff] at h
  omega

theorem take_set_self {α : Type} (l : List α) (i : Nat) (a : α) : (l.set i a).take i = l.take i := by
  apply List.ext_getElem?
  intro j
  rw [List.getElem?_take, List.getElem?_take]
  split
  · rw [List.getElem?_set_ne (by omega)]
  · rfl
theorem eqDir_refl (a b : Int) : laws_eqDirection.f a b a b = some true := by simp [laws_eqDirection.f]

/-! ### Copies and comparisons of directions and whole numbers -/
def convD (x : S23) : S26 := ⟨x.f0, x.f1⟩
theorem rdI (l : List Int) (i : Nat) (h : i < l.length) : rd l (i : Int) = l[i] := by
  unfold rd
  simp [List.getD_eq_getElem?_getD, List.getElem?_eq_getElem h]
theorem rd26 (l : List S26) (i : Nat) (h : i < l.length) : rd_T26 l (i : Int) = l[i] := by
  unfold rd_T26
  simp [List.getD_eq_getElem?_getD, List.getElem?_eq_getElem h]
theorem rd23 (l : List S23) (i : Nat) (h : i < l.length) : rd_T23 l (i : Int) = l[i] := by
  unfold rd_T23
  simp [List.getD_eq_getElem?_getD, List.getElem?_eq_getElem h]
theorem toDir_loop (l : List S23) (hn : l.length ≤ 9223372036854775807) : ∀ (d k i : Nat) (x : List S26), x.length = l.length → i + d = l.length → d < k →
    laws_toDirectionS.l0 k l x (i : Int) = some (x.take i ++ (l.drop i).map convD) := by
  intro d
  induction d with
  | zero =>
    intro k i x hx hi hk
    obtain ⟨k, rfl⟩ : ∃ m, k = m + 1 := ⟨k - 1, by omega⟩
    simp only [laws_toDirectionS.l0]
    rw [if_neg (by omega), List.drop_of_length_le (by omega), List.take_of_length_le (by omega)]
    simp
  | succ d ih =>
    intro k i x hx hi hk
    obtain ⟨k, rfl⟩ : ∃ m, k = m + 1 := ⟨k - 1, by omega⟩
    have hlt : i < l.length := by omega
    simp only [laws_toDirectionS.l0]
    rw [if_pos (by omega), if_pos (by omega), rd23 l i hlt]
    simp only [laws_toDirection.f, Option.bind_some]
    rw [if_pos (by omega), w64_succ hlt hn, ih k (i + 1) _ (by simpa using hx) (by omega) (by omega), List.drop_eq_getElem_cons hlt]
    congr 1
    rw [List.map_cons, Int.toNat_natCast, List.take_succ_eq_append_getElem (by simp; omega)]
    simp [convD, take_set_self]
theorem toDirS_f (l : List S23) (hn : l.length ≤ 8796093022208) (k : Nat) (hk : l.length < k) : laws_toDirectionS.f k l = some (l.map convD) := by
  unfold laws_toDirectionS.f
  rw [if_pos (by omega), if_pos (by omega)]
  have := toDir_loop l (by omega) l.length k 0 (List.replicate ((l.length : Int)).toNat z26) (by simp) (by omega) hk
  simpa using this
theorem toInt_loop (l : List Int) (hn : l.length ≤ 9223372036854775807) : ∀ (d k i : Nat) (x : List Int), x.length = l.length → i + d = l.length → d < k →
    laws_toInt64S.l0 k l x (i : Int) = some (x.take i ++ l.drop i) := by
  intro d
  induction d with
  | zero =>
    intro k i x hx hi hk
    obtain ⟨k, rfl⟩ : ∃ m, k = m + 1 := ⟨k - 1, by omega⟩
    simp only [laws_toInt64S.l0]
    rw [if_neg (by omega), List.drop_of_length_le (by omega), List.take_of_length_le (by omega)]
    simp
  | succ d ih =>
    intro k i x hx hi hk
    obtain ⟨k, rfl⟩ : ∃ m, k = m + 1 := ⟨k - 1, by omega⟩
    have hlt : i < l.length := by omega
    simp only [laws_toInt64S.l0]
    rw [if_pos (by omega), if_pos (by omega), if_pos (by omega), rdI l i hlt, w64_succ hlt hn, ih k (i + 1) _ (by simpa using hx) (by omega) (by omega), List.drop_eq_getElem_cons hlt]
    congr 1
    rw [Int.toNat_natCast, List.take_succ_eq_append_getElem (by simp; omega)]
    simp [take_set_self]
theorem toIntS_f (l : List Int) (hn : l.length ≤ 8796093022208) (k : Nat) (hk : l.length < k) : laws_toInt64S.f k l = some l := by
  unfold laws_toInt64S.f
  rw [if_pos (by omega), if_pos (by omega)]
  have := toInt_loop l (by omega) l.length k 0 (List.replicate ((l.length : Int)).toNat 0) (by simp) (by omega) hk
  simpa using this
theorem eqDirS_loop (l : List S26) (hn : l.length ≤ 9223372036854775807) : ∀ (d k i : Nat), i + d = l.length → d < k → laws_eqDirectionS.l0 k l l (i : Int) = some true := by
  intro d
  induction d with
  | zero =>
    intro k i hi hk
    obtain ⟨k, rfl⟩ : ∃ m, k = m + 1 := ⟨k - 1, by omega⟩
    simp only [laws_eqDirectionS.l0]
    rw [if_neg (by omega)]
  | succ d ih =>
    intro k i hi hk
    obtain ⟨k, rfl⟩ : ∃ m, k = m + 1 := ⟨k - 1, by omega⟩
    have hlt : i < l.length := by omega
    simp only [laws_eqDirectionS.l0]
    rw [if_pos (by omega), if_pos (by omega), if_pos (by omega), eqDir_refl]
    simp only [Option.bind_some, if_true]
    rw [w64_succ hlt hn, ih k (i + 1) (by omega) (by omega)]
theorem eqDirS_f (l : List S26) (hn : l.length ≤ 9223372036854775807) (k : Nat) (hk : l.length < k) : laws_eqDirectionS.f k l l = some true := by
  have := eqDirS_loop l hn l.length k 0 (by omega) hk
  simpa [laws_eqDirectionS.f] using this
theorem eqIntS_loop (l : List Int) (hn : l.length ≤ 9223372036854775807) : ∀ (d k i : Nat), i + d = l.length → d < k → laws_eqInt64S.l0 k l l (i : Int) = some true := by
  intro d
  induction d with
  | zero =>
    intro k i hi hk
    obtain ⟨k, rfl⟩ : ∃ m, k = m + 1 := ⟨k - 1, by omega⟩
    simp only [laws_eqInt64S.l0]
    rw [if_neg (by omega)]
  | succ d ih =>
    intro k i hi hk
    obtain ⟨k, rfl⟩ : ∃ m, k = m + 1 := ⟨k - 1, by omega⟩
    have hlt : i < l.length := by omega
    simp only [laws_eqInt64S.l0]
    rw [if_pos (by omega), if_pos (by omega), if_pos (by omega), if_pos True.intro, w64_succ hlt hn, ih k (i + 1) (by omega) (by omega)]
theorem eqIntS_f (l : List Int) (hn : l.length ≤ 9223372036854775807) (k : Nat) (hk : l.length < k) : laws_eqInt64S.f k l l = some true := by
  have := eqIntS_loop l hn l.length k 0 (by omega) hk
  simpa [laws_eqInt64S.f] using this
theorem szDirS_f (l : List S23) (a : Int) (ha : 0 ≤ a ∧ a ≤ 1048576) (hn : l.length ≤ 9223372036854775807) : ∃ r, laws_szDirectionS.f l a = some r ∧ (r < 0 ∨ (r = a - l.length ∧ (l.length : Int) ≤ a)) := by
  unfold laws_szDirectionS.f
  rw [w64 (n := a - (l.length : Int)) (by omega) (by omega)]
  by_cases h : a - (l.length : Int) < 0
  · rw [if_pos h]; exact ⟨_, rfl, .inl (by decide)⟩
  · rw [if_neg h]; exact ⟨_, rfl, .inr ⟨rfl, by omega⟩⟩

/-! ### Rows of directions -/
def areD (l : List S26) : Bool := l.all (fun x => vdir x.f0 x.f1) && inB (l.length : Int) 1 7
theorem vldD_eq (x : S26) : vldD x = vdir x.f0 x.f1 := by unfold vldD; rw [vdir_f]; rfl
theorem areDirections_f (l : List S26) : impl_areDirections.f l = some (areD l) := by
  unfold impl_areDirections.f areD
  rw [within_f]
  simp only [Option.bind_some, show vldD = fun x => vdir x.f0 x.f1 from funext vldD_eq]
  cases inB (l.length : Int) 1 7 <;> simp
theorem l09Dirs_loop (l : List S26) (hn : l.length ≤ 9223372036854775807) : ∀ (d k i : Nat), i + d = l.length → d < k →
    spec_l09Directions.l0 k l (l.length : Int) (i : Int) = some ((l.drop i).all (fun x => vdir x.f0 x.f1) && inB (l.length : Int) 1 7) := by
  intro d
  induction d with
  | zero =>
    intro k i hi hk
    obtain ⟨k, rfl⟩ : ∃ m, k = m + 1 := ⟨k - 1, by omega⟩
    simp only [spec_l09Directions.l0]
    rw [if_neg (by omega), List.drop_of_length_le (by omega)]
    unfold inB
    by_cases h : (l.length : Int) ≥ 1
    · rw [if_pos h]; simp [h]
    · rw [if_neg h]; simp [h]
  | succ d ih =>
    intro k i hi hk
    obtain ⟨k, rfl⟩ : ∃ m, k = m + 1 := ⟨k - 1, by omega⟩
    have hlt : i < l.length := by omega
    simp only [spec_l09Directions.l0]
    rw [if_pos (by omega), if_pos (by omega), if_pos (by omega), rd26 l i hlt, dir_f, List.drop_eq_getElem_cons hlt]
    simp only [Option.bind_some, List.all_cons]
    rw [w64_succ hlt hn, ih k (i + 1) (by omega) (by omega)]
    cases vdir l[i].f0 l[i].f1 <;> simp
theorem specDirs_f (l : List S26) (hn : l.length ≤ 9223372036854775807) (k : Nat) (hk : l.length < k) : spec_l09Directions.f k l = some (areD l) := by
  have := l09Dirs_loop l hn l.length k 0 (by omega) hk
  simpa [spec_l09Directions.f, areD] using this

/-! ### Membership -/
theorem mem_drop_step (l : List Int) (v : Int) (i : Nat) (h : i < l.length) : decide (v ∈ l.drop i) = (decide (v = l[i]) || decide (v ∈ l.drop (i + 1))) := by
  rw [← Bool.decide_or, decide_eq_decide, List.drop_eq_getElem_cons h, List.mem_cons]
theorem has_loop (l : List Int) (v : Int) (hn : l.length ≤ 9223372036854775807) : ∀ (d k i : Nat), i + d = l.length → d < k →
    spec_l00Has.l0 k l v (i : Int) = some (decide (v ∈ l.drop i)) := by
  intro d
  induction d with
  | zero =>
    intro k i hi hk
    obtain ⟨k, rfl⟩ : ∃ m, k = m + 1 := ⟨k - 1, by omega⟩
    simp only [spec_l00Has.l0]
    rw [if_neg (by omega), List.drop_of_length_le (by omega)]
    simp
  | succ d ih =>
    intro k i hi hk
    obtain ⟨k, rfl⟩ : ∃ m, k = m + 1 := ⟨k - 1, by omega⟩
    have hlt : i < l.length := by omega
    simp only [spec_l00Has.l0]
    rw [if_pos (by omega), if_pos (by omega), rdI l i hlt, w64_succ hlt hn, ih k (i + 1) (by omega) (by omega), mem_drop_step l v i hlt]
    by_cases h : l[i] = v
    · rw [if_pos h, decide_eq_true h.symm]; rfl
    · rw [if_neg h, decide_eq_false (Ne.symm h)]; rfl
theorem has_f (l : List Int) (v : Int) (hn : l.length ≤ 9223372036854775807) (k : Nat) (hk : l.length < k) : spec_l00Has.f k l v = some (decide (v ∈ l)) := by
  have := has_loop l v hn l.length k 0 (by omega) hk
  simpa [spec_l00Has.f] using this
theorem index_loop (l : List Int) (v : Int) (hn : l.length ≤ 9223372036854775807) : ∀ (d k i : Nat), i + d = l.length → d < k →
    ∃ r, slices_Index_int64_int64.l0 k l v (l.length : Int) (i : Int) = some r ∧ decide (r ≥ 0) = decide (v ∈ l.drop i) := by
  intro d
  induction d with
  | zero =>
    intro k i hi hk
    obtain ⟨k, rfl⟩ : ∃ m, k = m + 1 := ⟨k - 1, by omega⟩
    simp only [slices_Index_int64_int64.l0]
    rw [if_neg (by omega), List.drop_of_length_le (by omega)]
    exact ⟨_, rfl, by simp⟩
  | succ d ih =>
    intro k i hi hk
    obtain ⟨k, rfl⟩ : ∃ m, k = m + 1 := ⟨k - 1, by omega⟩
    have hlt : i < l.length := by omega
    simp only [slices_Index_int64_int64.l0]
    rw [if_pos (by omega), if_pos (by omega), if_pos (by omega), rdI l i hlt, w64_succ hlt hn, mem_drop_step l v i hlt]
    by_cases h : v = l[i]
    · rw [if_pos h, decide_eq_true h]; exact ⟨_, rfl, by simp⟩
    · rw [if_neg h]
      obtain ⟨r, h1, h2⟩ := ih k (i + 1) (by omega) (by omega)
      exact ⟨r, h1, by rw [h2, decide_eq_false h]; rfl⟩
theorem contains_f (l : List Int) (v : Int) (hn : l.length ≤ 9223372036854775807) (k : Nat) (hk : l.length < k) : slices_Contains_int64_int64.f k l v = some (decide (v ∈ l)) := by
  obtain ⟨r, h1, h2⟩ := index_loop l v hn l.length k 0 (by omega) hk
  unfold slices_Contains_int64_int64.f slices_Index_int64_int64.f
  rw [show ((0 : Nat) : Int) = 0 from rfl] at h1
  rw [h1]
  simp only [Option.bind_some, h2, List.drop_zero]

/-! ### Orders: each beam once -/
theorem once_of {α : Type} [DecidableEq α] : ∀ (m l : List α), m.Nodup → (∀ x ∈ m, x ∈ l) → l.length ≤ m.length → l.Nodup ∧ ∀ x ∈ l, x ∈ m := by
  intro m
  induction m with
  | nil =>
    intro l _ _ h
    have : l = [] := List.eq_nil_of_length_eq_zero (by simpa using h)
    subst this
    exact ⟨List.nodup_nil, fun x hx => hx⟩
  | cons a m ih =>
    intro l hm hs hl
    rw [List.nodup_cons] at hm
    have ha : a ∈ l := hs a (List.mem_cons_self ..)
    have hlen : (l.erase a).length = l.length - 1 := List.length_erase_of_mem ha
    obtain ⟨h1, h2⟩ := ih (l.erase a) hm.2 (fun x hx => (List.mem_erase_of_ne (by rintro rfl; exact hm.1 hx)).2 (hs x (List.mem_cons_of_mem _ hx))) (by rw [hlen]; simp at hl; omega)
    have hp := List.perm_cons_erase ha
    refine ⟨hp.nodup_iff.2 (List.nodup_cons.2 ⟨fun h => hm.1 (h2 _ h), h1⟩), fun x hx => ?_⟩
    rcases List.mem_cons.1 (hp.mem_iff.1 hx) with rfl | h
    · exact List.mem_cons_self ..
    · exact List.mem_cons_of_mem _ (h2 _ h)
def upto (n : Nat) : List Int := (List.range n).map (fun (i : Nat) => (i : Int))
theorem upto_nodup (n : Nat) : (upto n).Nodup := by
  unfold upto
  refine List.pairwise_map.2 (List.nodup_range.imp ?_)
  intro a b h; omega
theorem mem_upto {n : Nat} {x : Int} : x ∈ upto n ↔ 0 ≤ x ∧ x < n := by
  unfold upto
  simp only [List.mem_map, List.mem_range]
  constructor
  · rintro ⟨a, h, rfl⟩; omega
  · rintro ⟨h0, h1⟩; exact ⟨x.toNat, by omega, by omega⟩
def okO (n : Nat) (o : List Int) : Prop := o.Nodup ∧ ∀ x ∈ o, 0 ≤ x ∧ x < n
theorem okO_iff (n : Nat) (o : List Int) (h : o.length = n) : okO n o ↔ ∀ j : Nat, j < n → (j : Int) ∈ o := by
  constructor
  · rintro ⟨h1, h2⟩ j hj
    exact (once_of o (upto n) h1 (fun x hx => mem_upto.2 (h2 x hx)) (by simp [upto, h])).2 _ (mem_upto.2 ⟨by omega, by omega⟩)
  · intro hj
    obtain ⟨h1, h2⟩ := once_of (upto n) o (upto_nodup n) (fun x hx => by
      obtain ⟨h0, h1⟩ := mem_upto.1 hx
      have := hj x.toNat (by omega)
      rwa [Int.toNat_of_nonneg h0] at this) (by simp [upto, h])
    exact ⟨h1, fun x hx => mem_upto.1 (h2 x hx)⟩

/-! ### The ticks of a tour -/
theorem qmax (a b : Int) : spec_l00Max.f a b = some (mx a b) := by
  unfold spec_l00Max.f mx
  split <;> split <;> first | rfl | (congr 1; omega)
theorem qswitch (a b c d : Int) : impl_switchTicks.f a b c d = spec_l09Switch.f a b c d := by
  unfold impl_switchTicks.f spec_l09Switch.f impl_far.f spec_l09Abs.f
  simp only [qmax, Option.bind_some]
theorem qswitch_some (a b c d : Int) : ∃ r, spec_l09Switch.f a b c d = some r := by
  unfold spec_l09Switch.f spec_l09Abs.f
  simp only [qmax, Option.bind_some]
  exact ⟨_, rfl⟩
theorem ticks_loop (l : List S26) (o : List Int) (ho : ∀ x ∈ o, 0 ≤ x ∧ x < l.length) (hn : o.length ≤ 9223372036854775806) : ∀ (d i : Nat) (c : Int), i + d = o.length →
    ∃ r, ∀ k, d < k → spec_l09Ticks.l0 k l o c (o.length : Int) (i : Int) = some r ∧ impl_tourTicks.l0 k l o c o (o.length : Int) (i : Int) = some r := by
  intro d
  induction d with
  | zero =>
    intro i c hi
    refine ⟨c, fun k hk => ?_⟩
    obtain ⟨k, rfl⟩ : ∃ m, k = m + 1 := ⟨k - 1, by omega⟩
    simp only [spec_l09Ticks.l0, impl_tourTicks.l0]
    rw [if_neg (by omega), if_neg (by omega)]
    exact ⟨rfl, rfl⟩
  | succ d ih =>
    intro i c hi
    have hlt : i < o.length := by omega
    have hp : 0 < o.length := by omega
    have hml : (i + 1) % o.length < o.length := Nat.mod_lt _ hp
    have ht : Int.tmod ((i + 1 : Nat) : Int) (o.length : Int) = (((i + 1) % o.length : Nat) : Int) := by rw [Int.tmod_eq_emod_of_nonneg (by omega)]; rfl
    have h1 := ho _ (List.getElem_mem hlt)
    have h2 := ho _ (List.getElem_mem hml)
    obtain ⟨s, hs⟩ := qswitch_some (rd_T26 l o[i]).f0 (rd_T26 l o[i]).f1 (rd_T26 l o[(i + 1) % o.length]).f0 (rd_T26 l o[(i + 1) % o.length]).f1
    obtain ⟨r, hr⟩ := ih (i + 1) (wrap64 (c + s)) (by omega)
    refine ⟨r, fun k hk => ?_⟩
    obtain ⟨k, rfl⟩ : ∃ m, k = m + 1 := ⟨k - 1, by omega⟩
    simp only [spec_l09Ticks.l0, impl_tourTicks.l0]
    rw [w64_succ hlt (by omega), ht, rdI o i hlt, rdI o _ hml, qswitch, hs]
    simp only [Option.bind_some]
    rw [if_pos (by omega), if_pos (by omega), if_pos (by omega), if_pos (by omega), if_pos (by omega), if_neg (by omega), if_pos (by omega), if_pos (by omega), if_pos (by omega), if_pos (by omega)]
    rw [if_pos (by omega), if_pos (by omega), if_pos (by omega), if_pos (by omega), if_pos (by omega), if_neg (by omega), if_pos (by omega), if_pos (by omega), if_pos (by omega), if_pos (by omega)]
    exact hr k (by omega)
theorem ticks_f (l : List S26) (o : List Int) (ho : ∀ x ∈ o, 0 ≤ x ∧ x < l.length) (hn : o.length ≤ 9223372036854775806) :
    ∃ r, ∀ k, o.length < k → spec_l09Ticks.f k l o = some r ∧ impl_tourTicks.f k l o = some r := by
  obtain ⟨r, hr⟩ := ticks_loop l o ho hn o.length 0 0 (by omega)
  exact ⟨r, fun k hk => hr k hk⟩

theorem okO_take_succ (n : Nat) (o : List Int) (i : Nat) (h : i < o.length) (h0 : okO n (o.take i)) (h1 : 0 ≤ o[i] ∧ o[i] < n) (h2 : o[i] ∉ o.take i) : okO n (o.take (i + 1)) := by
  rw [List.take_succ_eq_append_getElem h]
  refine ⟨?_, ?_⟩
  · rw [List.nodup_append]
    refine ⟨h0.1, by simp, ?_⟩
    intro a ha b hb hab
    simp at hb
    subst hab; subst hb
    exact h2 ha
  · intro x hx
    rcases List.mem_append.1 hx with h | h
    · exact h0.2 x h
    · simp at h; subst h; exact h1
theorem okO_take (n : Nat) (o : List Int) (i : Nat) (h : okO n o) : okO n (o.take i) :=
  ⟨h.1.sublist (List.take_sublist _ _), fun x hx => h.2 x (List.mem_of_mem_take hx)⟩
theorem not_mem_take (o : List Int) (i : Nat) (hi : i < o.length) (h : o.Nodup) : o[i] ∉ o.take i := by
  have h1 : (o.take (i + 1)).Nodup := h.sublist (List.take_sublist _ _)
  rw [List.take_succ_eq_append_getElem hi, List.nodup_append] at h1
  intro hm
  exact h1.2.2 _ hm _ (by simp) rfl

open Classical in
theorem specTour_loop (l : List S26) (o : List Int) (hl : o.length = l.length) (h7 : l.length ≤ 1000) (r : Int) (hr : okO l.length o → ∀ k, o.length < k → spec_l09Ticks.f k l o = some r) : ∀ (d k i : Nat), i + d = o.length → d + o.length + 1 < k → okO l.length (o.take i) →
    spec_TourTicks.l0 k l o (o.take i) (o.length : Int) (i : Int) = some (if okO l.length o then (r, true) else (0, false)) := by
  intro d
  induction d with
  | zero =>
    intro k i hi hk h0
    obtain ⟨k, rfl⟩ : ∃ m, k = m + 1 := ⟨k - 1, by omega⟩
    rw [List.take_of_length_le (by omega)] at h0
    simp only [spec_TourTicks.l0]
    rw [if_neg (by omega), hr h0 k (by omega), if_pos h0]
    rfl
  | succ d ih =>
    intro k i hi hk h0
    obtain ⟨k, rfl⟩ : ∃ m, k = m + 1 := ⟨k - 1, by omega⟩
    have hlt : i < o.length := by omega
    have htl : (o.take i).length = i := by simp; omega
    simp only [spec_TourTicks.l0]
    rw [if_pos (by omega), if_pos (by omega), if_pos (by omega), rdI o i hlt, in_f, w64 (n := (l.length : Int) - 1) (by omega) (by omega)]
    simp only [Option.bind_some]
    by_cases hin : inB o[i] 0 ((l.length : Int) - 1) = true
    · rw [if_pos hin, has_f _ _ (by omega) _ (by omega)]
      simp only [Option.bind_some]
      by_cases hm : o[i] ∈ o.take i
      · rw [if_pos (by simpa using hm), if_neg (fun h => not_mem_take o i hlt h.1 hm)]
      · rw [if_neg (by simpa using hm), if_pos (by omega), w64_succ hlt (by omega), ← List.take_succ_eq_append_getElem hlt]
        refine ih k (i + 1) (by omega) (by omega) (okO_take_succ _ o i hlt h0 ?_ hm)
        have := (inB_iff _ _ _).1 hin
        omega
    · rw [if_neg hin, if_neg]
      intro h
      have := h.2 _ (List.getElem_mem hlt)
      exact hin ((inB_iff _ _ _).2 (by omega))
open Classical in
theorem implTour_loop (l : List S26) (o : List Int) (hl : o.length = l.length) (h7 : l.length ≤ 1000) (r : Int) (hr : okO l.length o → ∀ k, o.length < k → impl_tourTicks.f k l o = some r) : ∀ (d k i : Nat), i + d = o.length → d + o.length + 1 < k → (∀ j : Nat, j < i → (j : Int) ∈ o) →
    impl_TourTicks.l0 k l o (o.length : Int) (i : Int) = some (if okO l.length o then (r, true) else (0, false)) := by
  intro d
  induction d with
  | zero =>
    intro k i hi hk h0
    obtain ⟨k, rfl⟩ : ∃ m, k = m + 1 := ⟨k - 1, by omega⟩
    have h1 : okO l.length o := (okO_iff _ o hl).2 (fun j hj => h0 j (by omega))
    simp only [impl_TourTicks.l0]
    rw [if_neg (by omega), hr h1 k (by omega), if_pos h1]
    rfl
  | succ d ih =>
    intro k i hi hk h0
    obtain ⟨k, rfl⟩ : ∃ m, k = m + 1 := ⟨k - 1, by omega⟩
    have hlt : i < o.length := by omega
    simp only [impl_TourTicks.l0]
    rw [if_pos (by omega), contains_f _ _ (by omega) _ (by omega)]
    simp only [Option.bind_some]
    by_cases hm : (i : Int) ∈ o
    · rw [if_pos (by simpa using hm), w64_succ hlt (by omega)]
      refine ih k (i + 1) (by omega) (by omega) (fun j hj => ?_)
      rcases Nat.lt_or_ge j i with h | h
      · exact h0 j h
      · obtain rfl : j = i := by omega
        exact hm
    · rw [if_neg (by simpa using hm), if_neg (fun h => hm ((okO_iff _ o hl).1 h i (by omega)))]
theorem tour_f (l : List S26) (o : List Int) (hn : l.length ≤ 9223372036854775807) (k : Nat) (hk : l.length + 2000 < k) : ∃ r, spec_TourTicks.f k l o = some r ∧ impl_TourTicks.f k l o = some r := by
  unfold spec_TourTicks.f impl_TourTicks.f
  rw [specDirs_f l hn k (by omega), areDirections_f]
  obtain ⟨k, rfl⟩ : ∃ m, k = m + 1 := ⟨k - 1, by omega⟩
  simp only [Option.bind_some, spec_TourTicks.j0, impl_TourTicks.j0]
  cases h : areD l
  · exact ⟨_, rfl, rfl⟩
  · simp only [if_true]
    by_cases hlen : o.length = l.length
    · have hne : ((o.length : Int) != (l.length : Int)) = false := by simp [hlen]
      rw [hne]
      simp only [Bool.false_eq_true, if_false]
      simp only [areD, Bool.and_eq_true, inB_iff] at h
      have h7 : l.length ≤ 7 := by omega
      obtain ⟨r, hr⟩ : ∃ r, okO l.length o → ∀ k, o.length < k → spec_l09Ticks.f k l o = some r ∧ impl_tourTicks.f k l o = some r := by
        by_cases ho : okO l.length o
        · obtain ⟨r, hr⟩ := ticks_f l o ho.2 (by omega)
          exact ⟨r, fun _ => hr⟩
        · exact ⟨0, fun h => absurd h ho⟩
      have h1 := specTour_loop l o hlen (by omega) r (fun h k hk => (hr h k hk).1) o.length k 0 (by omega) (by omega) ⟨by simp, by simp⟩
      have h2 := implTour_loop l o hlen (by omega) r (fun h k hk => (hr h k hk).2) o.length k 0 (by omega) (by omega) (by simp)
      exact ⟨_, h1, h2⟩
    · have hne : ((o.length : Int) != (l.length : Int)) = true := by simp; omega
      rw [hne]
      simp
theorem tourTicks (l : List S23) (o : List Int) (hn : l.length ≤ 9223372036854775807) (hn' : o.length ≤ 9223372036854775807) : ∃ k, laws_FnExactTourTicks.f k l o = some true := by
  refine ⟨l.length + o.length + 2003, ?_⟩
  unfold laws_FnExactTourTicks.f
  by_cases h0 : (o.length : Int) > 1048576
  · rw [if_pos h0]
  rw [if_neg h0]
  obtain ⟨r, hr, h⟩ := szDirS_f l 1048576 (by omega) hn
  rw [hr]
  simp only [Option.bind_some]
  rcases h with h | ⟨_, h⟩
  · rw [if_pos h]
  · by_cases h' : r < 0
    · rw [if_pos h']
    · rw [if_neg h', toDirS_f l (by omega) _ (by omega), toIntS_f o (by omega) _ (by omega)]
      obtain ⟨⟨x, y⟩, h1, h2⟩ := tour_f (l.map convD) o (by simpa using hn) (l.length + o.length + 2003) (by simp; omega)
      simp only [Option.bind_some]
      rw [h1, h2]
      simp only [Option.bind_some, if_true, laws_FnExactTourTicks.j0]
      rw [toDirS_f l (by omega) _ (by omega), toIntS_f o (by omega) _ (by omega)]
      simp only [Option.bind_some]
      rw [eqDirS_f _ (by simpa using hn) _ (by simp; omega), eqIntS_f _ (by omega) _ (by omega)]
      simp
end Go.Proofs.Ytekcngoemeadlaa.PlainT
