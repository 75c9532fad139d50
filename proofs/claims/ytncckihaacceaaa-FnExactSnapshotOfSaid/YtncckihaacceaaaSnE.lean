/-
  The plain law of FnExactSnapshotOf.
-/
import Derived.Test.YtncckihaacceaaaSx5
import Derived.Test.YtncckihaacceaaaSnD
namespace Go.Proofs.Ytncckihaacceaaa.SnP
open Go.RowKit Go.Proofs.YtncckihaacceaaaW.PrintWords Go.Proofs.YtncckihaacceaaaW.PrintLast Go.Proofs.YtncckihaacceaaaW.PrintMore
open Go.Proofs.Ytncckihaacceaaa.S

def validS (S : List S69) : Bool := S.all good && decide ((S.length : Int) ≤ 4)
theorem implS_f (S : List S69) (hn : S.length ≤ 9223372036854775807) (k : Nat) (hk : S.length < k) : impl_ValidSources.f k S = some (validS S) := by
  have := impl_loop S hn S.length k 0 (by omega) hk
  rw [show ((0 : Nat) : Int) = 0 from rfl, List.drop_zero] at this
  exact this
/-- What is required of places. -/
theorem validP_spec {P : List S88} (h : validP P = true) : P.length ≤ 16 ∧ ∀ (i : Nat) (h : i < P.length), goodP P[i] = true := by
  simp only [validP, Bool.and_eq_true] at h
  have h1 := (inB_iff _ _ _).1 h.1
  refine ⟨by omega, fun i hi => ?_⟩
  have := okP_good P P.length 0 h.2 i (by omega) (by omega)
  rwa [List.getD_eq_getElem?_getD, List.getElem?_eq_getElem hi] at this
theorem validS_spec {S : List S69} (h : validS S = true) : S.length ≤ 4 ∧ ∀ (i : Nat) (h : i < S.length), good S[i] = true := by
  simp only [validS, Bool.and_eq_true, List.all_eq_true, decide_eq_true_eq] at h
  exact ⟨by omega, fun i hi => h.1 _ (List.getElem_mem hi)⟩
/-- What both programs return. -/
def snap (P : List S88) (S : List S69) (lv : Nat) (sd ix : Int) : List C64 × Bool :=
  if (validP P && (validS S && (inB sd 0 2147483647 && inB ix 0 1000000))) = true then (shotV P S lv sd ix, true) else ([], false)
theorem spec_snap (P : List S88) (S : List S69) (lv : Nat) (sd ix : Int) (k : Nat) (hk : 400 ≤ k) : spec_SnapshotOf.f k P S lv sd ix = some (snap P S lv sd ix) := by
  unfold spec_SnapshotOf.f spec_l06Ask.f snap
  rw [specP_f P k (by omega)]
  simp only [Option.bind_some]
  cases hP : validP P
  · simp
  · rw [if_pos rfl, spec_f S k (by omega)]
    simp only [Option.bind_some, Bool.true_and]
    have e : (S.all good && decide ((S.length : Int) ≤ 4)) = validS S := rfl
    rw [e]
    cases hS : validS S
    · simp
    · rw [if_pos rfl]
      unfold spec_l06Seed.f spec_l06Index.f
      rw [in_f, in_f]
      simp only [Option.bind_some, Bool.true_and]
      cases hs : inB sd 0 2147483647
      · simp
      · rw [if_pos rfl]
        cases hi : inB ix 0 1000000
        · simp
        · have hs' := (inB_iff _ _ _).1 hs
          have hi' := (inB_iff _ _ _).1 hi
          obtain ⟨p1, p2⟩ := validP_spec hP
          obtain ⟨q1, q2⟩ := validS_spec hS
          rw [if_pos rfl, (shot_ok lv p1 p2 q2 q1 hs'.1 hs'.2 hi'.1 (by omega) k (by omega)).1]
          simp
theorem impl_snap (P : List S88) (S : List S69) (lv : Nat) (sd ix : Int) (hn : S.length ≤ 9223372036854775807) (k : Nat) (hk : 400 ≤ k) (hk2 : S.length < k) : impl_SnapshotOf.f k P S lv sd ix = some (snap P S lv sd ix) := by
  unfold impl_SnapshotOf.f snap
  rw [implP_f P k (by omega)]
  simp only [Option.bind_some]
  cases hP : validP P
  · simp
  · rw [if_pos rfl, implS_f S hn k hk2]
    simp only [Option.bind_some, Bool.true_and]
    cases hS : validS S
    · simp
    · rw [if_pos rfl]
      unfold impl_isSeed.f impl_isIndex.f
      rw [within_f, within_f]
      simp only [Option.bind_some, Bool.true_and]
      cases hs : inB sd 0 2147483647
      · simp
      · rw [if_pos rfl]
        cases hi : inB ix 0 1000000
        · simp
        · have hs' := (inB_iff _ _ _).1 hs
          have hi' := (inB_iff _ _ _).1 hi
          obtain ⟨p1, p2⟩ := validP_spec hP
          obtain ⟨q1, q2⟩ := validS_spec hS
          rw [if_pos rfl, (shot_ok lv p1 p2 q2 q1 hs'.1 hs'.2 hi'.1 (by omega) k (by omega)).2]
          simp
theorem snap_len (P : List S88) (S : List S69) (lv : Nat) (sd ix : Int) : (snap P S lv sd ix).1.length ≤ 16 := by
  unfold snap
  split
  · rename_i h
    simp only [Bool.and_eq_true] at h
    show (shotV P S lv sd ix).length ≤ 16
    rw [shotV_len]
    exact (validP_spec h.1).1
  · exact Nat.zero_le _
theorem snapshotOf (l0 : List S90) (l1 : List S73) (lv : Nat) (sd ix : Int) (h0 : l0.length ≤ 9223372036854775807) (h1 : l1.length ≤ 9223372036854775807) : ∃ k, laws_FnExactSnapshotOf.f k l0 l1 lv sd ix = some true := by
  refine ⟨l0.length + l1.length + 500, ?_⟩
  obtain ⟨K, hK⟩ : ∃ K, l0.length + l1.length + 500 = K + 3 := ⟨l0.length + l1.length + 497, by omega⟩
  rw [hK]
  unfold laws_FnExactSnapshotOf.f
  obtain ⟨r, hr, h⟩ := szPlaceS_f l0 1048576 (by omega) h0
  rw [hr]
  simp only [Option.bind_some]
  by_cases hr0 : r < 0
  · rw [if_pos hr0]
  rw [if_neg hr0]
  obtain ⟨e1, e2⟩ := h.resolve_left hr0
  obtain ⟨r', hr', h'⟩ := szSourceS_f l1 r (by omega) h1
  rw [hr']
  simp only [Option.bind_some]
  by_cases hr0' : r' < 0
  · rw [if_pos hr0']
  rw [if_neg hr0']
  obtain ⟨e1', e2'⟩ := h'.resolve_left hr0'
  obtain ⟨P, hP⟩ : ∃ P, P = l0.map convP := ⟨_, rfl⟩
  obtain ⟨S, hS⟩ : ∃ S, S = l1.map conv := ⟨_, rfl⟩
  have lP : P.length = l0.length := by rw [hP, List.length_map]
  have lS : S.length = l1.length := by rw [hS, List.length_map]
  have tP : ∀ k, l0.length < k → laws_toPlaceS.f k l0 = some P := fun k hk => by rw [toPlaceS_f l0 (by omega) k hk, hP]
  have tS : ∀ k, l1.length < k → laws_toSourceS.f k l1 = some S := fun k hk => by rw [toSourceS_f l1 (by omega) k hk, hS]
  have hlen := snap_len P S lv sd ix
  obtain ⟨G, hG⟩ : ∃ G, G = snap P S lv sd ix := ⟨_, rfl⟩
  rw [tP _ (by omega)]
  simp only [Option.bind_some]
  rw [tS _ (by omega)]
  simp only [Option.bind_some]
  rw [spec_snap P S lv sd ix _ (by omega)]
  simp only [Option.bind_some]
  rw [impl_snap P S lv sd ix (by omega) _ (by omega) (by omega)]
  simp only [Option.bind_some]
  rw [← hG] at hlen ⊢
  have heq : ∀ l : List C64, laws_eqComplex64S.f l l = some true := fun l => by unfold laws_eqComplex64S.f; rw [if_pos rfl]
  rw [heq]
  simp only [Option.bind_some, if_true, bne_self_eq_false]
  show laws_FnExactSnapshotOf.j0 (K + 2 + 1) _ _ _ _ _ _ _ _ _ _ _ _ = _
  simp only [laws_FnExactSnapshotOf.j0]
  rw [if_neg (by decide), tP _ (by omega)]
  simp only [Option.bind_some]
  rw [eqPlaceS_f P (by omega) _ (by omega)]
  simp only [Option.bind_some, if_true]
  rw [tS _ (by omega)]
  simp only [Option.bind_some]
  rw [eqSourceS_f S (by omega) _ (by omega)]
  simp only [Option.bind_some, if_true]
  obtain ⟨P', hP'⟩ := markP_loop P.length (by omega) P.length (K + 2) 0 1 P rfl (by omega) (by omega) (by decide) (by omega)
  obtain ⟨S', hS'⟩ := markS_loop S.length (by omega) S.length (K + 2) 0 (1 + 2 * (P.length : Int)) S rfl (by omega) (by omega) (by omega) (by omega)
  have mP : laws_markPlaceS.f (K + 2) P 1 = some (1 + 2 * (P.length : Int), P') := hP'
  have mS : laws_markSourceS.f (K + 2) S (1 + 2 * (P.length : Int)) = some (1 + 2 * (P.length : Int) + 4 * (S.length : Int), S') := hS'
  rw [mP]
  simp only [Option.bind_some]
  rw [mS]
  simp only [Option.bind_some]
  rw [if_neg (by omega), heq]
  simp only [Option.bind_some, if_true, bne_self_eq_false]
  show laws_FnExactSnapshotOf.j1 (K + 1 + 1) _ _ _ _ _ _ _ _ _ = _
  simp only [laws_FnExactSnapshotOf.j1]
  rw [if_neg (by decide), mark_f G.1 (by omega) _ (by omega)]
  simp only [Option.bind_some]
  rw [held_f G.1.length (by omega) _ (by omega)]
  simp only [Option.bind_some, if_true]
  rw [if_neg (by omega), tP _ (by omega)]
  simp only [Option.bind_some]
  rw [tS _ (by omega)]
  simp only [Option.bind_some]
  rw [impl_snap P S lv sd ix (by omega) _ (by omega) (by omega), ← hG]
  simp only [Option.bind_some]
  rw [heq]
  simp only [Option.bind_some, if_true, bne_self_eq_false]
  simp only [laws_FnExactSnapshotOf.j2]
  rw [if_neg (by decide), held_f G.1.length (by omega) _ (by omega)]
  simp only [Option.bind_some, if_true]
  rw [if_neg (by omega)]
end Go.Proofs.Ytncckihaacceaaa.SnP
