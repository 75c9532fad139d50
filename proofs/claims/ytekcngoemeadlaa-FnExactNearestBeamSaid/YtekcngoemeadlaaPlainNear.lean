/-
  The plain law of FnExactNearestBeam: the program's and the reference's nearest beam are one.
-/
import Derived.Test.YtekcngoemeadlaaPlain
import Derived.Test.YtekcngoemeadlaaQx5
namespace Go.Proofs.Ytekcngoemeadlaa.Plain
open Go.RowKit Go.Proofs.YtekcngoemeadlaaW.PrintWords Go.Proofs.YtekcngoemeadlaaW.PrintLast Go.Proofs.YtekcngoemeadlaaW.PrintMore
open Go.Proofs.Ytekcngoemeadlaa.Q

theorem sq_nonneg (u : Int) : 0 ≤ u * u := by
  rcases Int.le_total 0 u with h | h
  · exact Int.mul_nonneg h h
  · have := Int.mul_nonneg (show 0 ≤ -u by omega) (show 0 ≤ -u by omega)
    rwa [Int.neg_mul_neg] at this
theorem sq_le128 {u : Int} (h0 : -128 ≤ u) (h1 : u ≤ 128) : u * u ≤ 16384 := by
  have h := Int.mul_nonneg (show 0 ≤ 128 - u by omega) (show 0 ≤ 128 + u by omega)
  rw [Int.sub_mul, Int.mul_add, Int.mul_add] at h
  omega
theorem nsq_nonneg (l : List S54) (d0 d1 : Int) (i : Nat) (hi : i < l.length) (hl : l.all beamB = true) (hd : vdir d0 d1 = true) : 0 ≤ nsq l d0 d1 i := by
  have hb := List.all_eq_true.1 hl _ (List.getElem_mem hi)
  simp only [beamB, Bool.and_eq_true] at hb
  have h1 := vdir_bd hb.1
  have h2 := vdir_bd hd
  have hg : l.getD i z54 = l[i] := by simp [List.getD_eq_getElem?_getD, List.getElem?_eq_getElem hi]
  unfold nsq
  rw [hg, w64 (n := l[i].f0.f0 - d0) (by omega) (by omega), w64 (n := l[i].f0.f1 - d1) (by omega) (by omega)]
  have a1 := sq_nonneg (l[i].f0.f0 - d0)
  have a2 := sq_nonneg (l[i].f0.f1 - d1)
  have a3 := sq_le128 (u := l[i].f0.f0 - d0) (by omega) (by omega)
  have a4 := sq_le128 (u := l[i].f0.f1 - d1) (by omega) (by omega)
  rw [w64 (n := (l[i].f0.f0 - d0) * (l[i].f0.f0 - d0)) (by omega) (by omega), w64 (n := (l[i].f0.f1 - d1) * (l[i].f0.f1 - d1)) (by omega) (by omega), w64 (by omega) (by omega)]
  omega
/-- The reference's loop, from a beam that is the best so far. -/
theorem near_loop (l : List S54) (d0 d1 : Int) (hl : l.all beamB = true) (hd : vdir d0 d1 = true) (hn : l.length ≤ 9223372036854775807) : ∀ (d k i : Nat), i + d = l.length → d < k → ∀ (b : Nat) (least : Int),
    (i = 0 → b = 0 ∧ least < 0) → (0 < i → b = nbest l d0 d1 i ∧ least = nsq l d0 d1 b ∧ b < l.length) →
    spec_NearestBeam.l0 k l (b : Int) least (l.length : Int) (i : Int) d0 d1 = some (((nbest l d0 d1 l.length : Nat) : Int), true) := by
  intro d
  induction d with
  | zero =>
    intro k i hi hk b least h0 h1
    obtain ⟨k, rfl⟩ : ∃ m, k = m + 1 := ⟨k - 1, by omega⟩
    simp only [spec_NearestBeam.l0]
    rw [if_neg (by omega)]
    rcases Nat.eq_zero_or_pos i with hz | hz
    · have e : l.length = 0 := by omega
      rw [(h0 hz).1, e]; rfl
    · have e : l.length = i := by omega
      rw [(h1 hz).1, e]
  | succ d ih =>
    intro k i hi hk b least h0 h1
    obtain ⟨k, rfl⟩ : ∃ m, k = m + 1 := ⟨k - 1, by omega⟩
    have hlt : i < l.length := by omega
    have hs : wrap64 (wrap64 (wrap64 ((rd_T54 l (i : Int)).f0.f0 - d0) * wrap64 ((rd_T54 l (i : Int)).f0.f0 - d0)) + wrap64 (wrap64 ((rd_T54 l (i : Int)).f0.f1 - d1) * wrap64 ((rd_T54 l (i : Int)).f0.f1 - d1))) = nsq l d0 d1 i := by
      unfold nsq rd_T54; simp
    simp only [spec_NearestBeam.l0]
    rw [if_pos (by omega), if_pos (by omega), if_pos (by omega), hs, w64_succ hlt hn]
    have hnn := nsq_nonneg l d0 d1 i hlt hl hd
    rcases Nat.eq_zero_or_pos i with hz | hz
    · obtain ⟨rfl, hneg⟩ := h0 hz
      subst hz
      rw [if_pos hneg]
      refine ih k 1 (by omega) (by omega) 0 _ (fun h => by omega) (fun _ => ⟨?_, rfl, hlt⟩)
      simp [nbest]
    · obtain ⟨hb, hle, hbl⟩ := h1 hz
      have hnb := nsq_nonneg l d0 d1 b hbl hl hd
      rw [if_neg (by omega)]
      by_cases hc : nsq l d0 d1 i < least
      · rw [if_pos hc]
        refine ih k (i + 1) (by omega) (by omega) i _ (fun h => by omega) (fun _ => ⟨?_, rfl, hlt⟩)
        rw [nbest, ← hb, ← hle, if_pos hc]
      · rw [if_neg hc]
        refine ih k (i + 1) (by omega) (by omega) b least (fun h => by omega) (fun _ => ⟨?_, hle, hbl⟩)
        rw [nbest, ← hb, ← hle, if_neg hc]
theorem near_f (l : List S54) (d0 d1 : Int) (hn : l.length ≤ 9223372036854775807) (k : Nat) (hk : l.length + 1 < k) : ∃ r, spec_NearestBeam.f k l d0 d1 = some r ∧ impl_NearestBeam.f k l d0 d1 = some r := by
  unfold spec_NearestBeam.f impl_NearestBeam.f
  rw [specBeams_f l hn k (by omega), areBeams_f l hn k (by omega), dir_f, vdir_f]
  obtain ⟨k, rfl⟩ : ∃ m, k = m + 1 := ⟨k - 1, by omega⟩
  simp only [Option.bind_some, spec_NearestBeam.j0]
  cases h : areB l
  · exact ⟨_, rfl, rfl⟩
  · cases hd : vdir d0 d1
    · exact ⟨_, rfl, rfl⟩
    · simp only [areB, Bool.and_eq_true] at h
      refine ⟨_, ?_, rfl⟩
      simp only [if_true, Bool.not_true, Bool.false_eq_true, if_false]
      exact near_loop l d0 d1 h.1 hd hn l.length k 0 (by omega) (by omega) 0 (-1) (fun _ => ⟨rfl, by decide⟩) (fun h => absurd h (by omega))
theorem nearestBeam (l : List S86) (d0 d1 : Int) (hn : l.length ≤ 9223372036854775807) : ∃ k, laws_FnExactNearestBeam.f k l d0 d1 = some true := by
  refine ⟨l.length + 3, ?_⟩
  unfold laws_FnExactNearestBeam.f
  obtain ⟨r, hr, h⟩ := szBeamS_f l 1048576 (by omega) hn
  rw [hr]
  simp only [Option.bind_some]
  rcases h with h | ⟨_, h⟩
  · rw [if_pos h]
  · by_cases h' : r < 0
    · rw [if_pos h']
    · rw [if_neg h', toBeamS_f l (by omega) _ (by omega)]
      obtain ⟨⟨x, y⟩, h1, h2⟩ := near_f (l.map conv) d0 d1 (by simpa using hn) (l.length + 3) (by simp)
      simp only [Option.bind_some, laws_toDirection.f]
      rw [h1, h2]
      simp only [Option.bind_some, if_true, laws_FnExactNearestBeam.j0]
      rw [toBeamS_f l (by omega) _ (by omega)]
      simp only [Option.bind_some]
      rw [eqBeamS_f _ (by simpa using hn) _ (by simp)]
      simp
end Go.Proofs.Ytekcngoemeadlaa.Plain
