/-
  The calls of the law of tours, each told as a value.
-/
import Derived.Test.YtekcngoemeadlaaPlainTourU
import Derived.Test.YtekcngoemeadlaaPlainFarU
import Derived.Test.YtekcngoemeadlaaUx1
import Derived.Test.YtekcngoemeadlaaUx5
namespace Go.Proofs.Ytekcngoemeadlaa.PlainU
open Go.RowKit Go.Proofs.YtekcngoemeadlaaW.PrintWords Go.Proofs.YtekcngoemeadlaaW.PrintLast Go.Proofs.YtekcngoemeadlaaW.PrintMore
open Go.Proofs.Ytekcngoemeadlaa.U

def beamB (x : S54) : Bool := vdir x.f0.f0 x.f0.f1 && (inB x.f1 1 10000 && inB x.f2 x.f1 10000)
def areB (l : List S54) : Bool := l.all beamB && inB (l.length : Int) 1 7
theorem rd54 (l : List S54) (i : Nat) (h : i < l.length) : rd_T54 l (i : Int) = l[i] := by
  unfold rd_T54
  simp [List.getD_eq_getElem?_getD, List.getElem?_eq_getElem h]
theorem areBeams_loop (l : List S54) (hn : l.length ≤ 9223372036854775807) : ∀ (d k i : Nat), i + d = l.length → d < k →
    impl_AreBeams.l0 k l l (l.length : Int) (i : Int) = some ((l.drop i).all beamB && inB (l.length : Int) 1 7) := by
  intro d
  induction d with
  | zero =>
    intro k i hi hk
    obtain ⟨k, rfl⟩ : ∃ m, k = m + 1 := ⟨k - 1, by omega⟩
    simp only [impl_AreBeams.l0]
    rw [if_neg (by omega), List.drop_of_length_le (by omega), within_f]
    simp
  | succ d ih =>
    intro k i hi hk
    obtain ⟨k, rfl⟩ : ∃ m, k = m + 1 := ⟨k - 1, by omega⟩
    have hlt : i < l.length := by omega
    simp only [impl_AreBeams.l0]
    rw [if_pos (by omega), if_pos (by omega), if_pos (by omega), rd54 l i hlt, vdir_f, List.drop_eq_getElem_cons hlt]
    simp only [Option.bind_some, within_f, List.all_cons]
    rw [w64_succ hlt hn, ih k (i + 1) (by omega) (by omega)]
    unfold beamB
    cases vdir l[i].f0.f0 l[i].f0.f1 <;> cases inB l[i].f1 1 10000 <;> cases inB l[i].f2 l[i].f1 10000 <;> simp
theorem areBeams_f (l : List S54) (hn : l.length ≤ 9223372036854775807) (k : Nat) (hk : l.length < k) : impl_AreBeams.f k l = some (areB l) := by
  have := areBeams_loop l hn l.length k 0 (by omega) hk
  simpa [impl_AreBeams.f, areB] using this
theorem sq_small {u : Int} (m : Int) (h0 : -m ≤ u) (h1 : u ≤ m) : 0 ≤ u * u ∧ u * u ≤ m * m := by
  constructor
  · rcases Int.le_total 0 u with h | h
    · exact Int.mul_nonneg h h
    · have := Int.mul_nonneg (show 0 ≤ -u by omega) (show 0 ≤ -u by omega)
      rwa [Int.neg_mul_neg] at this
  · have h := Int.mul_nonneg (show 0 ≤ m - u by omega) (show 0 ≤ m + u by omega)
    rw [Int.sub_mul, Int.mul_add, Int.mul_add, Int.mul_comm u m] at h
    omega
theorem vdir_small {a b : Int} (h0 : -35 ≤ a) (h1 : a ≤ 35) (h2 : -35 ≤ b) (h3 : b ≤ 35) : vdir a b = true := by
  have s1 := sq_small 35 h0 h1
  have s2 := sq_small 35 h2 h3
  simp only [vdir, Bool.and_eq_true, inB_iff, decide_eq_true_eq]
  omega
theorem okB_beamB {b : S54} (h : okB b) : beamB b = true := by
  obtain ⟨⟨a0, a1⟩, ⟨b0, b1⟩, ⟨c0, c1⟩, d0, d1⟩ := h
  simp only [beamB, Bool.and_eq_true, inB_iff]
  exact ⟨vdir_small (by omega) (by omega) (by omega) (by omega), by omega, by omega⟩
theorem okB_areB (l : List S54) (h : ∀ b ∈ l, okB b) (h1 : 1 ≤ l.length) (h2 : l.length ≤ 4) : areB l = true := by
  simp only [areB, Bool.and_eq_true, inB_iff]
  exact ⟨List.all_eq_true.2 (fun b hb => okB_beamB (h b hb)), by omega, by omega⟩
theorem nbest_min (l : List S54) (d0 d1 : Int) : ∀ (n j : Nat), j < n → nsq l d0 d1 (nbest l d0 d1 n) ≤ nsq l d0 d1 j := by
  intro n
  induction n with
  | zero => intro j h; omega
  | succ n ih =>
    intro j h
    simp only [nbest]
    rcases Nat.lt_or_ge j n with hj | hj
    · have := ih j hj
      split <;> omega
    · obtain rfl : j = n := by omega
      split <;> omega
theorem direction_some (l : List Int) (hl : ∀ x ∈ l, 0 ≤ x ∧ x ≤ 255) : ∃ u v, spec_B10Direction.f l = some (u, v) ∧ vdir u v = true := by
  obtain ⟨a, q1, e1, a0, a1⟩ := pick_some l hl 0 0 71 (by omega) (by omega) (by omega) (by omega)
  obtain ⟨b, q2, e2, b0, b1⟩ := pick_some l hl (0 + 1) q1 71 (by omega) (by omega) (by omega) (by omega)
  unfold spec_B10Direction.f spec_l00From.f
  simp only [Option.bind_some]
  rw [e1]
  simp only [Option.bind_some]
  rw [e2]
  simp only [Option.bind_some]
  rw [w64 (n := a - 35) (by omega) (by omega), w64 (n := b - 35) (by omega) (by omega)]
  exact ⟨_, _, rfl, vdir_small (by omega) (by omega) (by omega) (by omega)⟩
theorem at_some (l : List Int) (hl : ∀ x ∈ l, 0 ≤ x ∧ x ≤ 255) (i n : Int) (h0 : 0 ≤ i) (h1 : i ≤ 1000) (hn : 1 ≤ n) : ∃ r, laws_b10At.f l i n = some r ∧ 0 ≤ r ∧ r < n := by
  unfold laws_b10At.f
  by_cases h : n ≤ 1
  · rw [if_pos h]; exact ⟨0, rfl, by omega, by omega⟩
  · rw [if_neg h]
    by_cases h2 : i < (l.length : Int)
    · obtain ⟨r0, r1⟩ := hl _ (rd_mem l i h0 h2)
      rw [if_pos h2, if_pos h0, if_neg (by omega), w64 (n := rd l i) (by omega) (by omega)]
      exact ⟨_, rfl, Int.tmod_nonneg _ r0, Int.tmod_lt_of_pos _ (by omega)⟩
    · rw [if_neg h2, if_neg (by omega), w64 (n := i * 37) (by omega) (by omega), w64 (n := i * 37 + 11) (by omega) (by omega)]
      exact ⟨_, rfl, Int.tmod_nonneg _ (by omega), Int.tmod_lt_of_pos _ (by omega)⟩
theorem far_val (l : List S54) (ha : areB l = true) (h4 : l.length ≤ 4) (ap : Int) (h0 : 0 ≤ ap) (h1 : ap ≤ 128) (k : Nat) (hk : 100 < k) : impl_FarBeams.f k l ap = some (farG l ap l.length, true) := by
  unfold impl_FarBeams.f
  rw [areBeams_f l (by omega) k (by omega), ha, within_f]
  simp only [Option.bind_some, if_true]
  rw [if_pos ((inB_iff _ _ _).2 ⟨h0, h1⟩), if_pos (by omega)]
theorem near_val (l : List S54) (ha : areB l = true) (h4 : l.length ≤ 4) (u v : Int) (hd : vdir u v = true) (k : Nat) (hk : 100 < k) : impl_NearestBeam.f k l u v = some (((nbest l u v l.length : Nat) : Int), true) := by
  unfold impl_NearestBeam.f
  rw [areBeams_f l (by omega) k (by omega), ha, vdir_f, hd]
  simp only [Option.bind_some, if_true]
end Go.Proofs.Ytekcngoemeadlaa.PlainU
