/-
  What the law of normed weights draws: numbers that are sixteenths. Runs that end, lists of complex numbers.
-/
import Derived.Test.YtnfcbacdggkfeaaBx1
import Derived.Test.YtnfcbacdggkfeaaPlainExact
import Derived.Laws.Bits64b
namespace Go.Proofs.Ytnfcbacdggkfeaa.PlainBd
open Go.RowKit Go.Proofs.YtnfcbacdggkfeaaW.PrintWords Go.Proofs.YtnfcbacdggkfeaaW.PrintLast Go.Proofs.YtnfcbacdggkfeaaW.PrintMore
open Go.Proofs.Ytnfcbacdggkfeaa.B Go.Proofs.Ytnfcbacdggkfeaa.PlainP

/-! Runs. -/
def Ends {α : Type} (g : Nat → Option α) (P : α → Prop) : Prop := ∃ r K, (∀ k, K ≤ k → g k = some r) ∧ P r
theorem Ends.step {α : Type} {g h : Nat → Option α} {P : α → Prop} (e : ∀ k, g (k + 1) = h k) (H : Ends h P) : Ends g P := by
  obtain ⟨r, K, hk, hr⟩ := H
  refine ⟨r, K + 1, fun k h => ?_, hr⟩
  obtain ⟨k, rfl⟩ : ∃ j, k = j + 1 := ⟨k - 1, by omega⟩
  rw [e]
  exact hk k (by omega)
theorem Ends.now {α : Type} {r : α} {P : α → Prop} (h : P r) : Ends (fun _ => some r) P := ⟨r, 0, fun _ _ => rfl, h⟩
theorem Ends.bind {α β : Type} {g : Nat → Option α} {f : Nat → α → Option β} {P : α → Prop} {Q : β → Prop} (H : Ends g P) (hf : ∀ r, P r → Ends (fun k => f k r) Q) : Ends (fun k => (g k).bind (f k)) Q := by
  obtain ⟨r, K, hk, hr⟩ := H
  obtain ⟨s, L, hl, hs⟩ := hf r hr
  refine ⟨s, K + L, fun k h => ?_, hs⟩
  show (g k).bind (f k) = _
  rw [hk k (by omega)]
  exact hl k (by omega)
theorem Ends.imp {α : Type} {g : Nat → Option α} {P Q : α → Prop} (H : Ends g P) (h : ∀ r, P r → Q r) : Ends g Q := by
  obtain ⟨r, K, hk, hr⟩ := H
  exact ⟨r, K, hk, h r hr⟩
theorem Ends.congr {α : Type} {g h : Nat → Option α} {P : α → Prop} (e : ∀ k, g k = h k) (H : Ends h P) : Ends g P := by
  rw [funext e]
  exact H
theorem w64 {n : Int} (h0 : -9223372036854775808 ≤ n) (h1 : n ≤ 9223372036854775807) : wrap64 n = n := by unfold wrap64; omega

/-! Lists. -/
theorem rdOf_nat (l : List C64) (i : Nat) : rdOf c64z l (i : Int) = l.getD i c64z := rfl
theorem rdOf_mem (l : List C64) (i : Nat) (h : i < l.length) : rdOf c64z l (i : Int) ∈ l := by
  rw [rdOf_nat]
  simp [List.getD_eq_getElem?_getD, List.getElem?_eq_getElem h]
theorem rdOf_snoc (l : List C64) (x : C64) (i : Nat) : rdOf c64z (l ++ [x]) (i : Int) = if i < l.length then rdOf c64z l (i : Int) else if i = l.length then x else c64z := by
  rw [rdOf_nat, rdOf_nat]
  simp only [List.getD_eq_getElem?_getD, List.getElem?_append]
  split
  · rfl
  · rename_i h
    split
    · rename_i h2
      simp [h2]
    · rename_i h2
      obtain ⟨d, hd⟩ : ∃ d, i - l.length = d + 1 := ⟨i - l.length - 1, by omega⟩
      simp [hd]
theorem rdOf_set (l : List C64) (x : C64) (i j : Nat) (hj : j < l.length) : rdOf c64z (l.set j x) (i : Int) = if i = j then x else rdOf c64z l (i : Int) := by
  rw [rdOf_nat, rdOf_nat]
  simp only [List.getD_eq_getElem?_getD, List.getElem?_set]
  by_cases h : i = j
  · subst h
    rw [if_pos rfl, if_pos rfl, if_pos hj]
    rfl
  · rw [if_neg h, if_neg (Ne.symm h)]

/-! What is drawn. -/
theorem u64_range (x : Int) : 0 ≤ IntKind.u64.wrap x ∧ IntKind.u64.wrap x < 18446744073709551616 := by
  simp [IntKind.wrap, IntKind.bits, IntKind.signed]
  omega
theorem and255 (x : Int) : 0 ≤ Go.bits .and .u64 (IntKind.u64.wrap x / 1099511627776) 255 ∧ Go.bits .and .u64 (IntKind.u64.wrap x / 1099511627776) 255 ≤ 255 := by
  obtain ⟨h0, h1⟩ := u64_range x
  generalize IntKind.u64.wrap x = y at *
  have h2 : 0 ≤ y / 1099511627776 := Int.ediv_nonneg h0 (by decide)
  have h3 : y / 1099511627776 ≤ y := Int.ediv_le_self _ h0
  obtain ⟨n, hn⟩ := Int.eq_ofNat_of_zero_le h2
  rw [hn]
  have := bits_and_u64_nat n 255 (by omega) (by decide)
  rw [show (255 : Int) = ((255 : Nat) : Int) from rfl, this]
  have h4 : n &&& 255 ≤ 255 := Nat.and_le_right
  omega
theorem rd_mem (l : List Int) (p : Int) (h0 : 0 ≤ p) (h1 : p < l.length) : rd l p ∈ l := by
  obtain ⟨n, rfl⟩ := Int.eq_ofNat_of_zero_le h0
  have hn : n < l.length := by omega
  unfold rd
  simp [List.getD_eq_getElem?_getD, List.getElem?_eq_getElem hn]
theorem next_some (l : List Int) (hl : ∀ x ∈ l, 0 ≤ x ∧ x ≤ 255) (p q : Int) (h0 : 0 ≤ p) (h1 : p < 4611686018427387904) : ∃ v q', spec_l00Src_next.f l p q = some (v, p + 1, q') ∧ 0 ≤ v ∧ v ≤ 255 := by
  unfold spec_l00Src_next.f
  rw [w64 (n := p + 1) (by omega) (by omega)]
  by_cases h : p < (l.length : Int)
  · obtain ⟨r0, r1⟩ := hl _ (rd_mem l p h0 h)
    rw [if_pos h, if_pos h0, if_pos (by omega), w64 (n := rd l p) (by omega) (by omega)]
    exact ⟨_, _, rfl, r0, r1⟩
  · obtain ⟨b0, b1⟩ := and255 (IntKind.u64.wrap (IntKind.u64.wrap (q * 6364136223846793005)) + 1442695040888963407)
    rw [if_neg h, if_neg (by omega), w64 (by omega) (by omega)]
    exact ⟨_, _, rfl, b0, b1⟩
theorem pick_some (l : List Int) (hl : ∀ x ∈ l, 0 ≤ x ∧ x ≤ 255) (p q n : Int) (h0 : 0 ≤ p) (h1 : p < 4611686018427387904) (hn : 1 < n) (hn' : n ≤ 200) : ∃ v q', spec_l00Src_pick.f l p q n = some (v, p + 1, q') ∧ 0 ≤ v ∧ v < n := by
  obtain ⟨v, q', h, v0, v1⟩ := next_some l hl p q h0 h1
  unfold spec_l00Src_pick.f
  rw [if_neg (by omega), h]
  simp only [Option.bind_some]
  rw [if_neg (by omega), if_neg (by omega)]
  refine ⟨_, q', rfl, ?_, ?_⟩
  · exact Int.tmod_nonneg _ v0
  · exact Int.tmod_lt_of_pos _ (by omega)
theorem at_some (l : List Int) (hl : ∀ x ∈ l, 0 ≤ x ∧ x ≤ 255) (p n : Int) (h0 : 0 ≤ p) (hn : 1 ≤ n) : ∃ v, laws_r8At.f l p n = some v ∧ 0 ≤ v ∧ v < n := by
  unfold laws_r8At.f
  by_cases c : n ≤ 1
  · rw [if_pos c]
    exact ⟨0, rfl, by omega, by omega⟩
  · rw [if_neg c]
    by_cases d : p ≥ (l.length : Int)
    · rw [if_pos d]
      exact ⟨0, rfl, by omega, by omega⟩
    · rw [if_neg d, if_pos h0, if_pos (by omega), if_neg (by omega)]
      obtain ⟨r0, r1⟩ := hl _ (rd_mem l p h0 (by omega))
      rw [w64 (by omega) (by omega)]
      exact ⟨_, rfl, Int.tmod_nonneg _ r0, Int.tmod_lt_of_pos _ (by omega)⟩
/-- A number of sixteenths: its sixteen-fold parts are whole numbers from -32 to 32. -/
def IsF (x : C64) (a b : Int) : Prop := IsV .f32 x.re (a * ((2 ^ 145 : Nat) : Int)) ∧ IsV .f32 x.im (b * ((2 ^ 145 : Nat) : Int)) ∧ a.natAbs ≤ 32 ∧ b.natAbs ≤ 32
def Fi (x : C64) : Prop := ∃ a b, IsF x a b
/-- The sixteenth of a drawn whole number, reckoned. -/
def okFine (n : Int) : Bool := FOk .quo .f32 (floatOfInt .f32 n) 1098907648 && (match FloatKind.f32.decode (fq .quo .f32 (floatOfInt .f32 n) 1098907648) with
  | .number s m e => decide (-149 ≤ e) && decide (sg s (m * 2 ^ (e + 149).toNat) = n * ((2 ^ 145 : Nat) : Int)) && decide (m < 2 ^ 24)
  | _ => false)
def fineUpTo : Nat → Int → Bool
  | 0, _ => true
  | k + 1, n => okFine n && fineUpTo k (n + 1)
theorem fine_all : fineUpTo 65 (-32) = true := by decide +kernel
theorem fine_at : ∀ (k : Nat) (n m : Int), fineUpTo k n = true → n ≤ m → m < n + k → okFine m = true := by
  intro k
  induction k with
  | zero => intro n m _ h1 h2; omega
  | succ k ih =>
    intro n m h h1 h2
    simp only [fineUpTo, Bool.and_eq_true] at h
    by_cases e : n = m
    · subst e; exact h.1
    · exact ih (n + 1) m h.2 (by omega) (by omega)
theorem fine_some {n : Int} (h0 : -32 ≤ n) (h1 : n ≤ 32) : FOk .quo .f32 (floatOfInt .f32 n) 1098907648 = true ∧ IsV .f32 (fq .quo .f32 (floatOfInt .f32 n) 1098907648) (n * ((2 ^ 145 : Nat) : Int)) := by
  have h := fine_at 65 (-32) n fine_all h0 (by omega)
  unfold okFine at h
  rw [Bool.and_eq_true] at h
  refine ⟨h.1, ?_⟩
  have h2 := h.2
  generalize fq .quo .f32 (floatOfInt .f32 n) 1098907648 = w at h2
  cases hd : FloatKind.f32.decode w with
  | number s m e =>
    rw [hd] at h2
    simp only [Bool.and_eq_true, decide_eq_true_eq] at h2
    obtain ⟨⟨g1, g2⟩, g3⟩ := h2
    refine ⟨s, m, (e + 149).toNat, ?_, g2, g3⟩
    rw [hd]
    congr 1
    show e = -((149 : Nat) : Int) + _
    omega
  | infinity s => rw [hd] at h2; cases h2
  | nan s t => rw [hd] at h2; cases h2
theorem drawFine_some (l : List Int) (hl : ∀ x ∈ l, 0 ≤ x ∧ x ≤ 255) (p q : Int) (h0 : 0 ≤ p) (h1 : p + 2 < 4611686018427387904) : ∃ x q', spec_l01DrawFine.f l p q = some (x, p + 1 + 1, q') ∧ Fi x := by
  obtain ⟨a, q1, e1, a0, a1⟩ := pick_some l hl p q 65 h0 (by omega) (by omega) (by omega)
  obtain ⟨b, q2, e2, b0, b1⟩ := pick_some l hl (p + 1) q1 65 (by omega) (by omega) (by omega) (by omega)
  obtain ⟨o1, i1⟩ := fine_some (n := a - 32) (by omega) (by omega)
  obtain ⟨o2, i2⟩ := fine_some (n := b - 32) (by omega) (by omega)
  refine ⟨⟨fq .quo .f32 (floatOfInt .f32 (a - 32)) 1098907648, fq .quo .f32 (floatOfInt .f32 (b - 32)) 1098907648⟩, q2, ?_, ⟨a - 32, b - 32, i1, i2, by omega, by omega⟩⟩
  unfold spec_l01DrawFine.f
  rw [e1]
  simp only [Option.bind_some]
  rw [w64 (n := a - 32) (by omega) (by omega), if_pos o1, e2]
  simp only [Option.bind_some]
  rw [w64 (n := b - 32) (by omega) (by omega), if_pos o2]
theorem draws_loop (l : List Int) (hl : ∀ x ∈ l, 0 ≤ x ∧ x ≤ 255) (n : Nat) (hn : n < 1000) : ∀ (m : Nat) (o : List C64) (p q : Int), o.length + m = n → (∀ x ∈ o, Fi x) → 0 ≤ p → p + 2 * m + 2 < 4611686018427387904 →
    Ends (fun k => spec_R8Fine.l0 k (n : Int) o (o.length : Int) l p q) (fun r => r.length = n ∧ ∀ x ∈ r, Fi x) := by
  intro m
  induction m with
  | zero =>
    intro o p q hm ho h0 h1
    refine Ends.step (h := fun _ => some o) (fun k => ?_) (Ends.now ⟨by omega, ho⟩)
    show spec_R8Fine.l0 (k + 1) _ _ _ _ _ _ = _
    rw [spec_R8Fine.l0, if_neg (by omega)]
  | succ m ih =>
    intro o p q hm ho h0 h1
    obtain ⟨x, q', e, hx⟩ := drawFine_some l hl p q h0 (by omega)
    refine Ends.step (fun k => ?_) (ih (o ++ [x]) (p + 1 + 1) q' (by simp; omega) (fun y h => by
      rcases List.mem_append.1 h with h | h
      · exact ho y h
      · rw [List.mem_singleton.1 h]; exact hx) (by omega) (by omega))
    show spec_R8Fine.l0 (k + 1) _ _ _ _ _ _ = spec_R8Fine.l0 k _ _ _ _ _ _
    rw [spec_R8Fine.l0, if_pos (by omega), e]
    simp only [Option.bind_some]
    rw [if_pos (by omega), w64 (by omega) (by omega), List.length_append, List.length_singleton, Int.natCast_add]
    rfl
theorem fines_some (l : List Int) (hl : ∀ x ∈ l, 0 ≤ x ∧ x ≤ 255) (n : Nat) (hn : n < 1000) : Ends (fun k => spec_R8Fine.f k l (n : Int)) (fun r => r.length = n ∧ ∀ x ∈ r, Fi x) := by
  have h := draws_loop l hl n hn n [] 0 0 (by simp) (by simp) (by omega) (by omega)
  exact Ends.congr (fun k => rfl) h
end Go.Proofs.Ytnfcbacdggkfeaa.PlainBd
