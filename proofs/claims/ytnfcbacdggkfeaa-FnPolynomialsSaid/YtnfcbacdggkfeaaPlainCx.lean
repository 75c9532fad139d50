/-
  Complex whole numbers in pairs of floats: products, differences, sums. Lists of them. Runs that end.
-/
import Derived.Test.YtnfcbacdggkfeaaPx1
import Derived.Test.YtnfcbacdggkfeaaPx2
import Derived.Test.YtnfcbacdggkfeaaPlainPoly
import Derived.Laws.Bits64b
namespace Go.Proofs.Ytnfcbacdggkfeaa.PlainP
open Go.RowKit Go.Proofs.YtnfcbacdggkfeaaW.PrintWords Go.Proofs.YtnfcbacdggkfeaaW.PrintLast Go.Proofs.YtnfcbacdggkfeaaW.PrintMore
open Go.Proofs.Ytnfcbacdggkfeaa.P

/-! Runs. -/
def Ends {α : Type} (g : Nat → Option α) (P : α → Prop) : Prop := ∃ r K, (∀ k, K ≤ k → g k = some r) ∧ P r
theorem Ends.step {α : Type} {g h : Nat → Option α} {P : α → Prop} (e : ∀ k, g (k + 1) = h k) (H : Ends h P) : Ends g P := by
  obtain ⟨r, K, hk, hr⟩ := H
  refine ⟨r, K + 1, fun k h => ?_, hr⟩
  obtain ⟨k, rfl⟩ : ∃ j, k = j + 1 := ⟨k - 1, by omega⟩
  rw [e]
  exact hk k (by omega)
theorem Ends.now {α : Type} {r : α} {P : α → Prop} (h : P r) : Ends (fun _ => some r) P := ⟨r, 0, fun _ _ => rfl, h⟩
theorem Ends.bind {α β : Type} {g : Nat → Option α} {f : Nat → α → Option β} {P : α → Prop} {Q : β → Prop} (H : Ends g P) (hf : ∀ r, P r → Ends (fun k => f k r) Q) : Ends (fun k => (g k).bind (f k)) Q := by
  obtain ⟨r, K, hk, hr⟩ := H
  obtain ⟨s, L, hl, hs⟩ := hf r hr
  refine ⟨s, K + L, fun k h => ?_, hs⟩
  show (g k).bind (f k) = _
  rw [hk k (by omega)]
  exact hl k (by omega)
theorem Ends.imp {α : Type} {g : Nat → Option α} {P Q : α → Prop} (H : Ends g P) (h : ∀ r, P r → Q r) : Ends g Q := by
  obtain ⟨r, K, hk, hr⟩ := H
  exact ⟨r, K, hk, h r hr⟩
theorem Ends.congr {α : Type} {g h : Nat → Option α} {P : α → Prop} (e : ∀ k, g k = h k) (H : Ends h P) : Ends g P := by
  rw [funext e]
  exact H
theorem w64 {n : Int} (h0 : -9223372036854775808 ≤ n) (h1 : n ≤ 9223372036854775807) : wrap64 n = n := by unfold wrap64; omega

/-! Pairs. -/
def IsC (x : C64) (z : G) : Prop := IsI .f32 x.re z.re ∧ IsI .f32 x.im z.im
theorem one_I : IsI .f32 1065353216 1 := ⟨false, 8388608, 126, by decide +kernel, by decide +kernel, by decide⟩
theorem nought_I : IsI .f32 0 0 := ⟨false, 0, 0, by decide +kernel, by decide +kernel, by decide⟩
theorem one_C : IsC (⟨1065353216, 0⟩ : C64) g1 := ⟨one_I, nought_I⟩
theorem nought_C : IsC (⟨0, 0⟩ : C64) g0 := ⟨nought_I, nought_I⟩
theorem lt24 {n M : Nat} (h : n ≤ M) (hM : M < 16777216) : n < 2 ^ 24 := Nat.lt_of_le_of_lt h (Nat.lt_of_lt_of_le hM (by decide))
theorem lt53 {n M : Nat} (h : n ≤ M) (hM : M < 16777216) : n < 2 ^ 53 := Nat.lt_of_le_of_lt h (Nat.lt_of_lt_of_le hM (by decide))
theorem parts_some {x : C64} {z : G} {M : Nat} (hx : IsC x z) (hb : bd z M) (hM : M < 16777216) : ∃ a b, impl_parts.f x = some (a, b) ∧ IsI .f64 a z.re ∧ IsI .f64 b z.im := by
  obtain ⟨a, e1, i1⟩ := widen_I hx.1 (lt24 hb.1 hM)
  obtain ⟨b, e2, i2⟩ := widen_I hx.2 (lt24 hb.2 hM)
  obtain ⟨o1, q1⟩ := fcok_some e1 34 37
  obtain ⟨o2, q2⟩ := fcok_some e2 34 37
  refine ⟨a, b, ?_, i1, i2⟩
  unfold impl_parts.f
  rw [if_pos o1, if_pos o2, q1, q2]
theorem times_some {a b c d : Nat} {z w : G} {M N : Nat} (ha : IsI .f64 a z.re) (hb : IsI .f64 b z.im) (hc : IsI .f64 c w.re) (hd : IsI .f64 d w.im) (hz : bd z M) (hw : bd w N) (h : 2 * (M * N) < 16777216) :
    ∃ p q, impl_times.f a b c d = some (p, q) ∧ IsI .f64 p (gmul z w).re ∧ IsI .f64 q (gmul z w).im := by
  have h1 := abs_mul hz.1 hw.1
  have h2 := abs_mul hz.2 hw.2
  have h3 := abs_mul hz.1 hw.2
  have h4 := abs_mul hz.2 hw.1
  obtain ⟨x1, e1, i1⟩ := mul_I ha hc (lt53 h1 (by omega))
  obtain ⟨x2, e2, i2⟩ := mul_I hb hd (lt53 h2 (by omega))
  obtain ⟨x3, e3, i3⟩ := mul_I ha hd (lt53 h3 (by omega))
  obtain ⟨x4, e4, i4⟩ := mul_I hb hc (lt53 h4 (by omega))
  obtain ⟨x5, e5, i5⟩ := sub_I i1 i2 (lt53 (M := 2 * (M * N)) (by omega) h)
  obtain ⟨x6, e6, i6⟩ := add_I i3 i4 (lt53 (M := 2 * (M * N)) (by omega) h)
  obtain ⟨o1, q1⟩ := fok_some e1
  obtain ⟨o2, q2⟩ := fok_some e2
  obtain ⟨o3, q3⟩ := fok_some e3
  obtain ⟨o4, q4⟩ := fok_some e4
  obtain ⟨o5, q5⟩ := fok_some e5
  obtain ⟨o6, q6⟩ := fok_some e6
  refine ⟨x5, x6, ?_, i5, i6⟩
  unfold impl_times.f
  rw [if_pos o1, if_pos o2, q1, q2, if_pos o5, if_pos o3, if_pos o4, q3, q4, if_pos o6, q5, q6]
theorem mulC {x y : C64} {z w : G} {M N : Nat} (hx : IsC x z) (hy : IsC y w) (hz : bd z M) (hw : bd w N) (hM : M < 16777216) (hN : N < 16777216) (h : 2 * (M * N) < 16777216) :
    ∃ v, impl_MulComplex.f x y = some v ∧ IsC v (gmul z w) := by
  obtain ⟨a, b, e1, i1, i2⟩ := parts_some hx hz hM
  obtain ⟨c, d, e2, i3, i4⟩ := parts_some hy hw hN
  obtain ⟨p, q, e3, i5, i6⟩ := times_some i1 i2 i3 i4 hz hw h
  have hb := bd_mul hz hw
  obtain ⟨u, e4, i7⟩ := narrow_I i5 (lt24 hb.1 h)
  obtain ⟨v, e5, i8⟩ := narrow_I i6 (lt24 hb.2 h)
  obtain ⟨o4, q4⟩ := fcok_some e4 37 34
  obtain ⟨o5, q5⟩ := fcok_some e5 37 34
  refine ⟨⟨u, v⟩, ?_, i7, i8⟩
  unfold impl_MulComplex.f
  rw [e1]
  simp only [Option.bind_some]
  rw [e2]
  simp only [Option.bind_some]
  rw [e3]
  simp only [Option.bind_some]
  rw [if_pos o4, if_pos o5, q4, q5]
theorem lessC {x y : C64} {z w : G} {M : Nat} (hx : IsC x z) (hy : IsC y w) (hb : bd (gsub z w) M) (hM : M < 16777216) :
    ∃ v, impl_less.f x y = some v ∧ IsC v (gsub z w) := by
  obtain ⟨u, e4, i7⟩ := sub_I hx.1 hy.1 (lt24 hb.1 hM)
  obtain ⟨v, e5, i8⟩ := sub_I hx.2 hy.2 (lt24 hb.2 hM)
  obtain ⟨o4, q4⟩ := fok_some e4
  obtain ⟨o5, q5⟩ := fok_some e5
  refine ⟨⟨u, v⟩, ?_, i7, i8⟩
  unfold impl_less.f
  rw [if_pos o4, if_pos o5, q4, q5]
theorem addC {x y : C64} {z w : G} {M : Nat} (hx : IsC x z) (hy : IsC y w) (hb : bd (gadd z w) M) (hM : M < 16777216) :
    ∃ v, impl_add.f x y = some v ∧ IsC v (gadd z w) := by
  obtain ⟨u, e4, i7⟩ := add_I hx.1 hy.1 (lt24 hb.1 hM)
  obtain ⟨v, e5, i8⟩ := add_I hx.2 hy.2 (lt24 hb.2 hM)
  obtain ⟨o4, q4⟩ := fok_some e4
  obtain ⟨o5, q5⟩ := fok_some e5
  refine ⟨⟨u, v⟩, ?_, i7, i8⟩
  unfold impl_add.f
  rw [if_pos o4, if_pos o5, q4, q5]
theorem eqC {x y : C64} {z : G} (hx : IsC x z) (hy : IsC y z) : ((FloatKind.f32.format.order x.re y.re == some .eq) && (FloatKind.f32.format.order x.im y.im == some .eq)) = true := by
  rw [eq_I hx.1 hy.1, eq_I hx.2 hy.2]
  rfl

/-! Lists. -/
def Wh (x : C64) : Prop := ∃ z, IsC x z ∧ bd z 2
open Classical in
noncomputable def val (x : C64) : G := if h : Wh x then h.choose else g0
theorem val_C {x : C64} (h : Wh x) : IsC x (val x) := by
  unfold val
  rw [dif_pos h]
  exact h.choose_spec.1
theorem val_bd (x : C64) : bd (val x) 2 := by
  unfold val
  split
  · rename_i h
    exact h.choose_spec.2
  · exact ⟨Nat.zero_le _, Nat.zero_le _⟩
theorem map_bd (l : List C64) : ∀ z ∈ l.map val, bd z 2 := by
  intro z hz
  obtain ⟨x, -, rfl⟩ := List.mem_map.1 hz
  exact val_bd x
/-- The list holds the first n numbers of c. -/
def LC (l : List C64) (c : Nat → G) (n : Nat) : Prop := l.length = n ∧ ∀ i : Nat, i < n → IsC (rdOf c64z l (i : Int)) (c i)
theorem rdOf_nat (l : List C64) (i : Nat) : rdOf c64z l (i : Int) = l.getD i c64z := rfl
theorem rdOf_mem (l : List C64) (i : Nat) (h : i < l.length) : rdOf c64z l (i : Int) ∈ l := by
  rw [rdOf_nat]
  simp [List.getD_eq_getElem?_getD, List.getElem?_eq_getElem h]
theorem rdOf_val (l : List C64) (i : Nat) (h : i < l.length) : (l.map val).take (i + 1) = (l.map val).take i ++ [val (rdOf c64z l (i : Int))] := by
  rw [rdOf_nat, List.take_add_one]
  simp [List.getD_eq_getElem?_getD, List.getElem?_eq_getElem h]
theorem rdOf_snoc (l : List C64) (x : C64) (i : Nat) : rdOf c64z (l ++ [x]) (i : Int) = if i < l.length then rdOf c64z l (i : Int) else if i = l.length then x else c64z := by
  rw [rdOf_nat, rdOf_nat]
  simp only [List.getD_eq_getElem?_getD, List.getElem?_append]
  split
  · rfl
  · rename_i h
    split
    · rename_i h2
      simp [h2]
    · rename_i h2
      obtain ⟨d, hd⟩ : ∃ d, i - l.length = d + 1 := ⟨i - l.length - 1, by omega⟩
      simp [hd]
theorem rdOf_set (l : List C64) (x : C64) (i j : Nat) (hj : j < l.length) : rdOf c64z (l.set j x) (i : Int) = if i = j then x else rdOf c64z l (i : Int) := by
  rw [rdOf_nat, rdOf_nat]
  simp only [List.getD_eq_getElem?_getD, List.getElem?_set]
  by_cases h : i = j
  · subst h
    rw [if_pos rfl, if_pos rfl, if_pos hj]
    rfl
  · rw [if_neg h, if_neg (Ne.symm h)]

/-! What is drawn. -/
theorem u64_range (x : Int) : 0 ≤ IntKind.u64.wrap x ∧ IntKind.u64.wrap x < 18446744073709551616 := by
  simp [IntKind.wrap, IntKind.bits, IntKind.signed]
  omega
theorem and255 (x : Int) : 0 ≤ Go.bits .and .u64 (IntKind.u64.wrap x / 1099511627776) 255 ∧ Go.bits .and .u64 (IntKind.u64.wrap x / 1099511627776) 255 ≤ 255 := by
  obtain ⟨h0, h1⟩ := u64_range x
  generalize IntKind.u64.wrap x = y at *
  have h2 : 0 ≤ y / 1099511627776 := Int.ediv_nonneg h0 (by decide)
  have h3 : y / 1099511627776 ≤ y := Int.ediv_le_self _ h0
  obtain ⟨n, hn⟩ := Int.eq_ofNat_of_zero_le h2
  rw [hn]
  have := bits_and_u64_nat n 255 (by omega) (by decide)
  rw [show (255 : Int) = ((255 : Nat) : Int) from rfl, this]
  have h4 : n &&& 255 ≤ 255 := Nat.and_le_right
  omega
theorem rd_mem (l : List Int) (p : Int) (h0 : 0 ≤ p) (h1 : p < l.length) : rd l p ∈ l := by
  obtain ⟨n, rfl⟩ := Int.eq_ofNat_of_zero_le h0
  have hn : n < l.length := by omega
  unfold rd
  simp [List.getD_eq_getElem?_getD, List.getElem?_eq_getElem hn]
theorem next_some (l : List Int) (hl : ∀ x ∈ l, 0 ≤ x ∧ x ≤ 255) (p q : Int) (h0 : 0 ≤ p) (h1 : p < 4611686018427387904) : ∃ v q', spec_l00Src_next.f l p q = some (v, p + 1, q') ∧ 0 ≤ v ∧ v ≤ 255 := by
  unfold spec_l00Src_next.f
  rw [w64 (n := p + 1) (by omega) (by omega)]
  by_cases h : p < (l.length : Int)
  · obtain ⟨r0, r1⟩ := hl _ (rd_mem l p h0 h)
    rw [if_pos h, if_pos h0, if_pos (by omega), w64 (n := rd l p) (by omega) (by omega)]
    exact ⟨_, _, rfl, r0, r1⟩
  · obtain ⟨b0, b1⟩ := and255 (IntKind.u64.wrap (IntKind.u64.wrap (q * 6364136223846793005)) + 1442695040888963407)
    rw [if_neg h, if_neg (by omega), w64 (by omega) (by omega)]
    exact ⟨_, _, rfl, b0, b1⟩
theorem pick_some (l : List Int) (hl : ∀ x ∈ l, 0 ≤ x ∧ x ≤ 255) (p q n : Int) (h0 : 0 ≤ p) (h1 : p < 4611686018427387904) (hn : 1 < n) (hn' : n ≤ 200) : ∃ v q', spec_l00Src_pick.f l p q n = some (v, p + 1, q') ∧ 0 ≤ v ∧ v < n := by
  obtain ⟨v, q', h, v0, v1⟩ := next_some l hl p q h0 h1
  unfold spec_l00Src_pick.f
  rw [if_neg (by omega), h]
  simp only [Option.bind_some]
  rw [if_neg (by omega), if_neg (by omega)]
  refine ⟨_, q', rfl, ?_, ?_⟩
  · exact Int.tmod_nonneg _ v0
  · exact Int.tmod_lt_of_pos _ (by omega)
theorem at_some (l : List Int) (hl : ∀ x ∈ l, 0 ≤ x ∧ x ≤ 255) (p n : Int) (h0 : 0 ≤ p) (hn : 1 ≤ n) : ∃ v, laws_r8At.f l p n = some v ∧ 0 ≤ v ∧ v < n := by
  unfold laws_r8At.f
  by_cases c : n ≤ 1
  · rw [if_pos c]
    exact ⟨0, rfl, by omega, by omega⟩
  · rw [if_neg c]
    by_cases d : p ≥ (l.length : Int)
    · rw [if_pos d]
      exact ⟨0, rfl, by omega, by omega⟩
    · rw [if_neg d, if_pos h0, if_pos (by omega), if_neg (by omega)]
      obtain ⟨r0, r1⟩ := hl _ (rd_mem l p h0 (by omega))
      rw [w64 (by omega) (by omega)]
      exact ⟨_, rfl, Int.tmod_nonneg _ r0, Int.tmod_lt_of_pos _ (by omega)⟩
theorem whole_loop (l : List Int) (hl : ∀ x ∈ l, 0 ≤ x ∧ x ≤ 255) (n : Nat) (hn : n < 1000) : ∀ (m : Nat) (o : List C64) (p q : Int), o.length + m = n → (∀ x ∈ o, Wh x) → 0 ≤ p → p + 2 * m < 4611686018427387904 →
    Ends (fun k => spec_R8Whole.l0 k (n : Int) o (o.length : Int) l p q) (fun r => r.length = n ∧ ∀ x ∈ r, Wh x) := by
  intro m
  induction m with
  | zero =>
    intro o p q hm ho h0 h1
    refine Ends.step (h := fun _ => some o) (fun k => ?_) (Ends.now ⟨by omega, ho⟩)
    show spec_R8Whole.l0 (k + 1) _ _ _ _ _ _ = _
    rw [spec_R8Whole.l0, if_neg (by omega)]
  | succ m ih =>
    intro o p q hm ho h0 h1
    obtain ⟨a, q1, e1, a0, a1⟩ := pick_some l hl p q 5 h0 (by omega) (by omega) (by omega)
    obtain ⟨b, q2, e2, b0, b1⟩ := pick_some l hl (p + 1) q1 5 (by omega) (by omega) (by omega) (by omega)
    have hx : Wh (⟨floatOfInt .f32 (a - 2), floatOfInt .f32 (b - 2)⟩ : C64) := by
      refine ⟨⟨a - 2, b - 2⟩, ⟨int_I (lt24 (M := 2) (by omega) (by omega)), int_I (lt24 (M := 2) (by omega) (by omega))⟩, ?_, ?_⟩
      · show (a - 2).natAbs ≤ 2; omega
      · show (b - 2).natAbs ≤ 2; omega
    have ih' := ih (o ++ [⟨floatOfInt .f32 (a - 2), floatOfInt .f32 (b - 2)⟩]) (p + 1 + 1) q2 (by simp; omega) (fun x h => by
      rcases List.mem_append.1 h with h | h
      · exact ho x h
      · rw [List.mem_singleton.1 h]; exact hx) (by omega) (by omega)
    refine Ends.step (fun k => ?_) ih'
    show spec_R8Whole.l0 (k + 1) _ _ _ _ _ _ = spec_R8Whole.l0 k _ _ _ _ _ _
    rw [spec_R8Whole.l0, if_pos (by omega), e1]
    simp only [Option.bind_some]
    rw [e2]
    simp only [Option.bind_some]
    rw [if_pos (by omega), w64 (n := a - 2) (by omega) (by omega), w64 (n := b - 2) (by omega) (by omega), w64 (by omega) (by omega), List.length_append, List.length_singleton, Int.natCast_add]
    rfl
theorem whole_some (l : List Int) (hl : ∀ x ∈ l, 0 ≤ x ∧ x ≤ 255) (n : Nat) (hn : n < 1000) : Ends (fun k => spec_R8Whole.f k l (n : Int)) (fun r => r.length = n ∧ ∀ x ∈ r, Wh x) := by
  have h := whole_loop l hl n hn n [] 0 0 (by simp) (by simp) (by omega) (by omega)
  exact Ends.congr (fun k => rfl) h
end Go.Proofs.Ytnfcbacdggkfeaa.PlainP
