/-
  The plain law of FnExactSnapshotsOf.
-/
import Derived.Test.YtncckihaacceaaaSx5
import Derived.Test.YtncckihaacceaaaSnD
namespace Go.Proofs.Ytncckihaacceaaa.SnP
open Go.RowKit Go.Proofs.YtncckihaacceaaaW.PrintWords Go.Proofs.YtncckihaacceaaaW.PrintLast Go.Proofs.YtncckihaacceaaaW.PrintMore
open Go.Proofs.Ytncckihaacceaaa.S

def validS (S : List S69) : Bool := S.all good && decide ((S.length : Int) ≤ 4)
theorem implS_f (S : List S69) (hn : S.length ≤ 9223372036854775807) (k : Nat) (hk : S.length < k) : impl_ValidSources.f k S = some (validS S) := by
  have := impl_loop S hn S.length k 0 (by omega) hk
  rw [show ((0 : Nat) : Int) = 0 from rfl, List.drop_zero] at this
  exact this
/-- What is required of places. -/
theorem validP_spec {P : List S88} (h : validP P = true) : P.length ≤ 16 ∧ ∀ (i : Nat) (h : i < P.length), goodP P[i] = true := by
  simp only [validP, Bool.and_eq_true] at h
  have h1 := (inB_iff _ _ _).1 h.1
  refine ⟨by omega, fun i hi => ?_⟩
  have := okP_good P P.length 0 h.2 i (by omega) (by omega)
  rwa [List.getD_eq_getElem?_getD, List.getElem?_eq_getElem hi] at this
theorem validS_spec {S : List S69} (h : validS S = true) : S.length ≤ 4 ∧ ∀ (i : Nat) (h : i < S.length), good S[i] = true := by
  simp only [validS, Bool.and_eq_true, List.all_eq_true, decide_eq_true_eq] at h
  exact ⟨by omega, fun i hi => h.1 _ (List.getElem_mem hi)⟩
/-- d snapshots, from the j-th on. -/
def rowsV (P : List S88) (S : List S69) (lv : Nat) (sd fi : Int) : Nat → Nat → List (List C64)
  | 0, _ => []
  | d + 1, j => shotV P S lv sd (fi + (j : Int)) :: rowsV P S lv sd fi d (j + 1)
theorem rowsV_len (P : List S88) (S : List S69) (lv : Nat) (sd fi : Int) : ∀ d j, (rowsV P S lv sd fi d j).length = d
  | 0, _ => rfl
  | d + 1, j => by show (rowsV P S lv sd fi d (j + 1)).length + 1 = d + 1; rw [rowsV_len P S lv sd fi d]
theorem rowsV_mem (P : List S88) (S : List S69) (lv : Nat) (sd fi : Int) : ∀ d j r, r ∈ rowsV P S lv sd fi d j → r.length = P.length
  | 0, _, _, h => by cases h
  | d + 1, j, r, h => by
    rcases List.mem_cons.1 h with rfl | h
    · exact shotV_len _ _ _ _ _
    · exact rowsV_mem P S lv sd fi d (j + 1) r h
section
variable {P : List S88} {S : List S69} {lv : Nat} {sd fi c : Int} (hn : P.length ≤ 16) (hP : ∀ (i : Nat) (h : i < P.length), goodP P[i] = true) (hS : ∀ (j : Nat) (h : j < S.length), good S[j] = true) (hm : S.length ≤ 4) (s0 : 0 ≤ sd) (s1 : sd ≤ 2147483647) (i0 : 0 ≤ fi) (i1 : fi ≤ 1000000) (hc : c ≤ 64)
include hn hP hS hm s0 s1 i0 i1 hc
theorem spec_rows : ∀ (d k j : Nat) (acc : List (List C64)), acc.length = j → (j : Int) + d = c → 300 + d ≤ k →
    spec_SnapshotsOf.l0 k P S lv sd fi c acc (j : Int) = some (acc ++ rowsV P S lv sd fi d j, true) := by
  intro d
  induction d with
  | zero =>
    intro k j acc ha hj hk
    obtain ⟨k, rfl⟩ : ∃ m, k = m + 1 := ⟨k - 1, by omega⟩
    simp only [spec_SnapshotsOf.l0]
    rw [if_neg (by omega)]
    simp [rowsV]
  | succ d ih =>
    intro k j acc ha hj hk
    obtain ⟨k, rfl⟩ : ∃ m, k = m + 1 := ⟨k - 1, by omega⟩
    have b0 : (j : Int) < c := by omega
    have b1 : 0 ≤ fi + (j : Int) := by omega
    have b2 : fi + (j : Int) ≤ 1000064 := by omega
    have b3 : acc.length < 5864062014805 := by omega
    have b4 : ((j + 1 : Nat) : Int) + d = c := by omega
    have b5 : 300 + d ≤ k := by omega
    have b6 : 200 ≤ k := by omega
    have b7 : j < 64 := by omega
    have e := w64 (n := fi + (j : Int)) (by omega) (by omega)
    have e2 := w64_succ (n := 64) b7 (by decide)
    have hsh := (shot_ok (ix := fi + (j : Int)) lv hn hP hS hm s0 s1 b1 b2 k b6).1
    simp only [spec_SnapshotsOf.l0]
    rw [if_pos b0, e, hsh]
    simp only [Option.bind_some]
    rw [if_pos b3, e2, ih k (j + 1) _ (by simp [ha]) b4 b5, List.append_assoc]
    rfl
theorem impl_rows : ∀ (d k j : Nat) (acc : List (List C64)), acc.length = j → (j : Int) + d = c → 300 + d ≤ k →
    impl_SnapshotsOf.l0 k P S lv sd fi acc c (j : Int) = some (acc ++ rowsV P S lv sd fi d j, true) := by
  intro d
  induction d with
  | zero =>
    intro k j acc ha hj hk
    obtain ⟨k, rfl⟩ : ∃ m, k = m + 1 := ⟨k - 1, by omega⟩
    simp only [impl_SnapshotsOf.l0]
    rw [if_neg (by omega)]
    simp [rowsV]
  | succ d ih =>
    intro k j acc ha hj hk
    obtain ⟨k, rfl⟩ : ∃ m, k = m + 1 := ⟨k - 1, by omega⟩
    have b0 : (j : Int) < c := by omega
    have b1 : 0 ≤ fi + (j : Int) := by omega
    have b2 : fi + (j : Int) ≤ 1000064 := by omega
    have b3 : acc.length < 5864062014805 := by omega
    have b4 : ((j + 1 : Nat) : Int) + d = c := by omega
    have b5 : 300 + d ≤ k := by omega
    have b6 : 200 ≤ k := by omega
    have b7 : j < 64 := by omega
    have e := w64 (n := fi + (j : Int)) (by omega) (by omega)
    have e2 := w64_succ (n := 64) b7 (by decide)
    have hsh := (shot_ok (ix := fi + (j : Int)) lv hn hP hS hm s0 s1 b1 b2 k b6).2
    simp only [impl_SnapshotsOf.l0]
    rw [if_pos b0, e, hsh]
    simp only [Option.bind_some]
    rw [if_pos b3, e2, ih k (j + 1) _ (by simp [ha]) b4 b5, List.append_assoc]
    rfl
end
/-- What both programs return. -/
def fits (P : List S88) (S : List S69) (sd fi c : Int) : Bool := validP P && (validS S && (inB sd 0 2147483647 && (inB fi 0 1000000 && (inB c 0 64 && (decide (c ≤ 0) || decide (fi + c - 1 ≤ 1000000))))))
def snaps (P : List S88) (S : List S69) (lv : Nat) (sd fi c : Int) : List (List C64) × Bool :=
  if fits P S sd fi c = true then (rowsV P S lv sd fi c.toNat 0, true) else ([], false)
theorem ask_f (P : List S88) (S : List S69) (sd : Int) (k : Nat) (hk : 400 ≤ k) : spec_l06Ask.f k P S sd = some (validP P && (validS S && inB sd 0 2147483647)) := by
  unfold spec_l06Ask.f
  rw [specP_f P k (by omega)]
  simp only [Option.bind_some]
  cases hP : validP P
  · simp
  · rw [if_pos rfl, spec_f S k (by omega)]
    simp only [Option.bind_some, Bool.true_and]
    have e : (S.all good && decide ((S.length : Int) ≤ 4)) = validS S := rfl
    rw [e]
    cases hS : validS S
    · simp
    · rw [if_pos rfl]
      unfold spec_l06Seed.f
      rw [in_f]
      simp
theorem spec_snaps (P : List S88) (S : List S69) (lv : Nat) (sd fi c : Int) (k : Nat) (hk : 600 ≤ k) : spec_SnapshotsOf.f k P S lv sd fi c = some (snaps P S lv sd fi c) := by
  obtain ⟨K, rfl⟩ : ∃ m, k = m + 1 := ⟨k - 1, by omega⟩
  have no : ∀ x2 x3 x4 x5, spec_SnapshotsOf.j0 (K + 1) P S x2 x3 x4 x5 true = some ([], false) := fun _ _ _ _ => by simp only [spec_SnapshotsOf.j0, if_true]
  unfold spec_SnapshotsOf.f snaps fits
  rw [ask_f P S sd (K + 1) (by omega)]
  simp only [Option.bind_some]
  cases hP : validP P
  · simp [no]
  cases hS : validS S
  · simp [no]
  cases hs : inB sd 0 2147483647
  · simp [no]
  simp only [Bool.and_self, if_true, Bool.true_and]
  unfold spec_l06Index.f
  rw [in_f]
  simp only [Option.bind_some]
  cases hi : inB fi 0 1000000
  · simp [no]
  rw [if_pos rfl, in_f]
  simp only [Option.bind_some]
  cases hc : inB c 0 64
  · simp [no]
  rw [if_pos rfl]
  have hs' := (inB_iff _ _ _).1 hs
  have hi' := (inB_iff _ _ _).1 hi
  have hc' := (inB_iff _ _ _).1 hc
  obtain ⟨p1, p2⟩ := validP_spec hP
  obtain ⟨q1, q2⟩ := validS_spec hS
  have e1 : wrap64 (c - 1) = c - 1 := w64 (by omega) (by omega)
  have em : spec_l00Max.f 0 (c - 1) = some (if c ≤ 0 then 0 else c - 1) := by
    unfold spec_l00Max.f
    by_cases h : c ≤ 0
    · rw [if_pos (by omega), if_pos h]
    · rw [if_neg (by omega), if_neg h]
  rw [e1, em]
  simp only [Option.bind_some]
  have e2 : wrap64 (fi + (if c ≤ 0 then 0 else c - 1)) = fi + (if c ≤ 0 then 0 else c - 1) := by
    split <;> exact w64 (by omega) (by omega)
  rw [e2, in_f]
  simp only [Option.bind_some, Bool.true_and]
  have e3 : inB (fi + (if c ≤ 0 then 0 else c - 1)) 0 1000000 = (decide (c ≤ 0) || decide (fi + c - 1 ≤ 1000000)) := by
    rw [Bool.eq_iff_iff, inB_iff, Bool.or_eq_true, decide_eq_true_eq, decide_eq_true_eq]
    split <;> omega
  rw [e3]
  cases hx : (decide (c ≤ 0) || decide (fi + c - 1 ≤ 1000000))
  · simp [no]
  · simp only [Bool.not_true, spec_SnapshotsOf.j0]
    rw [if_neg (by decide)]
    have := spec_rows (P := P) (S := S) (lv := lv) (sd := sd) (fi := fi) (c := c) p1 p2 q2 q1 hs'.1 hs'.2 hi'.1 hi'.2 hc'.2 c.toNat K 0 [] rfl (by omega) (by omega)
    rw [show ((0 : Nat) : Int) = 0 from rfl] at this
    rw [this]
    simp
theorem impl_snaps (P : List S88) (S : List S69) (lv : Nat) (sd fi c : Int) (hn : S.length ≤ 9223372036854775807) (k : Nat) (hk : 600 ≤ k) (hk2 : S.length < k) : impl_SnapshotsOf.f k P S lv sd fi c = some (snaps P S lv sd fi c) := by
  obtain ⟨K, rfl⟩ : ∃ m, k = m + 1 := ⟨k - 1, by omega⟩
  have no : ∀ x2 x3 x4 x5, impl_SnapshotsOf.j0 (K + 1) P S x2 x3 x4 x5 true = some ([], false) := fun _ _ _ _ => by simp only [impl_SnapshotsOf.j0, if_true]
  unfold impl_SnapshotsOf.f snaps fits
  rw [implP_f P (K + 1) (by omega)]
  simp only [Option.bind_some]
  cases hP : validP P
  · simp [no]
  rw [if_pos rfl, implS_f S hn (K + 1) hk2]
  simp only [Option.bind_some, Bool.true_and]
  cases hS : validS S
  · simp [no]
  rw [if_pos rfl]
  unfold impl_isSeed.f impl_isIndex.f
  rw [within_f, within_f, within_f, within_f]
  simp only [Option.bind_some, Bool.true_and]
  cases hs : inB sd 0 2147483647
  · simp [no]
  rw [if_pos rfl]
  cases hi : inB fi 0 1000000
  · simp [no]
  rw [if_pos rfl]
  cases hc : inB c 0 64
  · simp [no]
  rw [if_pos rfl]
  have hs' := (inB_iff _ _ _).1 hs
  have hi' := (inB_iff _ _ _).1 hi
  have hc' := (inB_iff _ _ _).1 hc
  obtain ⟨p1, p2⟩ := validP_spec hP
  obtain ⟨q1, q2⟩ := validS_spec hS
  have go : impl_SnapshotsOf.j0 (K + 1) P S lv sd fi c false = some (rowsV P S lv sd fi c.toNat 0, true) := by
    simp only [impl_SnapshotsOf.j0]
    rw [if_neg (by decide)]
    have := impl_rows (P := P) (S := S) (lv := lv) (sd := sd) (fi := fi) (c := c) p1 p2 q2 q1 hs'.1 hs'.2 hi'.1 hi'.2 hc'.2 c.toNat K 0 [] rfl (by omega) (by omega)
    rw [show ((0 : Nat) : Int) = 0 from rfl] at this
    rw [this]
    simp
  by_cases h0 : c > 0
  · rw [if_pos h0, w64 (n := fi + c) (by omega) (by omega), w64 (n := fi + c - 1) (by omega) (by omega)]
    have e3 : inB (fi + c - 1) 0 1000000 = (decide (c ≤ 0) || decide (fi + c - 1 ≤ 1000000)) := by
      rw [Bool.eq_iff_iff, inB_iff, Bool.or_eq_true, decide_eq_true_eq, decide_eq_true_eq]
      omega
    rw [e3]
    cases hx : (decide (c ≤ 0) || decide (fi + c - 1 ≤ 1000000))
    · simp [no]
    · simp [go]
  · rw [if_neg h0, go]
    have e : decide (c ≤ 0) = true := decide_eq_true (by omega)
    rw [e]
    simp
/-! ### Marks of rows -/
def mkR : List (List C64) → Int → List (List C64)
  | [], _ => []
  | r :: L, a => mks r.length a :: mkR L (a + (r.length : Int))
def tot : List (List C64) → Nat
  | [] => 0
  | r :: L => r.length + tot L
theorem tot_le (m : Nat) : ∀ L : List (List C64), (∀ r ∈ L, r.length ≤ m) → tot L ≤ m * L.length
  | [], _ => Nat.zero_le _
  | r :: L, h => by
    have h1 := h r (List.mem_cons_self ..)
    have h2 := tot_le m L (fun r hr => h r (List.mem_cons_of_mem _ hr))
    show r.length + tot L ≤ m * (L.length + 1)
    rw [Nat.mul_succ]
    omega
theorem rdL (l : List (List C64)) (i : Nat) (h : i < l.length) : rd_L11 l (i : Int) = l[i] := by
  unfold rd_L11
  simp [List.getD_eq_getElem?_getD, List.getElem?_eq_getElem h]
theorem markA (l : List C64) (a : Int) (hn : l.length ≤ 2097152) (ha : 0 ≤ a) (hb : a + (l.length : Int) ≤ 10000000) (k : Nat) (hk : l.length < k) : laws_markComplex64S.f k l a = some (a + (l.length : Int), mks l.length a) := by
  have := mark_loop l.length hn l.length k 0 a l rfl (by omega) hk ha hb
  rw [List.take_zero, List.nil_append] at this
  exact this
theorem heldA (d : Nat) (a : Int) (hn : d ≤ 2097152) (ha : 0 ≤ a) (hb : a + (d : Int) ≤ 10000000) (k : Nat) (hk : d < k) : laws_heldComplex64S.f k (mks d a) a = some (a + (d : Int)) :=
  held_loop d hn d k 0 a (mks d a) (mks_len d a) (by omega) hk ha hb (by rw [List.drop_zero])
theorem markR_loop (n : Nat) (hn : n ≤ 2097152) : ∀ (d k i : Nat) (a : Int) (l : List (List C64)), l.length = n → i + d = n → (∀ r ∈ l.drop i, r.length ≤ 16) → d + 20 < k → 0 ≤ a → a + (tot (l.drop i) : Int) ≤ 10000000 →
    laws_markComplex64SS.l0 k l a (i : Int) = some (a + (tot (l.drop i) : Int), l.take i ++ mkR (l.drop i) a) := by
  intro d
  induction d with
  | zero =>
    intro k i a l hl hi hr hk ha hb
    obtain ⟨k, rfl⟩ : ∃ m, k = m + 1 := ⟨k - 1, by omega⟩
    simp only [laws_markComplex64SS.l0]
    rw [if_neg (by omega), List.take_of_length_le (by omega), List.drop_of_length_le (by omega)]
    simp [mkR, tot]
  | succ d ih =>
    intro k i a l hl hi hr hk ha hb
    obtain ⟨k, rfl⟩ : ∃ m, k = m + 1 := ⟨k - 1, by omega⟩
    have hlt : i < l.length := by omega
    rw [List.drop_eq_getElem_cons hlt] at hr hb ⊢
    have h16 := hr l[i] (List.mem_cons_self ..)
    have hb' : a + ((l[i].length + tot (l.drop (i + 1)) : Nat) : Int) ≤ 10000000 := hb
    have hdr : (l.set i (mks l[i].length a)).drop (i + 1) = l.drop (i + 1) := by
      apply List.ext_getElem?
      intro j
      rw [List.getElem?_drop, List.getElem?_drop, List.getElem?_set_ne (by omega)]
    simp only [laws_markComplex64SS.l0]
    rw [if_pos (by omega), if_pos (by omega), rdL l i hlt, markA l[i] a (by omega) ha (by omega) k (by omega)]
    simp only [Option.bind_some]
    rw [w64_succ (n := n) (by omega) (by omega), Int.toNat_natCast, ih k (i + 1) (a + (l[i].length : Int)) _ (by simpa using hl) (by omega) (by rw [hdr]; exact fun r h => hr r (List.mem_cons_of_mem _ h)) (by omega) (by omega) (by rw [hdr]; omega), hdr]
    have ht : (l.set i (mks l[i].length a)).take (i + 1) = l.take i ++ [mks l[i].length a] := by
      rw [List.take_succ_eq_append_getElem (by simp; omega), List.getElem_set_self]
      congr 1
      apply List.ext_getElem?
      intro j
      rw [List.getElem?_take, List.getElem?_take]
      split
      · rw [List.getElem?_set_ne (by omega)]
      · rfl
    rw [ht, List.append_assoc]
    show some (a + (l[i].length : Int) + (tot (l.drop (i + 1)) : Int), _) = some (a + ((l[i].length + tot (l.drop (i + 1)) : Nat) : Int), _)
    congr 2
    omega
theorem mkR_len : ∀ (L : List (List C64)) (a : Int), (mkR L a).length = L.length
  | [], _ => rfl
  | r :: L, a => by show (mkR L _).length + 1 = L.length + 1; rw [mkR_len L]
theorem heldR_loop (n : Nat) (hn : n ≤ 2097152) : ∀ (R : List (List C64)) (k i : Nat) (a : Int) (l : List (List C64)), l.length = n → i + R.length = n → (∀ r ∈ R, r.length ≤ 16) → R.length + 20 < k → 0 ≤ a → a + (tot R : Int) ≤ 10000000 → l.drop i = mkR R a →
    laws_heldComplex64SS.l0 k l a (i : Int) = some (a + (tot R : Int)) := by
  intro R
  induction R with
  | nil =>
    intro k i a l hl hi hr hk ha hb hd
    obtain ⟨k, rfl⟩ : ∃ m, k = m + 1 := ⟨k - 1, by omega⟩
    simp only [laws_heldComplex64SS.l0]
    simp only [List.length_nil] at hi
    rw [if_neg (by omega)]
    simp [tot]
  | cons r R ih =>
    intro k i a l hl hi hr hk ha hb hd
    obtain ⟨k, rfl⟩ : ∃ m, k = m + 1 := ⟨k - 1, by omega⟩
    simp only [List.length_cons] at hi hk
    have hlt : i < l.length := by omega
    have h16 := hr r (List.mem_cons_self ..)
    have hb' : a + ((r.length + tot R : Nat) : Int) ≤ 10000000 := hb
    rw [List.drop_eq_getElem_cons hlt] at hd
    have hd' : l[i] :: l.drop (i + 1) = mks r.length a :: mkR R (a + (r.length : Int)) := hd
    injection hd' with h1 h2
    simp only [laws_heldComplex64SS.l0]
    rw [if_pos (by omega), if_pos (by omega), rdL l i hlt, h1, heldA r.length a (by omega) ha (by omega) k (by omega)]
    simp only [Option.bind_some]
    rw [if_neg (by omega), w64_succ (n := n) (by omega) (by omega), ih k (i + 1) (a + (r.length : Int)) l hl (by omega) (fun r h => hr r (List.mem_cons_of_mem _ h)) (by omega) (by omega) (by omega) h2]
    show some (a + (r.length : Int) + (tot R : Int)) = some (a + ((r.length + tot R : Nat) : Int))
    congr 1
    omega
theorem eqR_loop (l : List (List C64)) (hn : l.length ≤ 2097152) : ∀ (d k i : Nat), i + d = l.length → d < k → laws_eqComplex64SS.l0 k l l (i : Int) = some true := by
  intro d
  induction d with
  | zero =>
    intro k i hi hk
    obtain ⟨k, rfl⟩ : ∃ m, k = m + 1 := ⟨k - 1, by omega⟩
    simp only [laws_eqComplex64SS.l0]
    rw [if_neg (by omega)]
  | succ d ih =>
    intro k i hi hk
    obtain ⟨k, rfl⟩ : ∃ m, k = m + 1 := ⟨k - 1, by omega⟩
    have heq : ∀ l : List C64, laws_eqComplex64S.f l l = some true := fun l => by unfold laws_eqComplex64S.f; rw [if_pos rfl]
    simp only [laws_eqComplex64SS.l0]
    rw [if_pos (by omega), if_pos (by omega), if_pos (by omega), heq]
    simp only [Option.bind_some, if_true]
    rw [w64_succ (n := l.length) (by omega) (by omega)]
    exact ih k (i + 1) (by omega) (by omega)
theorem eqR_f (l : List (List C64)) (hn : l.length ≤ 2097152) (k : Nat) (hk : l.length < k) : laws_eqComplex64SS.f k l l = some true := by
  unfold laws_eqComplex64SS.f
  rw [if_pos rfl]
  exact eqR_loop l hn l.length k 0 (by omega) hk
theorem snaps_len (P : List S88) (S : List S69) (lv : Nat) (sd fi c : Int) : (snaps P S lv sd fi c).1.length ≤ 64 ∧ ∀ r ∈ (snaps P S lv sd fi c).1, r.length ≤ 16 := by
  unfold snaps
  split
  · rename_i h
    simp only [fits, Bool.and_eq_true] at h
    have hc := (inB_iff _ _ _).1 h.2.2.2.2.1
    refine ⟨?_, fun r hr => ?_⟩
    · show (rowsV P S lv sd fi c.toNat 0).length ≤ 64
      rw [rowsV_len]
      omega
    · rw [rowsV_mem P S lv sd fi _ _ r hr]
      exact (validP_spec h.1).1
  · exact ⟨Nat.zero_le _, fun r hr => by cases hr⟩
theorem snapshotsOf (l0 : List S90) (l1 : List S73) (lv : Nat) (sd fi c : Int) (h0 : l0.length ≤ 9223372036854775807) (h1 : l1.length ≤ 9223372036854775807) : ∃ k, laws_FnExactSnapshotsOf.f k l0 l1 lv sd fi c = some true := by
  refine ⟨l0.length + l1.length + 700, ?_⟩
  obtain ⟨K, hK⟩ : ∃ K, l0.length + l1.length + 700 = K + 3 := ⟨l0.length + l1.length + 697, by omega⟩
  rw [hK]
  unfold laws_FnExactSnapshotsOf.f
  obtain ⟨r, hr, h⟩ := szPlaceS_f l0 1048576 (by omega) h0
  rw [hr]
  simp only [Option.bind_some]
  by_cases hr0 : r < 0
  · rw [if_pos hr0]
  rw [if_neg hr0]
  obtain ⟨e1, e2⟩ := h.resolve_left hr0
  obtain ⟨r', hr', h'⟩ := szSourceS_f l1 r (by omega) h1
  rw [hr']
  simp only [Option.bind_some]
  by_cases hr0' : r' < 0
  · rw [if_pos hr0']
  rw [if_neg hr0']
  obtain ⟨e1', e2'⟩ := h'.resolve_left hr0'
  obtain ⟨P, hP⟩ : ∃ P, P = l0.map convP := ⟨_, rfl⟩
  obtain ⟨S, hS⟩ : ∃ S, S = l1.map conv := ⟨_, rfl⟩
  have lP : P.length = l0.length := by rw [hP, List.length_map]
  have lS : S.length = l1.length := by rw [hS, List.length_map]
  have tP : ∀ k, l0.length < k → laws_toPlaceS.f k l0 = some P := fun k hk => by rw [toPlaceS_f l0 (by omega) k hk, hP]
  have tS : ∀ k, l1.length < k → laws_toSourceS.f k l1 = some S := fun k hk => by rw [toSourceS_f l1 (by omega) k hk, hS]
  obtain ⟨hlen, hrow⟩ := snaps_len P S lv sd fi c
  obtain ⟨G, hG⟩ : ∃ G, G = snaps P S lv sd fi c := ⟨_, rfl⟩
  have spc : ∀ k, 600 ≤ k → spec_SnapshotsOf.f k P S lv sd fi c = some G := fun k hk => by rw [hG]; exact spec_snaps P S lv sd fi c k hk
  have imp : ∀ k, 600 ≤ k → S.length < k → impl_SnapshotsOf.f k P S lv sd fi c = some G := fun k hk hk2 => by rw [hG]; exact impl_snaps P S lv sd fi c (by omega) k hk hk2
  rw [← hG] at hlen hrow
  have htot := tot_le 16 G.1 hrow
  have heq : ∀ k, 64 < k → laws_eqComplex64SS.f k G.1 G.1 = some true := fun k hk => eqR_f G.1 (by omega) k (by omega)
  have hmk : ∀ k, 100 < k → laws_markComplex64SS.f k G.1 1 = some (1 + (tot G.1 : Int), mkR G.1 1) := fun k hk => by
    have := markR_loop G.1.length (by omega) G.1.length k 0 1 G.1 rfl (by omega) (by rw [List.drop_zero]; exact hrow) (by omega) (by decide) (by rw [List.drop_zero]; omega)
    rw [List.take_zero, List.nil_append, List.drop_zero] at this
    exact this
  have hhd : ∀ k, 100 < k → laws_heldComplex64SS.f k (mkR G.1 1) 1 = some (1 + (tot G.1 : Int)) := fun k hk => by
    exact heldR_loop G.1.length (by omega) G.1 k 0 1 (mkR G.1 1) (mkR_len _ _) (by omega) hrow (by omega) (by decide) (by omega) (by rw [List.drop_zero])
  rw [tP _ (by omega)]
  simp only [Option.bind_some]
  rw [tS _ (by omega)]
  simp only [Option.bind_some]
  rw [spc _ (by omega)]
  simp only [Option.bind_some]
  rw [imp _ (by omega) (by omega)]
  simp only [Option.bind_some]
  rw [heq _ (by omega)]
  simp only [Option.bind_some, if_true, bne_self_eq_false]
  show laws_FnExactSnapshotsOf.j0 (K + 2 + 1) _ _ _ _ _ _ _ _ _ _ _ _ _ = _
  simp only [laws_FnExactSnapshotsOf.j0]
  rw [if_neg (by decide), tP _ (by omega)]
  simp only [Option.bind_some]
  rw [eqPlaceS_f P (by omega) _ (by omega)]
  simp only [Option.bind_some, if_true]
  rw [tS _ (by omega)]
  simp only [Option.bind_some]
  rw [eqSourceS_f S (by omega) _ (by omega)]
  simp only [Option.bind_some, if_true]
  obtain ⟨P', hP'⟩ := markP_loop P.length (by omega) P.length (K + 2) 0 1 P rfl (by omega) (by omega) (by decide) (by omega)
  obtain ⟨S', hS'⟩ := markS_loop S.length (by omega) S.length (K + 2) 0 (1 + 2 * (P.length : Int)) S rfl (by omega) (by omega) (by omega) (by omega)
  have mP : laws_markPlaceS.f (K + 2) P 1 = some (1 + 2 * (P.length : Int), P') := hP'
  have mS : laws_markSourceS.f (K + 2) S (1 + 2 * (P.length : Int)) = some (1 + 2 * (P.length : Int) + 4 * (S.length : Int), S') := hS'
  rw [mP]
  simp only [Option.bind_some]
  rw [mS]
  simp only [Option.bind_some]
  rw [if_neg (by omega), heq _ (by omega)]
  simp only [Option.bind_some, if_true, bne_self_eq_false]
  show laws_FnExactSnapshotsOf.j1 (K + 1 + 1) _ _ _ _ _ _ _ _ _ _ = _
  simp only [laws_FnExactSnapshotsOf.j1]
  rw [if_neg (by decide), hmk _ (by omega)]
  simp only [Option.bind_some]
  rw [hhd _ (by omega)]
  simp only [Option.bind_some, if_true]
  rw [if_neg (by omega), tP _ (by omega)]
  simp only [Option.bind_some]
  rw [tS _ (by omega)]
  simp only [Option.bind_some]
  rw [imp _ (by omega) (by omega)]
  simp only [Option.bind_some]
  rw [heq _ (by omega)]
  simp only [Option.bind_some, if_true, bne_self_eq_false]
  simp only [laws_FnExactSnapshotsOf.j2]
  rw [if_neg (by decide), hhd _ (by omega)]
  simp only [Option.bind_some, if_true]
  rw [if_neg (by omega)]
end Go.Proofs.Ytncckihaacceaaa.SnP
