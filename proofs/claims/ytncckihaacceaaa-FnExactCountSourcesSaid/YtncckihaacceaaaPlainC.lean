/-
  The plain law of FnExactCountSources: the program and the reference count one way, and the copies are their original.
-/
import Derived.Test.YtncckihaacceaaaCx2
namespace Go.Proofs.Ytncckihaacceaaa.PlainC
open Go.RowKit Go.Proofs.YtncckihaacceaaaW.PrintWords Go.Proofs.YtncckihaacceaaaW.PrintLast Go.Proofs.YtncckihaacceaaaW.PrintMore
open Go.Proofs.Ytncckihaacceaaa.C

theorem w64_succ {i : Nat} {n : Nat} (h : i < n) (hn : n ≤ 9223372036854775807) : wrap64 ((i : Int) + 1) = ((i + 1 : Nat) : Int) := by unfold wrap64; omega
theorem take_set_self {α : Type} (l : List α) (i : Nat) (a : α) : (l.set i a).take i = l.take i := by
  apply List.ext_getElem?
  intro j
  rw [List.getElem?_take, List.getElem?_take]
  split
  · rw [List.getElem?_set_ne (by omega)]
  · rfl
theorem rdF (l : List Nat) (i : Nat) (h : i < l.length) : rdOf 0 l (i : Int) = l[i] := by
  unfold rdOf
  simp [List.getD_eq_getElem?_getD, List.getElem?_eq_getElem h]
theorem toF_loop (l : List Nat) (hn : l.length ≤ 9223372036854775807) : ∀ (d k i : Nat) (x : List Nat), x.length = l.length → i + d = l.length → d < k →
    laws_toFloat32S.l0 k l x (i : Int) = some (x.take i ++ l.drop i) := by
  intro d
  induction d with
  | zero =>
    intro k i x hx hi hk
    obtain ⟨k, rfl⟩ : ∃ m, k = m + 1 := ⟨k - 1, by omega⟩
    simp only [laws_toFloat32S.l0]
    rw [if_neg (by omega), List.drop_of_length_le (by omega), List.take_of_length_le (by omega)]
    simp
  | succ d ih =>
    intro k i x hx hi hk
    obtain ⟨k, rfl⟩ : ∃ m, k = m + 1 := ⟨k - 1, by omega⟩
    have hlt : i < l.length := by omega
    simp only [laws_toFloat32S.l0]
    rw [if_pos (by omega), if_pos (by omega), if_pos (by omega), rdF l i hlt, w64_succ hlt hn, ih k (i + 1) _ (by simpa using hx) (by omega) (by omega), List.drop_eq_getElem_cons hlt]
    congr 1
    rw [Int.toNat_natCast, List.take_succ_eq_append_getElem (by simp; omega)]
    simp [take_set_self]
theorem toF_f (l : List Nat) (hn : l.length ≤ 8796093022208) (k : Nat) (hk : l.length < k) : laws_toFloat32S.f k l = some l := by
  unfold laws_toFloat32S.f
  rw [if_pos (by omega), if_pos (by omega)]
  have := toF_loop l (by omega) l.length k 0 (List.replicate ((l.length : Int)).toNat 0) (by simp) (by omega) hk
  simpa using this
theorem countSources (l : List Nat) (q : Nat) (hn : l.length ≤ 9223372036854775807) : ∃ k, laws_FnExactCountSources.f k l q = some true := by
  refine ⟨l.length + 3, ?_⟩
  unfold laws_FnExactCountSources.f
  by_cases h0 : (l.length : Int) > 1048576
  · rw [if_pos h0]
  rw [if_neg h0, toF_f l (by omega) _ (by omega)]
  simp only [Option.bind_some, spec_CountSources.f, impl_CountSources.f, if_true, bne_self_eq_false, laws_FnExactCountSources.j0, Bool.false_eq_true, if_false]
  rw [toF_f l (by omega) _ (by omega)]
  simp [laws_eqFloat32S.f]
end Go.Proofs.Ytncckihaacceaaa.PlainC
