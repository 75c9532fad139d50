/-
  An element of a row of places that came in: two whole numbers.
-/
import Derived.Test.YtncckihaacceaaaOpenInt
namespace Go.Proofs.Ytncckihaacceaaa.OpenPlace
open Go.ChangeShapes Go.WideShapes Go.ChangeAt Go.RowKit Go.Deep Go.Joins
open Go.Proofs.YtncckihaacceaaaW.PrintWords Go.Proofs.YtncckihaacceaaaW.PrintLast Go.Proofs.Ytncckihaacceaaa.Base
theorem cells90 : Try.prog.cellsOf 90 = 2 := by kernel_rfl
theorem el_place {H : Type} {enc : TypeId × Value → H} {w : World} {base : Nat} {spare : Nat → Bool} {held : Bool} (n : Nat) (cs : List Value) (y : DataW H × List MemPlace) (h : DataW.trod enc Try.prog w base spare held n 90 cs = some y) :
    ∃ a b : Int, cs = [.int .i64 a, .int .i64 b] := by
  obtain ⟨a, b, e, _⟩ := el_two Try.underlying90 cells90 ⟨rfl, rfl⟩ ⟨rfl, rfl⟩ n cs y h
  exact ⟨a, b, e⟩
end Go.Proofs.Ytncckihaacceaaa.OpenPlace
