/- The arguments of the laws on spans. No condition. -/
import Derived.Test.YtdggbficiakbhaaSpanPlain
import Derived.ProofKit
namespace Go.Proofs.Ytdggbficiakbhaa
open Go.Agm
open Go.ChangeShapes Go.WideShapes Go.ChangeAt Go.RowKit

theorem Try.own : ownKnob Try.prog.godebug = none := by kernel_rfl
theorem Try.laidOut : laidOutB Try.prog = true := by kernel_rfl
theorem tb_prims {W : World} : PrimOk Try.prog W tb := no_prims fun _ => rfl

/-- Two numbers in a row. -/
theorem arg_two {W : World} {b0 : Nat} {v : Value} (h : Value.okWide Try.prog W .any b0 22 v) : ∃ a b, v = S a b := by
  obtain ⟨xs, h1, rfl, _⟩ := arg_ints (n := 2) (k := .i64) (e := 3) (e' := 3) (by kernel_rfl) (by kernel_rfl) (by kernel_rfl) (by kernel_rfl) h
  match xs, h1 with
  | [a, b], _ => exact ⟨a, b, rfl⟩

theorem VL_S {m : MapN} {s : Nat → Nat} (a b : Int) : V m s (S a b) (S a b) :=
  .agg (.cons (.int _ _) (.cons (.int _ _) .nil)) (by simp [one])

end Go.Proofs.Ytdggbficiakbhaa
