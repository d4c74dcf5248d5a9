/- The statement SpanLeast holds: for every input the law returns true, and each argument reads behind the call as it read before. No condition. -/
import Derived.Test.YtdggbficiakbhaaSpanArgs
import Derived.Test.YtdggbficiakbhaaSpanZ
namespace Go.Proofs.Ytdggbficiakbhaa
open Go.Agm
open Go.ChangeShapes Go.WideShapes Go.ChangeAt Go.RowKit

set_option maxRecDepth 100000 in
theorem SpanLeast_lifted (os : Os) (started : os.Started) (H : Type) (enc : TypeId × Value → H) :
    ReturnsInHanded {} Try.checked os 5 .any (Rows.spanLeastSpec.pre6 enc Try.prog Try.f5 Rows.spanLeastRow.domain false) (Rows.spanLeastSpec.post enc Try.prog Try.f5 false true false false) := by
  refine returnsInHanded_of_change_shaped (C := Try.checked) Try.own started (by kernel_rfl) Try.func5
    (ChangeSpec.witness6 (enc := enc) (C := Try.checked) false ⟨#[], #[S 0 0, S 0 0, I 0], []⟩ 8 (by kernel_rfl) (by kernel_rfl) (by kernel_rfl) (by kernel_rfl)) ?_
  intro W base args ds gs before hval0 hW hcnd _ hshape _
  have hval : ∀ (j : Nat) t v, Try.f5.params[j]? = some t → args[j]? = some v → Value.okWide Try.prog W .any base t v := hval0
  have hW' := hW
  obtain ⟨p, q, hA0, hV, _, _, _⟩ := hW
  have hA : DataW.TrodAll enc Try.prog W 0 (fun _ => true) true Try.f5.params.toList args.toList ds p := hA0
  rw [Try.params5] at hA hval
  obtain ⟨v0, v1, v2, d0, d1, d2, p0, p1, p2, rfl, rfl, rfl, h0, h1, h2⟩ := trodAll_three hA
  obtain ⟨rfl, rfl⟩ := trodVars_none hV
  obtain ⟨a0, a1, rfl⟩ := arg_two (hval 0 22 v0 rfl rfl)
  obtain ⟨b0, b1, rfl⟩ := arg_two (hval 1 22 v1 rfl rfl)
  obtain ⟨n, rfl, _⟩ := arg_int (k := .i64) (by kernel_rfl) (hval 2 3 v2 rfl rfl)
  obtain ⟨h', e⟩ := least_true a0 a1 b0 b1 n (heapOf Try.prog.globals.size [])
  exact law_lifted (C := Try.checked) (T := tb) (bl := []) (Checked.mixed _) tb_prims (globals_lt hshape (by kernel_rfl)) (fun _ h => by simp at h) (by kernel_rfl)
    (.cons (VL_S a0 a1) (.cons (VL_S b0 b1) (.cons (.int _ n) .nil))) e Try.laidOut (tb := 4) (by kernel_rfl) rfl (by kernel_rfl) rfl hW' rfl

theorem SpanLeast_holds : Rows.SpanLeastSaid :=
  OpenClaim.holds_of_wide 5 Try.f5 rfl rfl rfl rfl rfl rfl rfl ⟨rfl, rfl, rfl, rfl, rfl⟩ rfl rfl rfl rfl rfl (by kernel_rfl) Try.func5 (by kernel_rfl)
    (of_decide_eq_true (by kernel_rfl)) (by unfold Func.isWrapper; first | (rw [if_pos (by decide +kernel)]; kernel_rfl) | (rw [if_neg (by decide +kernel)]; exact ⟨rfl, rfl⟩))
    (fun os started H enc _ => SpanLeast_lifted os started H enc)

#print axioms SpanLeast_holds
end Go.Proofs.Ytdggbficiakbhaa
