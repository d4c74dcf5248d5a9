/- The statement HoldNil holds: for every input the law returns true, and each argument reads behind the call as it read before. No condition. -/
import Derived.Test.YtdggbficiakbhaaHoldT
import Derived.ProofKit
namespace Go.Proofs.Ytdggbficiakbhaa
open Go.Agm
open Go.ChangeShapes Go.WideShapes Go.ChangeAt Go.RowKit

theorem Try.own : ownKnob Try.prog.godebug = none := by kernel_rfl
theorem Try.laidOut : laidOutB Try.prog = true := by kernel_rfl
theorem tn_prims {W : World} : PrimOk Try.prog W tn := no_prims fun _ => rfl

set_option maxRecDepth 100000 in
theorem HoldNil_lifted (os : Os) (started : os.Started) (H : Type) (enc : TypeId × Value → H) :
    ReturnsInHanded {} Try.checked os 11 .any (Rows.holdNilSpec.pre6 enc Try.prog Try.f11 Rows.holdNilRow.domain false) (Rows.holdNilSpec.post enc Try.prog Try.f11 false true false false) := by
  refine returnsInHanded_of_change_shaped (C := Try.checked) Try.own started (by kernel_rfl) Try.func11
    (ChangeSpec.witness6 (enc := enc) (C := Try.checked) false ⟨#[], #[I 0], []⟩ 8 (by kernel_rfl) (by kernel_rfl) (by kernel_rfl) (by kernel_rfl)) ?_
  intro W base args ds gs before hval0 hW hcnd _ hshape _
  have hval : ∀ (j : Nat) t v, Try.f11.params[j]? = some t → args[j]? = some v → Value.okWide Try.prog W .any base t v := hval0
  have hW' := hW
  obtain ⟨p, q, hA0, hV, _, _, _⟩ := hW
  have hA : DataW.TrodAll enc Try.prog W 0 (fun _ => true) true Try.f11.params.toList args.toList ds p := hA0
  rw [Try.params11] at hA hval
  obtain ⟨v0, d0, rfl, rfl, h0⟩ := trodAll_one hA
  obtain ⟨rfl, rfl⟩ := trodVars_none hV
  obtain ⟨n, rfl, _⟩ := arg_int (k := .i64) (by kernel_rfl) (hval 0 3 v0 rfl rfl)
  have e0 := nil_run n
  rw [Option.map_eq_some_iff] at e0
  obtain ⟨⟨rs, h'⟩, e, rfl⟩ := e0
  exact law_lifted (C := Try.checked) (T := tn) (bl := []) (Checked.mixed _) tn_prims (globals_lt hshape (by kernel_rfl)) (fun _ h => by simp at h) (by kernel_rfl)
    (.cons (.int _ n) .nil) (run_of (n := 200) e) Try.laidOut (tb := 4) (by kernel_rfl) rfl (by kernel_rfl) rfl hW' rfl

theorem HoldNil_holds : Rows.HoldNilSaid :=
  OpenClaim.holds_of_wide 11 Try.f11 rfl rfl rfl rfl rfl rfl rfl ⟨rfl, rfl, rfl, rfl, rfl⟩ rfl rfl rfl rfl rfl (by kernel_rfl) Try.func11 (by kernel_rfl)
    (of_decide_eq_true (by kernel_rfl)) (by unfold Func.isWrapper; first | (rw [if_pos (by decide +kernel)]; kernel_rfl) | (rw [if_neg (by decide +kernel)]; exact ⟨rfl, rfl⟩))
    (fun os started H enc _ => HoldNil_lifted os started H enc)

#print axioms HoldNil_holds
end Go.Proofs.Ytdggbficiakbhaa
