/- The statement HoldOrder holds: for every input the law returns true, and each argument reads behind the call as it read before. No condition. -/
import Derived.Test.YtdggbficiakbhaaHoldXe
import Derived.Test.YtdggbficiakbhaaB8
namespace Go.Proofs.Ytdggbficiakbhaa
open Go.Agm
open Go.ChangeShapes Go.WideShapes Go.ChangeAt Go.RowKit

theorem Try.own : ownKnob Try.prog.godebug = none := by kernel_rfl
theorem Try.laidOut : laidOutB Try.prog = true := by kernel_rfl

set_option maxRecDepth 100000 in
theorem HoldOrder_lifted (os : Os) (started : os.Started) (H : Type) (enc : TypeId × Value → H) :
    ReturnsInHanded {} Try.checked os 8 .any (Rows.holdOrderSpec.pre6 enc Try.prog Try.f8 Rows.holdOrderRow.domain false) (Rows.holdOrderSpec.post enc Try.prog Try.f8 false true false false) := by
  refine returnsInHanded_of_change_shaped (C := Try.checked) Try.own started (by kernel_rfl) Try.func8
    (ChangeSpec.witness6 (enc := enc) (C := Try.checked) false ⟨#[], #[.slice none 0 0, .slice none 0 0], []⟩ 8 (by kernel_rfl) (by kernel_rfl) (by kernel_rfl) (by kernel_rfl)) ?_
  intro W base args ds gs before hval0 hW hcnd _ hshape _
  have hval : ∀ (j : Nat) t v, Try.f8.params[j]? = some t → args[j]? = some v → Value.okWide Try.prog W .any base t v := hval0
  have hW' := hW
  obtain ⟨p, q, hA0, hV, _, _, _⟩ := hW
  have hA : DataW.TrodAll enc Try.prog W 0 (fun _ => true) true Try.f8.params.toList args.toList ds p := hA0
  rw [Try.params8] at hA hval
  obtain ⟨v0, v1, d0, d1, p0, p1, rfl, rfl, rfl, h0, h1⟩ := trodAll_two hA
  obtain ⟨rfl, rfl⟩ := trodVars_none hV
  obtain ⟨l, o, hv0, hr0⟩ := open_nums (e := 3) (k := .i64) (by kernel_rfl) (by kernel_rfl) (by kernel_rfl) (hval 0 41 v0 rfl rfl) h0
  obtain ⟨l', o', hv1, hr1⟩ := open_nums (e := 3) (k := .i64) (by kernel_rfl) (by kernel_rfl) (by kernel_rfl) (hval 1 41 v1 rfl rfl) h1
  refine law_liftedG (C := Try.checked) (bl := [(ints l, o), (ints l', o')]) (globals_lt hshape (by kernel_rfl)) ?_ (by kernel_rfl) (args := [SL Try.prog.globals.size l.length 1, SL (Try.prog.globals.size + 1) l'.length 1])
    (.cons (hv0 _ _ ?_) (.cons (hv1 _ _ ?_) .nil)) (order_true l l' o.isNone o'.isNone) Try.laidOut (tb := 4) (by kernel_rfl) rfl (by kernel_rfl) rfl hW' rfl
  · intro x hx
    simp only [List.mem_cons, List.not_mem_nil, or_false] at hx
    rcases hx with rfl | rfl
    · exact hr0 _
    · exact hr1 _
  · exact mG_ge Try.prog.globals.size 0 [(ints l, o), (ints l', o')]
  · exact mG_ge Try.prog.globals.size 1 [(ints l, o), (ints l', o')]

theorem HoldOrder_holds : Rows.HoldOrderSaid :=
  OpenClaim.holds_of_wide 8 Try.f8 rfl rfl rfl rfl rfl rfl rfl ⟨rfl, rfl, rfl, rfl, rfl⟩ rfl rfl rfl rfl rfl (by kernel_rfl) Try.func8 (by kernel_rfl)
    (of_decide_eq_true (by kernel_rfl)) (by unfold Func.isWrapper; first | (rw [if_pos (by decide +kernel)]; kernel_rfl) | (rw [if_neg (by decide +kernel)]; exact ⟨rfl, rfl⟩))
    (fun os started H enc _ => HoldOrder_lifted os started H enc)

#print axioms HoldOrder_holds
end Go.Proofs.Ytdggbficiakbhaa
