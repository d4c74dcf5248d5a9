/- The statement AsmParses holds, its listed variables tied to the program's text: for every input the law returns true, and the argument reads behind the call as it read before. No condition. -/
import Derived.Test.YtkjdfkodclednaaGreatDoorZx
import Derived.Test.YtkjdfkodclednaaGreatDoorTie
import Derived.Test.YtkjdfkodclednaaGreatDoorCards
import Derived.SevenTiedAt
namespace Go.Proofs.YtkjdfkodclednaaGreatDoor
open Go.Agm
open Go.ChangeShapes Go.WideShapes Go.ChangeAt Go.RowKit

set_option maxRecDepth 100000 in
theorem AsmParses_lifted (os : Os) (started : os.Started) (H : Type) (enc : TypeId × Value → H) :
    ReturnsInHanded {} Tryz.checked os 4 .any (fun w args => (Rows.asmParsesSpec.pre enc Tryz.prog Tryz.f4 [] false w args ∧ laidMetH Tryz.prog laidL w) ∧ sizedMet enc Tryz.prog Tryz.f4 (OpenSpec.ofChange Rows.asmParsesSpec) false w args)
      (Rows.asmParsesSpec.post enc Tryz.prog Tryz.f4 false true false false) := by
  refine handed_and_shaped (C := Tryz.checked) (X := fun w _ => laidMetH Tryz.prog laidL w) (fun _ _ _ hh h => h.of_heap hh) Tryz.own started (by kernel_rfl) Tryz.func4
    (ChangeSpec.witness_shaped (enc := enc) (C := Tryz.checked) (os := os) (X := fun w _ => laidMetH Tryz.prog laidL w) false (laidW os) #[.string ⟨#[]⟩] 8 rfl (World.shaped_of_RefB (by kernel_rfl) (by kernel_rfl)) (by kernel_rfl) (by kernel_rfl) (by kernel_rfl) (laidW_met os _)) ?_
  intro W base args ds gs before hval0 hW hL hshape
  have hval : ∀ (j : Nat) t v, Tryz.f4.params[j]? = some t → args[j]? = some v → Value.okWide Tryz.prog W .any base t v := hval0
  have hW' := hW
  obtain ⟨p, q, hA0, hV, _, _, _⟩ := hW
  have hA : DataW.TrodAll enc Tryz.prog W 0 (fun _ => true) true Tryz.f4.params.toList args.toList ds p := hA0
  rw [Tryz.params4] at hA hval
  obtain ⟨v0, d0, rfl, rfl, h0⟩ := trodAll_one hA
  obtain ⟨rfl, rfl⟩ := trodVars_none hV
  obtain ⟨s, rfl⟩ := arg_str Tryz.underlying9 (hval 0 9 v0 rfl rfl)
  have hg := laid_of hL
  have hw := lw_of hL hshape
  have hgl : Tryz.prog.globals.size < W.heap.size := globals_lt hshape (by kernel_rfl)
  have hbel := law_callS (bl := []) hgl (fun _ h => by simp at h) (args' := [.string s]) (by kernel_rfl) (.cons (.str s) .nil) ((call4 hw hg s).mono fun rs h e => e.1)
  refine hbel.mono ?_
  rintro en W' ⟨rfl, hb⟩
  exact ⟨_, rfl, law_post Tryz.laidOut (tb := 4) (by kernel_rfl) rfl (by kernel_rfl) rfl hW' rfl hb⟩

theorem AsmParses_holds : Rows.AsmParsesSaid :=
  OpenClaim.holds_of_wide 4 Tryz.f4 rfl rfl rfl rfl rfl rfl rfl ⟨rfl, rfl, rfl, rfl, rfl⟩ rfl rfl rfl rfl rfl (by kernel_rfl) Tryz.func4 (by kernel_rfl)
    (of_decide_eq_true (by kernel_rfl)) (by unfold Func.isWrapper; rw [if_neg (of_decide_eq_false (by kernel_rfl))]; exact ⟨rfl, rfl⟩)
    (fun os started H enc _ => AsmParses_lifted os started H enc)

theorem AsmParsesCard_holds : Rows.AsmParsesCardSaid :=
  Claim7.holds_tied_plain_at .later [] [.data, .data, .data, .data, .handle, .sentinel, .sentinel, .widerDeep, .pinned] true (true, "02dd947cec37b34b4d73bcb87e0b77b8c6beef2cb91e90eeb5875388aa8074e7") true
    AsmParses_holds (fun _ h => by cases h) (by kernel_rfl) (fun _ h => by cases h) asmParses_row_tie rfl ⟨rfl, rfl⟩ (by kernel_rfl) rfl
    (fun f fn hf hfn => by
      obtain rfl : f = 4 := Option.some.inj ((show Tryz.prog.funcNamed "posthorse/posthorselaw21.AsmParses" = some 4 by kernel_rfl).symm.trans hf) |>.symm
      obtain rfl : fn = Tryz.f4 := (Option.some.inj (Tryz.func4.symm.trans hfn)).symm
      exact ⟨by kernel_rfl, fun j t ht => by
        rw [Tryz.params4] at ht
        have h3 : t = 9 := by
          rcases j with _ | j
          · simpa using ht.symm
          · simp at ht
        subst h3
        exact (show Tryz.prog.wantsStandIn 9 = false by kernel_rfl)⟩)
    (by kernel_rfl)
#print axioms AsmParsesCard_holds
end Go.Proofs.YtkjdfkodclednaaGreatDoor
