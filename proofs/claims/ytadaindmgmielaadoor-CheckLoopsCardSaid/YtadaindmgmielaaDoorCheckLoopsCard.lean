/- The statement CheckLoops holds, its listed variable tied to the program's text: for every input the law returns true, and the argument reads behind the call as it read before. No condition. -/
import Derived.Test.YtadaindmgmielaaDoorKi
import Derived.Test.YtadaindmgmielaaDoorTie
import Derived.Test.YtadaindmgmielaaDoorCards
import Derived.SevenTiedAt
namespace Go.Proofs.YtadaindmgmielaaDoor
open Go.Agm
open Go.ChangeShapes Go.WideShapes Go.ChangeAt Go.RowKit

set_option maxRecDepth 100000 in
theorem CheckLoops_lifted (os : Os) (started : os.Started) (H : Type) (enc : TypeId × Value → H) :
    ReturnsInHanded {} Tryd.checked os 4 .any (fun w args => (Rows.checkLoopsSpec.pre enc Tryd.prog Tryd.f4 [] false w args ∧ laidMetH Tryd.prog laidL w) ∧ sizedMet enc Tryd.prog Tryd.f4 (OpenSpec.ofChange Rows.checkLoopsSpec) false w args)
      (Rows.checkLoopsSpec.post enc Tryd.prog Tryd.f4 false true false false) := by
  refine handed_and_shaped (C := Tryd.checked) (X := fun w _ => laidMetH Tryd.prog laidL w) (fun _ _ _ hh h => h.of_heap hh) Tryd.own started (by kernel_rfl) Tryd.func4
    (ChangeSpec.witness_at (enc := enc) (C := Tryd.checked) (os := os) (X := fun w _ => laidMetH Tryd.prog laidL w) false (laidWorld os) #[.agg #[I 0, I 0, I 0]] 8 rfl (by kernel_rfl) (by kernel_rfl) (by kernel_rfl) (by kernel_rfl) (by kernel_rfl) (laidWorld_met os _)) ?_
  intro W base args ds gs before hval0 hW hL hshape
  have hval : ∀ (j : Nat) t v, Tryd.f4.params[j]? = some t → args[j]? = some v → Value.okWide Tryd.prog W .any base t v := hval0
  have hW' := hW
  obtain ⟨p, q, hA0, hV, _, _, _⟩ := hW
  have hA : DataW.TrodAll enc Tryd.prog W 0 (fun _ => true) true Tryd.f4.params.toList args.toList ds p := hA0
  rw [Tryd.params4] at hA hval
  obtain ⟨v0, d0, rfl, rfl, h0⟩ := trodAll_one hA
  obtain ⟨rfl, rfl⟩ := trodVars_none hV
  obtain ⟨xs, hlen, rfl, _⟩ := arg_ints (e := 3) (n := 3) (k := .i64) Tryd.underlying43 (by kernel_rfl) (by kernel_rfl) (by kernel_rfl) (hval 0 43 v0 rfl rfl)
  obtain ⟨x, y, z, rfl⟩ : ∃ x y z : Int, xs = [x, y, z] := by
    match xs, hlen with
    | [x, y, z], _ => exact ⟨x, y, z, rfl⟩
  have hg := laid_of hL
  have hgl : Tryd.prog.globals.size < W.heap.size := globals_lt hshape (by kernel_rfl)
  have hbel := law_callS (bl := []) hgl (fun _ h => by simp at h) (args' := [.agg #[I x, I y, I z]]) (by kernel_rfl) (.cons (.agg (.cons (.int _ x) (.cons (.int _ y) (.cons (.int _ z) .nil))) (fun u hu => by
      simp only [List.mem_cons, List.not_mem_nil, or_false] at hu
      rcases hu with rfl | rfl | rfl <;> rfl)) .nil)
    ((call4 hg x y z).mono fun rs h e => e.1)
  refine hbel.mono ?_
  rintro en W' ⟨rfl, hb⟩
  exact ⟨_, rfl, law_post Tryd.laidOut (tb := 4) (by kernel_rfl) rfl (by kernel_rfl) rfl hW' rfl hb⟩

theorem CheckLoops_holds : Rows.CheckLoopsSaid :=
  OpenClaim.holds_of_wide 4 Tryd.f4 rfl rfl rfl rfl rfl rfl rfl ⟨rfl, rfl, rfl, rfl, rfl⟩ rfl rfl rfl rfl rfl (by kernel_rfl) Tryd.func4 (by kernel_rfl)
    (of_decide_eq_true (by kernel_rfl)) (by unfold Func.isWrapper; rw [if_neg (of_decide_eq_false (by kernel_rfl))]; exact ⟨rfl, rfl⟩)
    (fun os started H enc _ => CheckLoops_lifted os started H enc)

theorem CheckLoopsCard_holds : Rows.CheckLoopsCardSaid :=
  Claim7.holds_tied_plain_at .later [] [.handle] true (true, "565b4173358048bc8034b147e4697ed39709093c60a782b2a7df3fe3599595a1") true
    CheckLoops_holds (fun _ h => by cases h) (by kernel_rfl) (fun _ h => by cases h) checkLoops_row_tie rfl ⟨rfl, rfl⟩ (by kernel_rfl) rfl
    (fun f fn hf hfn => by
      obtain rfl : f = 4 := Option.some.inj ((show Tryd.prog.funcNamed "posthorse/posthorselaw19.CheckLoops" = some 4 by kernel_rfl).symm.trans hf) |>.symm
      obtain rfl : fn = Tryd.f4 := (Option.some.inj (Tryd.func4.symm.trans hfn)).symm
      exact ⟨by kernel_rfl, fun j t ht => by
        rw [Tryd.params4] at ht
        have h3 : t = 43 := by
          rcases j with _ | j
          · simpa using ht.symm
          · simp at ht
        subst h3
        exact (show Tryd.prog.wantsStandIn 43 = false by kernel_rfl)⟩)
    (by kernel_rfl)
#print axioms CheckLoopsCard_holds
end Go.Proofs.YtadaindmgmielaaDoor
