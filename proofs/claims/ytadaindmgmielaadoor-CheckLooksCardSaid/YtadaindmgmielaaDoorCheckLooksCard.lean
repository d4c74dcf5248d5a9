/- The statement CheckLooks holds, its listed variable tied to the program's text: for every input the law returns true, and the arguments read behind the call as they read before. No condition. -/
import Derived.Test.YtadaindmgmielaaDoorKi
import Derived.Test.YtadaindmgmielaaDoorKd
import Derived.Test.YtadaindmgmielaaDoorTie
import Derived.Test.YtadaindmgmielaaDoorCards
import Derived.SevenTiedAt
namespace Go.Proofs.YtadaindmgmielaaDoor
open Go.Agm
open Go.ChangeShapes Go.WideShapes Go.ChangeAt Go.RowKit

set_option maxRecDepth 100000 in
theorem CheckLooks_lifted (os : Os) (started : os.Started) (H : Type) (enc : TypeId × Value → H) :
    ReturnsInHanded {} Tryd.checked os 5 .any (fun w args => (Rows.checkLooksSpec.pre enc Tryd.prog Tryd.f5 [] false w args ∧ laidMetH Tryd.prog laidL w) ∧ sizedMet enc Tryd.prog Tryd.f5 (OpenSpec.ofChange Rows.checkLooksSpec) false w args)
      (Rows.checkLooksSpec.post enc Tryd.prog Tryd.f5 false true false false) := by
  refine handed_and_shaped (C := Tryd.checked) (X := fun w _ => laidMetH Tryd.prog laidL w) (fun _ _ _ hh h => h.of_heap hh) Tryd.own started (by kernel_rfl) Tryd.func5
    (ChangeSpec.witness_at (enc := enc) (C := Tryd.checked) (os := os) (X := fun w _ => laidMetH Tryd.prog laidL w) false (laidWorld os) #[I 0, I 0, I 0] 8 rfl (by kernel_rfl) (by kernel_rfl) (by kernel_rfl) (by kernel_rfl) (by kernel_rfl) (laidWorld_met os _)) ?_
  intro W base args ds gs before hval0 hW hL hshape
  have hval : ∀ (j : Nat) t v, Tryd.f5.params[j]? = some t → args[j]? = some v → Value.okWide Tryd.prog W .any base t v := hval0
  have hW' := hW
  obtain ⟨p, q, hA0, hV, _, _, _⟩ := hW
  have hA : DataW.TrodAll enc Tryd.prog W 0 (fun _ => true) true Tryd.f5.params.toList args.toList ds p := hA0
  rw [Tryd.params5] at hA
  obtain ⟨v0, v1, v2, d0, d1, d2, p0, p1, p2, rfl, rfl, rfl, h0, h1, h2⟩ := trodAll_three hA
  obtain ⟨rfl, rfl⟩ := trodVars_none hV
  obtain ⟨x, rfl, _⟩ := arg_int (k := .i64) (by kernel_rfl) (hval 0 3 v0 rfl rfl)
  obtain ⟨y, rfl, _⟩ := arg_int (k := .i64) (by kernel_rfl) (hval 1 3 v1 rfl rfl)
  obtain ⟨z, rfl, _⟩ := arg_int (k := .i64) (by kernel_rfl) (hval 2 3 v2 rfl rfl)
  have hg := laid_of hL
  have hgl : Tryd.prog.globals.size < W.heap.size := globals_lt hshape (by kernel_rfl)
  have hbel := law_callS (bl := []) hgl (fun _ h => by simp at h) (args' := [I x, I y, I z]) (by kernel_rfl) (.cons (.int _ x) (.cons (.int _ y) (.cons (.int _ z) .nil)))
    ((call5 hg x y z).mono fun rs h e => e.1)
  refine hbel.mono ?_
  rintro en W' ⟨rfl, hb⟩
  exact ⟨_, rfl, law_post Tryd.laidOut (tb := 4) (by kernel_rfl) rfl (by kernel_rfl) rfl hW' rfl hb⟩

theorem CheckLooks_holds : Rows.CheckLooksSaid :=
  OpenClaim.holds_of_wide 5 Tryd.f5 rfl rfl rfl rfl rfl rfl rfl ⟨rfl, rfl, rfl, rfl, rfl⟩ rfl rfl rfl rfl rfl (by kernel_rfl) Tryd.func5 (by kernel_rfl)
    (of_decide_eq_true (by kernel_rfl)) (by unfold Func.isWrapper; rw [if_neg (of_decide_eq_false (by kernel_rfl))]; exact ⟨rfl, rfl⟩)
    (fun os started H enc _ => CheckLooks_lifted os started H enc)

theorem CheckLooksCard_holds : Rows.CheckLooksCardSaid :=
  Claim7.holds_tied_plain_at .later [] [.handle] true (true, "565b4173358048bc8034b147e4697ed39709093c60a782b2a7df3fe3599595a1") true
    CheckLooks_holds (fun _ h => by cases h) (by kernel_rfl) (fun _ h => by cases h) checkLooks_row_tie rfl ⟨rfl, rfl⟩ (by kernel_rfl) rfl
    (fun f fn hf hfn => by
      obtain rfl : f = 5 := Option.some.inj ((show Tryd.prog.funcNamed "posthorse/posthorselaw19.CheckLooks" = some 5 by kernel_rfl).symm.trans hf) |>.symm
      obtain rfl : fn = Tryd.f5 := (Option.some.inj (Tryd.func5.symm.trans hfn)).symm
      exact ⟨by kernel_rfl, fun j t ht => by
        rw [Tryd.params5] at ht
        have h3 : t = 3 := by
          rcases j with _ | _ | _ | j
          · simpa using ht.symm
          · simpa using ht.symm
          · simpa using ht.symm
          · simp at ht
        subst h3
        exact (show Tryd.prog.wantsStandIn 3 = false by kernel_rfl)⟩)
    (by kernel_rfl)
#print axioms CheckLooksCard_holds
end Go.Proofs.YtadaindmgmielaaDoor
