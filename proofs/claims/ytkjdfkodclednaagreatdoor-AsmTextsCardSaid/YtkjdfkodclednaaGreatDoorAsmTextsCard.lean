/- The statement AsmTexts holds, its listed variables tied to the program's text: for every input the law returns true, and the argument reads behind the call as it read before. No condition. -/
import Derived.Test.YtkjdfkodclednaaGreatDoorZv
import Derived.Test.YtkjdfkodclednaaGreatDoorTie
import Derived.Test.YtkjdfkodclednaaGreatDoorCards
import Derived.SevenTiedAt
namespace Go.Proofs.YtkjdfkodclednaaGreatDoor
open Go.Agm
open Go.ChangeShapes Go.WideShapes Go.ChangeAt Go.RowKit

def fieldsOf (d : Option TypeDesc) : Array Field := match d with
  | some (.struct fs) => fs
  | _ => #[]
noncomputable def fs28 : Array Field := fieldsOf (Tryz.prog.underlying 28)
set_option maxRecDepth 100000 in
/-- Instructions, as the law is handed them. -/
theorem open_ins {H : Type} {enc : TypeId × Value → H} {W : World} {base : Nat} {v : Value} {d : DataW H} {ps : List MemPlace} (hv : Value.okWide Tryz.prog W .any base 22 v) (h : DataW.Trod enc Tryz.prog W 0 (fun _ => true) true 22 v d ps) :
    ∃ (xs : List Ins) (o : Option (Nat × Nat)), (∀ (m : MapN) (b : Nat), m b = o → V m (szB W) (.slice (some ⟨b, 0, none⟩) xs.length 4) v) ∧ (∀ m : MapN, RowOk W m (insC xs, o)) := by
  obtain ⟨len, o, at', hv0, hrow, hel⟩ := open_cells (P := Tryz.prog) (t := 22) (e := 28) (sz := 4) (by kernel_rfl) (by kernel_rfl) (by omega) hv h
  have each : ∀ i, i < len → ∃ p : Ins, at' i 0 = I p.op ∧ at' i 1 = I p.d ∧ at' i 2 = I p.s ∧ at' i 3 = I p.imm := by
    intro i hi
    obtain ⟨n, y, hy⟩ := hel i hi
    obtain ⟨ys, k, _, _, _, hyl, hf⟩ := DataW.trod_struct (fs := fs28) (by kernel_rfl) hy
    have hsz : fs28.size = 4 := by kernel_rfl
    have g0 := hf 0 (fs28.getD 0 default) (by kernel_rfl)
    have g1 := hf 1 (fs28.getD 1 default) (by kernel_rfl)
    have g2 := hf 2 (fs28.getD 2 default) (by kernel_rfl)
    have g3 := hf 3 (fs28.getD 3 default) (by kernel_rfl)
    have a0 : (((List.range 4).map (at' i)).drop (fs28.getD 0 default).offset).take (Tryz.prog.cellsOf (fs28.getD 0 default).type) = [at' i 0] := by
      rw [show (fs28.getD 0 default).offset = 0 by kernel_rfl, show Tryz.prog.cellsOf (fs28.getD 0 default).type = 1 by kernel_rfl]; rfl
    have a1 : (((List.range 4).map (at' i)).drop (fs28.getD 1 default).offset).take (Tryz.prog.cellsOf (fs28.getD 1 default).type) = [at' i 1] := by
      rw [show (fs28.getD 1 default).offset = 1 by kernel_rfl, show Tryz.prog.cellsOf (fs28.getD 1 default).type = 1 by kernel_rfl]; rfl
    have a2 : (((List.range 4).map (at' i)).drop (fs28.getD 2 default).offset).take (Tryz.prog.cellsOf (fs28.getD 2 default).type) = [at' i 2] := by
      rw [show (fs28.getD 2 default).offset = 2 by kernel_rfl, show Tryz.prog.cellsOf (fs28.getD 2 default).type = 1 by kernel_rfl]; rfl
    have a3 : (((List.range 4).map (at' i)).drop (fs28.getD 3 default).offset).take (Tryz.prog.cellsOf (fs28.getD 3 default).type) = [at' i 3] := by
      rw [show (fs28.getD 3 default).offset = 3 by kernel_rfl, show Tryz.prog.cellsOf (fs28.getD 3 default).type = 1 by kernel_rfl]; rfl
    rw [a0, List.getElem?_eq_getElem (by omega)] at g0
    rw [a1, List.getElem?_eq_getElem (by omega)] at g1
    rw [a2, List.getElem?_eq_getElem (by omega)] at g2
    rw [a3, List.getElem?_eq_getElem (by omega)] at g3
    obtain ⟨x0, h0, _, _⟩ := DataW.trod_int (k := .i64) (by kernel_rfl) g0
    obtain ⟨x1, h1, _, _⟩ := DataW.trod_int (k := .i64) (by kernel_rfl) g1
    obtain ⟨x2, h2, _, _⟩ := DataW.trod_int (k := .i64) (by kernel_rfl) g2
    obtain ⟨x3, h3, _, _⟩ := DataW.trod_int (k := .i64) (by kernel_rfl) g3
    exact ⟨⟨x0, x1, x2, x3⟩, by simpa using h0, by simpa using h1, by simpa using h2, by simpa using h3⟩
  have : Inhabited Ins := ⟨insD⟩
  obtain ⟨f, hf⟩ := Deep.choose_lt each
  have hxl : ((List.range len).map f).length = len := by simp
  refine ⟨(List.range len).map f, o, fun m b hm => by rw [hxl]; exact hv0 m b hm, fun m => hrow m _ (by rw [insC_len, hxl]) fun i j hi hj => ?_⟩
  have hi' : i < ((List.range len).map f).length := by omega
  obtain ⟨q0, q1, q2, q3⟩ := nth_insC hi'
  rw [nth_eq] at q0 q1 q2 q3
  have hfi : ((List.range len).map f)[i] = f i := by simp
  rw [hfi] at q0 q1 q2 q3
  obtain ⟨e0, e1, e2, e3⟩ := hf i hi
  match j, hj with
  | 0, _ => exact ⟨_, q0, rfl, by rw [e0]; exact .int _ _⟩
  | 1, _ => exact ⟨_, q1, rfl, by rw [e1]; exact .int _ _⟩
  | 2, _ => exact ⟨_, q2, rfl, by rw [e2]; exact .int _ _⟩
  | 3, _ => exact ⟨_, q3, rfl, by rw [e3]; exact .int _ _⟩
set_option maxRecDepth 100000 in
theorem AsmTexts_lifted (os : Os) (started : os.Started) (H : Type) (enc : TypeId × Value → H) :
    ReturnsInHanded {} Tryz.checked os 3 .any (fun w args => (Rows.asmTextsSpec.pre enc Tryz.prog Tryz.f3 [] false w args ∧ laidMetH Tryz.prog laidL w) ∧ sizedMet enc Tryz.prog Tryz.f3 (OpenSpec.ofChange Rows.asmTextsSpec) false w args)
      (Rows.asmTextsSpec.post enc Tryz.prog Tryz.f3 false true false false) := by
  refine handed_and_shaped (C := Tryz.checked) (X := fun w _ => laidMetH Tryz.prog laidL w) (fun _ _ _ hh h => h.of_heap hh) Tryz.own started (by kernel_rfl) Tryz.func3
    (ChangeSpec.witness_shaped (enc := enc) (C := Tryz.checked) (os := os) (X := fun w _ => laidMetH Tryz.prog laidL w) false (laidW os) #[.slice none 0 0] 8 rfl (World.shaped_of_RefB (by kernel_rfl) (by kernel_rfl)) (by kernel_rfl) (by kernel_rfl) (by kernel_rfl) (laidW_met os _)) ?_
  intro W base args ds gs before hval0 hW hL hshape
  have hval : ∀ (j : Nat) t v, Tryz.f3.params[j]? = some t → args[j]? = some v → Value.okWide Tryz.prog W .any base t v := hval0
  have hW' := hW
  obtain ⟨p, q, hA0, hV, _, _, _⟩ := hW
  have hA : DataW.TrodAll enc Tryz.prog W 0 (fun _ => true) true Tryz.f3.params.toList args.toList ds p := hA0
  rw [Tryz.params3] at hA hval
  obtain ⟨v0, d0, rfl, rfl, h0⟩ := trodAll_one hA
  obtain ⟨rfl, rfl⟩ := trodVars_none hV
  obtain ⟨l, o, hv0, hr0⟩ := open_ins (hval 0 22 v0 rfl rfl) h0
  have hg := laid_of hL
  have hw := lw_of hL hshape
  have hgl : Tryz.prog.globals.size < W.heap.size := globals_lt hshape (by kernel_rfl)
  refine law_liftedG (C := Tryz.checked) (bl := [(insC l, o)]) hgl ?_ (by kernel_rfl) (args := [SL Tryz.prog.globals.size l.length 4])
    (.cons (hv0 _ _ ?_) .nil) ((call3 hw hg l o.isNone).mono fun rs h e => e.1) Tryz.laidOut (tb := 4) (by kernel_rfl) rfl (by kernel_rfl) rfl hW' rfl
  · intro x hx
    simp only [List.mem_singleton] at hx
    subst hx
    exact hr0 _
  · exact mG_ge Tryz.prog.globals.size 0 [(insC l, o)]

theorem AsmTexts_holds : Rows.AsmTextsSaid :=
  OpenClaim.holds_of_wide 3 Tryz.f3 rfl rfl rfl rfl rfl rfl rfl ⟨rfl, rfl, rfl, rfl, rfl⟩ rfl rfl rfl rfl rfl (by kernel_rfl) Tryz.func3 (by kernel_rfl)
    (of_decide_eq_true (by kernel_rfl)) (by unfold Func.isWrapper; rw [if_neg (of_decide_eq_false (by kernel_rfl))]; exact ⟨rfl, rfl⟩)
    (fun os started H enc _ => AsmTexts_lifted os started H enc)

theorem AsmTextsCard_holds : Rows.AsmTextsCardSaid :=
  Claim7.holds_tied_plain_at .later [] [.data, .data, .data, .data, .handle, .sentinel, .sentinel, .widerDeep, .pinned] true (true, "02dd947cec37b34b4d73bcb87e0b77b8c6beef2cb91e90eeb5875388aa8074e7") true
    AsmTexts_holds (fun _ h => by cases h) (by kernel_rfl) (fun _ h => by cases h) asmTexts_row_tie rfl ⟨rfl, rfl⟩ (by kernel_rfl) rfl
    (fun f fn hf hfn => by
      obtain rfl : f = 3 := Option.some.inj ((show Tryz.prog.funcNamed "posthorse/posthorselaw21.AsmTexts" = some 3 by kernel_rfl).symm.trans hf) |>.symm
      obtain rfl : fn = Tryz.f3 := (Option.some.inj (Tryz.func3.symm.trans hfn)).symm
      exact ⟨by kernel_rfl, fun j t ht => by
        rw [Tryz.params3] at ht
        have h3 : t = 22 := by
          rcases j with _ | j
          · simpa using ht.symm
          · simp at ht
        subst h3
        exact (show Tryz.prog.wantsStandIn 22 = false by kernel_rfl)⟩)
    (by kernel_rfl)
#print axioms AsmTextsCard_holds
end Go.Proofs.YtkjdfkodclednaaGreatDoor
