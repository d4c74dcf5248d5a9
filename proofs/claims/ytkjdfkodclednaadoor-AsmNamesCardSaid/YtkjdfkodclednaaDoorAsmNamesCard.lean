/- The statement AsmNames holds, its listed variables tied to the program's text: for every input the law returns true, and the arguments read behind the call as they read before. No condition. -/
import Derived.Test.YtkjdfkodclednaaDoorZo
import Derived.Test.YtkjdfkodclednaaDoorTie
import Derived.Test.YtkjdfkodclednaaDoorCards
import Derived.SevenTiedAt
namespace Go.Proofs.YtkjdfkodclednaaDoor
open Go.Agm
open Go.ChangeShapes Go.WideShapes Go.ChangeAt Go.RowKit

def fieldsOf (d : Option TypeDesc) : Array Field := match d with
  | some (.struct fs) => fs
  | _ => #[]
noncomputable def fs27 : Array Field := fieldsOf (Tryd.prog.underlying 27)
set_option maxRecDepth 100000 in
/-- Instructions, as the law is handed them. -/
theorem open_ins {H : Type} {enc : TypeId × Value → H} {W : World} {base : Nat} {v : Value} {d : DataW H} {ps : List MemPlace} (hv : Value.okWide Tryd.prog W .any base 22 v) (h : DataW.Trod enc Tryd.prog W 0 (fun _ => true) true 22 v d ps) :
    ∃ (xs : List Ins) (o : Option (Nat × Nat)), (∀ (m : MapN) (b : Nat), m b = o → V m (szB W) (.slice (some ⟨b, 0, none⟩) xs.length 4) v) ∧ (∀ m : MapN, RowOk W m (insC xs, o)) := by
  obtain ⟨len, o, at', hv0, hrow, hel⟩ := open_cells (P := Tryd.prog) (t := 22) (e := 27) (sz := 4) (by kernel_rfl) (by kernel_rfl) (by omega) hv h
  have each : ∀ i, i < len → ∃ p : Ins, at' i 0 = I p.op ∧ at' i 1 = I p.d ∧ at' i 2 = I p.s ∧ at' i 3 = I p.imm := by
    intro i hi
    obtain ⟨n, y, hy⟩ := hel i hi
    obtain ⟨ys, k, _, _, _, hyl, hf⟩ := DataW.trod_struct (fs := fs27) (by kernel_rfl) hy
    have hsz : fs27.size = 4 := by kernel_rfl
    have g0 := hf 0 (fs27.getD 0 default) (by kernel_rfl)
    have g1 := hf 1 (fs27.getD 1 default) (by kernel_rfl)
    have g2 := hf 2 (fs27.getD 2 default) (by kernel_rfl)
    have g3 := hf 3 (fs27.getD 3 default) (by kernel_rfl)
    have a0 : (((List.range 4).map (at' i)).drop (fs27.getD 0 default).offset).take (Tryd.prog.cellsOf (fs27.getD 0 default).type) = [at' i 0] := by
      rw [show (fs27.getD 0 default).offset = 0 by kernel_rfl, show Tryd.prog.cellsOf (fs27.getD 0 default).type = 1 by kernel_rfl]; rfl
    have a1 : (((List.range 4).map (at' i)).drop (fs27.getD 1 default).offset).take (Tryd.prog.cellsOf (fs27.getD 1 default).type) = [at' i 1] := by
      rw [show (fs27.getD 1 default).offset = 1 by kernel_rfl, show Tryd.prog.cellsOf (fs27.getD 1 default).type = 1 by kernel_rfl]; rfl
    have a2 : (((List.range 4).map (at' i)).drop (fs27.getD 2 default).offset).take (Tryd.prog.cellsOf (fs27.getD 2 default).type) = [at' i 2] := by
      rw [show (fs27.getD 2 default).offset = 2 by kernel_rfl, show Tryd.prog.cellsOf (fs27.getD 2 default).type = 1 by kernel_rfl]; rfl
    have a3 : (((List.range 4).map (at' i)).drop (fs27.getD 3 default).offset).take (Tryd.prog.cellsOf (fs27.getD 3 default).type) = [at' i 3] := by
      rw [show (fs27.getD 3 default).offset = 3 by kernel_rfl, show Tryd.prog.cellsOf (fs27.getD 3 default).type = 1 by kernel_rfl]; rfl
    rw [a0, List.getElem?_eq_getElem (by omega)] at g0
    rw [a1, List.getElem?_eq_getElem (by omega)] at g1
    rw [a2, List.getElem?_eq_getElem (by omega)] at g2
    rw [a3, List.getElem?_eq_getElem (by omega)] at g3
    obtain ⟨x0, h0, _, _⟩ := DataW.trod_int (k := .i64) (by kernel_rfl) g0
    obtain ⟨x1, h1, _, _⟩ := DataW.trod_int (k := .i64) (by kernel_rfl) g1
    obtain ⟨x2, h2, _, _⟩ := DataW.trod_int (k := .i64) (by kernel_rfl) g2
    obtain ⟨x3, h3, _, _⟩ := DataW.trod_int (k := .i64) (by kernel_rfl) g3
    exact ⟨⟨x0, x1, x2, x3⟩, by simpa using h0, by simpa using h1, by simpa using h2, by simpa using h3⟩
  have : Inhabited Ins := ⟨⟨0, 0, 0, 0⟩⟩
  obtain ⟨f, hf⟩ := Deep.choose_lt each
  have hxl : ((List.range len).map f).length = len := by simp
  refine ⟨(List.range len).map f, o, fun m b hm => by rw [hxl]; exact hv0 m b hm, fun m => hrow m _ (by rw [insC_len, hxl]) fun i j hi hj => ?_⟩
  have hi' : i < ((List.range len).map f).length := by omega
  obtain ⟨q0, q1, q2, q3⟩ := nth_insC hi'
  rw [nth_eq] at q0 q1 q2 q3
  have hfi : ((List.range len).map f)[i] = f i := by simp
  rw [hfi] at q0 q1 q2 q3
  obtain ⟨e0, e1, e2, e3⟩ := hf i hi
  match j, hj with
  | 0, _ => exact ⟨_, q0, rfl, by rw [e0]; exact .int _ _⟩
  | 1, _ => exact ⟨_, q1, rfl, by rw [e1]; exact .int _ _⟩
  | 2, _ => exact ⟨_, q2, rfl, by rw [e2]; exact .int _ _⟩
  | 3, _ => exact ⟨_, q3, rfl, by rw [e3]; exact .int _ _⟩
set_option maxRecDepth 100000 in
theorem AsmNames_lifted (os : Os) (started : os.Started) (H : Type) (enc : TypeId × Value → H) :
    ReturnsInHanded {} Tryd.checked os 3 .any (fun w args => (Rows.asmNamesSpec.pre enc Tryd.prog Tryd.f3 [] false w args ∧ laidMetH Tryd.prog laidL w) ∧ sizedMet enc Tryd.prog Tryd.f3 (OpenSpec.ofChange Rows.asmNamesSpec) false w args)
      (Rows.asmNamesSpec.post enc Tryd.prog Tryd.f3 false true false false) := by
  refine handed_and_shaped (C := Tryd.checked) (X := fun w _ => laidMetH Tryd.prog laidL w) (fun _ _ _ hh h => h.of_heap hh) Tryd.own started (by kernel_rfl) Tryd.func3
    (ChangeSpec.witness_shaped (enc := enc) (C := Tryd.checked) (os := os) (X := fun w _ => laidMetH Tryd.prog laidL w) false (laidW os) #[.slice none 0 0, .string ⟨#[]⟩] 8 rfl (World.shaped_of_RefB (by kernel_rfl) (by kernel_rfl)) (by kernel_rfl) (by kernel_rfl) (by kernel_rfl) (laidW_met os _)) ?_
  intro W base args ds gs before hval0 hW hL hshape
  have hval : ∀ (j : Nat) t v, Tryd.f3.params[j]? = some t → args[j]? = some v → Value.okWide Tryd.prog W .any base t v := hval0
  have hW' := hW
  obtain ⟨p, q, hA0, hV, _, _, _⟩ := hW
  have hA : DataW.TrodAll enc Tryd.prog W 0 (fun _ => true) true Tryd.f3.params.toList args.toList ds p := hA0
  rw [Tryd.params3] at hA hval
  obtain ⟨v0, v1, d0, d1, p0, p1, rfl, rfl, hp01, h0, h1⟩ := trodAll_two hA
  obtain ⟨rfl, rfl⟩ := trodVars_none hV
  obtain ⟨l, o, hv0, hr0⟩ := open_ins (hval 0 22 v0 rfl rfl) h0
  obtain ⟨s, rfl⟩ := arg_str Tryd.underlying9 (hval 1 9 v1 rfl rfl)
  have hw := lw_of hL hshape
  have hgl : Tryd.prog.globals.size < W.heap.size := globals_lt hshape (by kernel_rfl)
  refine law_liftedG (C := Tryd.checked) (bl := [(insC l, o)]) hgl ?_ (by kernel_rfl) (args := [SL Tryd.prog.globals.size l.length 4, .string s])
    (.cons (hv0 _ _ ?_) (.cons (.str s) .nil)) ((callN hw l s o.isNone).mono fun rs h e => e.1) Tryd.laidOut (tb := 4) (by kernel_rfl) rfl (by kernel_rfl) rfl hW' rfl
  · intro x hx
    simp only [List.mem_singleton] at hx
    subst hx
    exact hr0 _
  · exact mG_ge Tryd.prog.globals.size 0 [(insC l, o)]

theorem AsmNames_holds : Rows.AsmNamesSaid :=
  OpenClaim.holds_of_wide 3 Tryd.f3 rfl rfl rfl rfl rfl rfl rfl ⟨rfl, rfl, rfl, rfl, rfl⟩ rfl rfl rfl rfl rfl (by kernel_rfl) Tryd.func3 (by kernel_rfl)
    (of_decide_eq_true (by kernel_rfl)) (by unfold Func.isWrapper; rw [if_neg (of_decide_eq_false (by kernel_rfl))]; exact ⟨rfl, rfl⟩)
    (fun os started H enc _ => AsmNames_lifted os started H enc)

theorem AsmNamesCard_holds : Rows.AsmNamesCardSaid :=
  Claim7.holds_tied_plain_at .later [] [.data, .data, .data, .data, .sentinel, .sentinel, .widerDeep, .pinned] true (true, "8e016da5abf06fefb712414437f1263835e653efaf2ba5d205f2a68b53d8a16e") true
    AsmNames_holds (fun _ h => by cases h) (by kernel_rfl) (fun _ h => by cases h) asmNames_row_tie rfl ⟨rfl, rfl⟩ (by kernel_rfl) rfl
    (fun f fn hf hfn => by
      obtain rfl : f = 3 := Option.some.inj ((show Tryd.prog.funcNamed "posthorse/posthorselaw21.AsmNames" = some 3 by kernel_rfl).symm.trans hf) |>.symm
      obtain rfl : fn = Tryd.f3 := (Option.some.inj (Tryd.func3.symm.trans hfn)).symm
      exact ⟨by kernel_rfl, fun j t ht => by
        rw [Tryd.params3] at ht
        have h3 : t = 22 ∨ t = 9 := by
          rcases j with _ | _ | j
          · exact .inl (by simpa using ht.symm)
          · exact .inr (by simpa using ht.symm)
          · simp at ht
        rcases h3 with rfl | rfl
        · exact (show Tryd.prog.wantsStandIn 22 = false by kernel_rfl)
        · exact (show Tryd.prog.wantsStandIn 9 = false by kernel_rfl)⟩)
    (by kernel_rfl)
#print axioms AsmNamesCard_holds
end Go.Proofs.YtkjdfkodclednaaDoor
