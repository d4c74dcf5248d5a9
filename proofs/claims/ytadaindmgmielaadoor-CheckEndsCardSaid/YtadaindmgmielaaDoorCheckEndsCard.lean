/- The statement CheckEnds holds, its listed variable tied to the program's text: for every input the law returns true, and the arguments read behind the call as they read before. No condition. -/
import Derived.Test.YtadaindmgmielaaDoorEd
import Derived.Test.YtadaindmgmielaaDoorTie
import Derived.Test.YtadaindmgmielaaDoorCards
import Derived.SevenTiedAt
namespace Go.Proofs.YtadaindmgmielaaDoor
open Go.Agm
open Go.ChangeShapes Go.WideShapes Go.ChangeAt Go.RowKit

def fieldsOf (d : Option TypeDesc) : Array Field := match d with
  | some (.struct fs) => fs
  | _ => #[]
noncomputable def fs24 : Array Field := fieldsOf (Tryd.prog.underlying 24)
set_option maxRecDepth 100000 in
/-- Instructions, as the law is handed them. -/
theorem open_ins {H : Type} {enc : TypeId × Value → H} {W : World} {base : Nat} {v : Value} {d : DataW H} {ps : List MemPlace} (hv : Value.okWide Tryd.prog W .any base 22 v) (h : DataW.Trod enc Tryd.prog W 0 (fun _ => true) true 22 v d ps) :
    ∃ (xs : List Ins) (o : Option (Nat × Nat)), (∀ (m : MapN) (b : Nat), m b = o → V m (szB W) (.slice (some ⟨b, 0, none⟩) xs.length 4) v) ∧ (∀ m : MapN, RowOk W m (insC xs, o)) := by
  obtain ⟨len, o, at', hv0, hrow, hel⟩ := open_cells (P := Tryd.prog) (t := 22) (e := 24) (sz := 4) (by kernel_rfl) (by kernel_rfl) (by omega) hv h
  have each : ∀ i, i < len → ∃ p : Ins, at' i 0 = I p.op ∧ at' i 1 = I p.d ∧ at' i 2 = I p.s ∧ at' i 3 = I p.imm := by
    intro i hi
    obtain ⟨n, y, hy⟩ := hel i hi
    obtain ⟨ys, k, _, _, _, hyl, hf⟩ := DataW.trod_struct (fs := fs24) (by kernel_rfl) hy
    have hsz : fs24.size = 4 := by kernel_rfl
    have g0 := hf 0 (fs24.getD 0 default) (by kernel_rfl)
    have g1 := hf 1 (fs24.getD 1 default) (by kernel_rfl)
    have g2 := hf 2 (fs24.getD 2 default) (by kernel_rfl)
    have g3 := hf 3 (fs24.getD 3 default) (by kernel_rfl)
    have a0 : (((List.range 4).map (at' i)).drop (fs24.getD 0 default).offset).take (Tryd.prog.cellsOf (fs24.getD 0 default).type) = [at' i 0] := by
      rw [show (fs24.getD 0 default).offset = 0 by kernel_rfl, show Tryd.prog.cellsOf (fs24.getD 0 default).type = 1 by kernel_rfl]; rfl
    have a1 : (((List.range 4).map (at' i)).drop (fs24.getD 1 default).offset).take (Tryd.prog.cellsOf (fs24.getD 1 default).type) = [at' i 1] := by
      rw [show (fs24.getD 1 default).offset = 1 by kernel_rfl, show Tryd.prog.cellsOf (fs24.getD 1 default).type = 1 by kernel_rfl]; rfl
    have a2 : (((List.range 4).map (at' i)).drop (fs24.getD 2 default).offset).take (Tryd.prog.cellsOf (fs24.getD 2 default).type) = [at' i 2] := by
      rw [show (fs24.getD 2 default).offset = 2 by kernel_rfl, show Tryd.prog.cellsOf (fs24.getD 2 default).type = 1 by kernel_rfl]; rfl
    have a3 : (((List.range 4).map (at' i)).drop (fs24.getD 3 default).offset).take (Tryd.prog.cellsOf (fs24.getD 3 default).type) = [at' i 3] := by
      rw [show (fs24.getD 3 default).offset = 3 by kernel_rfl, show Tryd.prog.cellsOf (fs24.getD 3 default).type = 1 by kernel_rfl]; rfl
    rw [a0, List.getElem?_eq_getElem (by omega)] at g0
    rw [a1, List.getElem?_eq_getElem (by omega)] at g1
    rw [a2, List.getElem?_eq_getElem (by omega)] at g2
    rw [a3, List.getElem?_eq_getElem (by omega)] at g3
    obtain ⟨x0, h0, _, _⟩ := DataW.trod_int (k := .i64) (by kernel_rfl) g0
    obtain ⟨x1, h1, _, _⟩ := DataW.trod_int (k := .i64) (by kernel_rfl) g1
    obtain ⟨x2, h2, _, _⟩ := DataW.trod_int (k := .i64) (by kernel_rfl) g2
    obtain ⟨x3, h3, _, _⟩ := DataW.trod_int (k := .i64) (by kernel_rfl) g3
    exact ⟨⟨x0, x1, x2, x3⟩, by simpa using h0, by simpa using h1, by simpa using h2, by simpa using h3⟩
  have : Inhabited Ins := ⟨insD⟩
  obtain ⟨f, hf⟩ := Deep.choose_lt each
  have hxl : ((List.range len).map f).length = len := by simp
  refine ⟨(List.range len).map f, o, fun m b hm => by rw [hxl]; exact hv0 m b hm, fun m => hrow m _ (by rw [insC_len, hxl]) fun i j hi hj => ?_⟩
  have hi' : i < ((List.range len).map f).length := by omega
  obtain ⟨q0, q1, q2, q3⟩ := nth_insC hi'
  rw [nth_eq] at q0 q1 q2 q3
  have hfi : ((List.range len).map f)[i] = f i := by simp
  rw [hfi] at q0 q1 q2 q3
  obtain ⟨e0, e1, e2, e3⟩ := hf i hi
  match j, hj with
  | 0, _ => exact ⟨_, q0, rfl, by rw [e0]; exact .int _ _⟩
  | 1, _ => exact ⟨_, q1, rfl, by rw [e1]; exact .int _ _⟩
  | 2, _ => exact ⟨_, q2, rfl, by rw [e2]; exact .int _ _⟩
  | 3, _ => exact ⟨_, q3, rfl, by rw [e3]; exact .int _ _⟩
/-- One instruction, as the law is handed it. -/
theorem arg_ins {P : Program} {W : World} {r : Reach} {b0 : Nat} {t e : TypeId} {n : Nat} {fs : Array Field} {k : IntKind} {v : Value} (ht : P.underlying t = some (.struct fs)) (hc : P.cellTypes P.depth t = some (List.replicate n e)) (hs : P.cellsOf t = n) (he : P.underlying e = some (.int k)) (h : Value.okWide P W r b0 t v) :
    ∃ xs : List Int, xs.length = n ∧ v = .agg (xs.map (.int k)).toArray := by
  simp only [Value.okWide, ht] at h
  obtain ⟨cs, rfl, h1, ts, h2, _, h3⟩ := h
  rw [hc] at h2
  injection h2 with h2
  subst h2
  have key : ∀ l : List Value, (∀ x ∈ l, ∃ q, x = .int k q) → ∃ xs : List Int, xs.length = l.length ∧ l = xs.map (.int k) := by
    intro l
    induction l with
    | nil => exact fun _ => ⟨[], rfl, rfl⟩
    | cons x l ih =>
      intro hl
      obtain ⟨q, rfl⟩ := hl x (by simp)
      obtain ⟨xs, k1, k2⟩ := ih fun y hy => hl y (by simp [hy])
      exact ⟨q :: xs, by simp [k1], by simp [← k2]⟩
  obtain ⟨xs, k1, k2⟩ := key cs.toList fun x hx => by
    obtain ⟨i, hi⟩ := List.mem_iff_getElem?.1 hx
    rw [Array.getElem?_toList] at hi
    obtain ⟨u, hu, hok⟩ := h3 i x hi
    have hu' : u = e := by
      have := List.mem_of_getElem? hu
      simp only [List.mem_replicate] at this
      exact this.2
    subst hu'
    simp only [Cell.okWide, he] at hok
    cases x <;> simp_all [Cell.ok]
  refine ⟨xs, by rw [k1]; simpa [hs] using h1, ?_⟩
  rw [← k2]

set_option maxRecDepth 100000 in
theorem CheckEnds_lifted (os : Os) (started : os.Started) (H : Type) (enc : TypeId × Value → H) :
    ReturnsInHanded {} Tryd.checked os 3 .any (fun w args => (Rows.checkEndsSpec.pre enc Tryd.prog Tryd.f3 [] false w args ∧ laidMetH Tryd.prog laidL w) ∧ sizedMet enc Tryd.prog Tryd.f3 (OpenSpec.ofChange Rows.checkEndsSpec) false w args)
      (Rows.checkEndsSpec.post enc Tryd.prog Tryd.f3 false true false false) := by
  refine handed_and_shaped (C := Tryd.checked) (X := fun w _ => laidMetH Tryd.prog laidL w) (fun _ _ _ hh h => h.of_heap hh) Tryd.own started (by kernel_rfl) Tryd.func3
    (ChangeSpec.witness_at (enc := enc) (C := Tryd.checked) (os := os) (X := fun w _ => laidMetH Tryd.prog laidL w) false (laidWorld os) #[.slice none 0 0, .agg #[I 0, I 0, I 0, I 0]] 8 rfl (by kernel_rfl) (by kernel_rfl) (by kernel_rfl) (by kernel_rfl) (by kernel_rfl) (laidWorld_met os _)) ?_
  intro W base args ds gs before hval0 hW hL hshape
  have hval : ∀ (j : Nat) t v, Tryd.f3.params[j]? = some t → args[j]? = some v → Value.okWide Tryd.prog W .any base t v := hval0
  have hW' := hW
  obtain ⟨p, q, hA0, hV, _, _, _⟩ := hW
  have hA : DataW.TrodAll enc Tryd.prog W 0 (fun _ => true) true Tryd.f3.params.toList args.toList ds p := hA0
  rw [Tryd.params3] at hA
  obtain ⟨v0, v1, d0, d1, p0, p1, rfl, rfl, hp01, h0, h1⟩ := trodAll_two hA
  obtain ⟨rfl, rfl⟩ := trodVars_none hV
  obtain ⟨l, o, hv0, hr0⟩ := open_ins (hval 0 22 v0 rfl rfl) h0
  obtain ⟨xs, hlen, rfl⟩ := arg_ins (e := 3) (n := 4) (fs := fs24) (k := .i64) (by kernel_rfl) (by kernel_rfl) (by kernel_rfl) (by kernel_rfl) (hval 1 24 v1 rfl rfl)
  obtain ⟨op, d, s, imm, rfl⟩ : ∃ a b c d : Int, xs = [a, b, c, d] := by
    match xs, hlen with
    | [a, b, c, d], _ => exact ⟨a, b, c, d, rfl⟩
  have hg := laid_of hL
  have hgl : Tryd.prog.globals.size < W.heap.size := globals_lt hshape (by kernel_rfl)
  refine law_liftedG (C := Tryd.checked) (bl := [(insC l, o)]) hgl ?_ (by kernel_rfl) (args := [SL Tryd.prog.globals.size l.length 4, AG [I op, I d, I s, I imm]])
    (.cons (hv0 _ _ ?_) (.cons (.agg (.cons (.int _ op) (.cons (.int _ d) (.cons (.int _ s) (.cons (.int _ imm) .nil)))) (fun u hu => by
      simp only [List.mem_cons, List.not_mem_nil, or_false] at hu
      rcases hu with rfl | rfl | rfl | rfl <;> rfl)) .nil)) (call3 hg l o.isNone op d s imm) Tryd.laidOut (tb := 4) (by kernel_rfl) rfl (by kernel_rfl) rfl hW' rfl
  · intro x hx
    simp only [List.mem_singleton] at hx
    subst hx
    exact hr0 _
  · exact mG_ge Tryd.prog.globals.size 0 [(insC l, o)]

theorem CheckEnds_holds : Rows.CheckEndsSaid :=
  OpenClaim.holds_of_wide 3 Tryd.f3 rfl rfl rfl rfl rfl rfl rfl ⟨rfl, rfl, rfl, rfl, rfl⟩ rfl rfl rfl rfl rfl (by kernel_rfl) Tryd.func3 (by kernel_rfl)
    (of_decide_eq_true (by kernel_rfl)) (by unfold Func.isWrapper; rw [if_neg (of_decide_eq_false (by kernel_rfl))]; exact ⟨rfl, rfl⟩)
    (fun os started H enc _ => CheckEnds_lifted os started H enc)

theorem CheckEndsCard_holds : Rows.CheckEndsCardSaid :=
  Claim7.holds_tied_plain_at .later [] [.handle] true (true, "565b4173358048bc8034b147e4697ed39709093c60a782b2a7df3fe3599595a1") true
    CheckEnds_holds (fun _ h => by cases h) (by kernel_rfl) (fun _ h => by cases h) checkEnds_row_tie rfl ⟨rfl, rfl⟩ (by kernel_rfl) rfl
    (fun f fn hf hfn => by
      obtain rfl : f = 3 := Option.some.inj ((show Tryd.prog.funcNamed "posthorse/posthorselaw19.CheckEnds" = some 3 by kernel_rfl).symm.trans hf) |>.symm
      obtain rfl : fn = Tryd.f3 := (Option.some.inj (Tryd.func3.symm.trans hfn)).symm
      exact ⟨by kernel_rfl, fun j t ht => by
        rw [Tryd.params3] at ht
        have h3 : t = 22 ∨ t = 24 := by
          rcases j with _ | _ | j
          · exact .inl (by simpa using ht.symm)
          · exact .inr (by simpa using ht.symm)
          · simp at ht
        rcases h3 with rfl | rfl
        · exact (show Tryd.prog.wantsStandIn 22 = false by kernel_rfl)
        · exact (show Tryd.prog.wantsStandIn 24 = false by kernel_rfl)⟩)
    (by kernel_rfl)
#print axioms CheckEndsCard_holds
end Go.Proofs.YtadaindmgmielaaDoor
