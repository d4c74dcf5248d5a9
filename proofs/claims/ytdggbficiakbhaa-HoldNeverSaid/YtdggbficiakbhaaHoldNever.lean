/- The statement HoldNever holds: for every input the law returns true, and each argument reads behind the call as it read before. No condition. -/
import Derived.Test.YtdggbficiakbhaaHoldXg
import Derived.Test.YtdggbficiakbhaaB11
namespace Go.Proofs.Ytdggbficiakbhaa
open Go.Agm
open Go.ChangeShapes Go.WideShapes Go.ChangeAt Go.RowKit

theorem TryN.own : ownKnob Try.prog.godebug = none := by kernel_rfl
theorem TryN.laidOut : laidOutB Try.prog = true := by kernel_rfl

def fieldsOf (d : Option TypeDesc) : Array Field := match d with
  | some (.struct fs) => fs
  | _ => #[]
noncomputable def fs57 : Array Field := fieldsOf (Try.prog.underlying 57)
theorem nth_acts2 : ∀ {l : List (Int × Int)} {i : Nat} (_ : i < l.length), nth (acts l) (i * 3 + 2) = some (.chan none)
  | p :: r, 0, _ => rfl
  | p :: r, i + 1, h => by
    have := nth_acts2 (l := r) (i := i) (by simpa using h)
    have e : (i + 1) * 3 + 2 = i * 3 + 2 + 1 + 1 + 1 := by omega
    rw [e]
    exact this

/-- Acts, as the law is handed them. -/
theorem open_acts {H : Type} {enc : TypeId × Value → H} {W : World} {base : Nat} {v : Value} {d : DataW H} {ps : List MemPlace} (hv : Value.okWide Try.prog W .any base 51 v) (h : DataW.Trod enc Try.prog W 0 (fun _ => true) true 51 v d ps) :
    ∃ (xs : List (Int × Int)) (o : Option (Nat × Nat)), (∀ (m : MapN) (b : Nat), m b = o → V m (szB W) (.slice (some ⟨b, 0, none⟩) xs.length 3) v) ∧ (∀ m : MapN, RowOk W m (acts xs, o)) := by
  obtain ⟨len, o, at', hv0, hrow, hel⟩ := open_cells (P := Try.prog) (t := 51) (e := 57) (sz := 3) (by kernel_rfl) (by kernel_rfl) (by omega) hv h
  have each : ∀ i, i < len → ∃ p : Int × Int, at' i 0 = I p.1 ∧ at' i 1 = I p.2 ∧ one (at' i 2) = true := by
    intro i hi
    obtain ⟨n, y, hy⟩ := hel i hi
    obtain ⟨ys, k, _, _, _, hyl, hf⟩ := DataW.trod_struct (fs := fs57) (by kernel_rfl) hy
    have hsz : fs57.size = 3 := by kernel_rfl
    have g0 := hf 0 (fs57.getD 0 default) (by kernel_rfl)
    have g1 := hf 1 (fs57.getD 1 default) (by kernel_rfl)
    have g2 := hf 2 (fs57.getD 2 default) (by kernel_rfl)
    have a0 : (((List.range 3).map (at' i)).drop (fs57.getD 0 default).offset).take (Try.prog.cellsOf (fs57.getD 0 default).type) = [at' i 0] := by
      rw [show (fs57.getD 0 default).offset = 0 by kernel_rfl, show Try.prog.cellsOf (fs57.getD 0 default).type = 1 by kernel_rfl]; rfl
    have a1 : (((List.range 3).map (at' i)).drop (fs57.getD 1 default).offset).take (Try.prog.cellsOf (fs57.getD 1 default).type) = [at' i 1] := by
      rw [show (fs57.getD 1 default).offset = 1 by kernel_rfl, show Try.prog.cellsOf (fs57.getD 1 default).type = 1 by kernel_rfl]; rfl
    have a2 : (((List.range 3).map (at' i)).drop (fs57.getD 2 default).offset).take (Try.prog.cellsOf (fs57.getD 2 default).type) = [at' i 2] := by
      rw [show (fs57.getD 2 default).offset = 2 by kernel_rfl, show Try.prog.cellsOf (fs57.getD 2 default).type = 1 by kernel_rfl]; rfl
    rw [a0, List.getElem?_eq_getElem (by omega)] at g0
    rw [a1, List.getElem?_eq_getElem (by omega)] at g1
    rw [a2, List.getElem?_eq_getElem (by omega)] at g2
    obtain ⟨x0, h0, _, _⟩ := DataW.trod_int (k := .i64) (by kernel_rfl) g0
    obtain ⟨x1, h1, _, _⟩ := DataW.trod_int (k := .i64) (by kernel_rfl) g1
    refine ⟨(x0, x1), by simpa using h0, by simpa using h1, ?_⟩
    rcases DataW.trod_slice (e := 3) (by kernel_rfl) g2 with ⟨h2, _⟩ | ⟨a, l, c, _, _, _, _, h2, _⟩
    · have : at' i 2 = .slice none 0 0 := by simpa using h2
      rw [this]; rfl
    · have : at' i 2 = .slice (some a) l c := by simpa using h2
      rw [this]; rfl
  obtain ⟨f, hf⟩ := Deep.choose_lt each
  have hxl : ((List.range len).map f).length = len := by simp
  refine ⟨(List.range len).map f, o, fun m b hm => by rw [hxl]; exact hv0 m b hm, fun m => hrow m _ (by rw [acts_len, hxl]; omega) fun i j hi hj => ?_⟩
  have hi' : i < ((List.range len).map f).length := by omega
  obtain ⟨q0, q1⟩ := nth_acts hi'
  have q2 := nth_acts2 hi'
  rw [nth_eq] at q0 q1 q2
  have hfi : ((List.range len).map f)[i] = f i := by simp
  rw [hfi] at q0 q1
  obtain ⟨e0, e1, e2⟩ := hf i hi
  match j, hj with
  | 0, _ => exact ⟨_, q0, rfl, by rw [e0]; exact .int _ _⟩
  | 1, _ => exact ⟨_, q1, rfl, by rw [e1]; exact .int _ _⟩
  | 2, _ => exact ⟨_, q2, rfl, .junk e2⟩

set_option maxRecDepth 100000 in
theorem HoldNever_lifted (os : Os) (started : os.Started) (H : Type) (enc : TypeId × Value → H) :
    ReturnsInHanded {} Try.checked os 10 .any (Rows.holdNeverSpec.pre6 enc Try.prog Try.f10 Rows.holdNeverRow.domain false) (Rows.holdNeverSpec.post enc Try.prog Try.f10 false true false false) := by
  refine returnsInHanded_of_change_shaped (C := Try.checked) TryN.own started (by kernel_rfl) Try.func10
    (ChangeSpec.witness6 (enc := enc) (C := Try.checked) false ⟨#[], #[.slice none 0 0], []⟩ 8 (by kernel_rfl) (by kernel_rfl) (by kernel_rfl) (by kernel_rfl)) ?_
  intro W base args ds gs before hval0 hW hcnd _ hshape _
  have hval : ∀ (j : Nat) t v, Try.f10.params[j]? = some t → args[j]? = some v → Value.okWide Try.prog W .any base t v := hval0
  have hW' := hW
  obtain ⟨p, q, hA0, hV, _, _, _⟩ := hW
  have hA : DataW.TrodAll enc Try.prog W 0 (fun _ => true) true Try.f10.params.toList args.toList ds p := hA0
  rw [Try.params10] at hA hval
  obtain ⟨v0, d0, rfl, rfl, h0⟩ := trodAll_one hA
  obtain ⟨rfl, rfl⟩ := trodVars_none hV
  obtain ⟨xs, o, hv0, hr0⟩ := open_acts (hval 0 51 v0 rfl rfl) h0
  refine law_liftedG (C := Try.checked) (bl := [(acts xs, o)]) (globals_lt hshape (by kernel_rfl)) ?_ (by kernel_rfl) (args := [SL Try.prog.globals.size xs.length 3])
    (.cons (hv0 _ _ ?_) .nil) (never_true xs o.isNone) TryN.laidOut (tb := 4) (by kernel_rfl) rfl (by kernel_rfl) rfl hW' rfl
  · intro x hx
    simp only [List.mem_cons, List.not_mem_nil, or_false] at hx
    rcases hx with rfl
    exact hr0 _
  · exact mG_ge Try.prog.globals.size 0 [(acts xs, o)]

theorem HoldNever_holds : Rows.HoldNeverSaid :=
  OpenClaim.holds_of_wide 10 Try.f10 rfl rfl rfl rfl rfl rfl rfl ⟨rfl, rfl, rfl, rfl, rfl⟩ rfl rfl rfl rfl rfl (by kernel_rfl) Try.func10 (by kernel_rfl)
    (of_decide_eq_true (by kernel_rfl)) (by unfold Func.isWrapper; first | (rw [if_pos (by decide +kernel)]; kernel_rfl) | (rw [if_neg (by decide +kernel)]; exact ⟨rfl, rfl⟩))
    (fun os started H enc _ => HoldNever_lifted os started H enc)

#print axioms HoldNever_holds
end Go.Proofs.Ytdggbficiakbhaa
