/- The statement RunScratch holds: for every input the law returns true, and the arguments read behind the call as they read before. No condition. -/
import Derived.Test.YtadaindmgmielaaPe
import Derived.Test.YtadaindmgmielaaB11
import Derived.Test.YtadaindmgmielaaRows
import Derived.HandedShaped
import Derived.OpenShut
namespace Go.Proofs.Ytadaindmgmielaa
open Go.Agm
open Go.ChangeShapes Go.WideShapes Go.ChangeAt Go.RowKit

theorem TryS.own : ownKnob Try.prog.godebug = none := by kernel_rfl
theorem TryS.laidOut : laidOutB Try.prog = true := by kernel_rfl
set_option maxRecDepth 100000 in
/-- Pairs, as the law is handed them. -/
theorem open_pairs {H : Type} {enc : TypeId × Value → H} {W : World} {base : Nat} {v : Value} {d : DataW H} {ps : List MemPlace} (hv : Value.okWide Try.prog W .any base 22 v) (h : DataW.Trod enc Try.prog W 0 (fun _ => true) true 22 v d ps) :
    ∃ (xs : List (Int × Int)) (o : Option (Nat × Nat)), (∀ (m : MapN) (b : Nat), m b = o → V m (szB W) (.slice (some ⟨b, 0, none⟩) xs.length 2) v) ∧ (∀ m : MapN, RowOk W m (loC xs, o)) := by
  obtain ⟨len, o, at', hv0, hrow, hel⟩ := open_cells (P := Try.prog) (t := 22) (e := 28) (sz := 2) (by kernel_rfl) (by kernel_rfl) (by omega) hv h
  have each : ∀ i, i < len → ∃ p : Int × Int, at' i 0 = I p.1 ∧ at' i 1 = I p.2 := by
    intro i hi
    obtain ⟨n, y, hy⟩ := hel i hi
    obtain ⟨ys, k, _, _, _, hyl, hf⟩ := DataW.trod_array (n := 2) (e := 3) (by kernel_rfl) hy
    have g0 := hf 0 (by omega)
    have g1 := hf 1 (by omega)
    have hc : Try.prog.cellsOf 3 = 1 := by kernel_rfl
    rw [hc] at g0 g1
    have a0 : (((List.range 2).map (at' i)).drop (0 * 1)).take 1 = [at' i 0] := rfl
    have a1 : (((List.range 2).map (at' i)).drop (1 * 1)).take 1 = [at' i 1] := rfl
    rw [a0, List.getElem?_eq_getElem (by omega)] at g0
    rw [a1, List.getElem?_eq_getElem (by omega)] at g1
    obtain ⟨x0, h0, _, _⟩ := DataW.trod_int (k := .i64) (by kernel_rfl) g0
    obtain ⟨x1, h1, _, _⟩ := DataW.trod_int (k := .i64) (by kernel_rfl) g1
    exact ⟨(x0, x1), by simpa using h0, by simpa using h1⟩
  obtain ⟨f, hf⟩ := Deep.choose_lt each
  have hxl : ((List.range len).map f).length = len := by simp
  refine ⟨(List.range len).map f, o, fun m b hm => by rw [hxl]; exact hv0 m b hm, fun m => hrow m _ (by rw [loC_len, hxl]; omega) fun i j hi hj => ?_⟩
  have hi' : i < ((List.range len).map f).length := by omega
  obtain ⟨q0, q1⟩ := nth_loC ((List.range len).map f) i hi'
  rw [nth_eq] at q0 q1
  have hfi : ((List.range len).map f)[i] = f i := by simp
  rw [hfi] at q0 q1
  obtain ⟨e0, e1⟩ := hf i hi
  match j, hj with
  | 0, _ => exact ⟨_, by rw [show i * 2 + 0 = 2 * i by omega]; exact q0, rfl, by rw [e0]; exact .int _ _⟩
  | 1, _ => exact ⟨_, by rw [show i * 2 + 1 = 2 * i + 1 by omega]; exact q1, rfl, by rw [e1]; exact .int _ _⟩
theorem arg_str {P : Program} {W : World} {r : Reach} {b0 : Nat} {t : TypeId} {v : Value} (ht : P.underlying t = some .string) (h : Value.okWide P W r b0 t v) : ∃ q, v = .string q := by
  simp only [Value.okWide, ht, Cell.okWide] at h
  cases v <;> simp_all [Cell.ok]

set_option maxRecDepth 100000 in
theorem RunScratch_lifted (os : Os) (started : os.Started) (H : Type) (enc : TypeId × Value → H) :
    ReturnsInHanded {} Try.checked os 3 .any (Rows.runScratchSpec.pre6 enc Try.prog Try.f3 Rows.runScratchRow.domain false) (Rows.runScratchSpec.post enc Try.prog Try.f3 false true false false) := by
  refine returnsInHanded_of_change_shaped (C := Try.checked) TryS.own started (by kernel_rfl) Try.func3
    (ChangeSpec.witness6 (enc := enc) (C := Try.checked) false ⟨#[], #[.slice none 0 0, .string ⟨#[]⟩], []⟩ 8 (by kernel_rfl) (by kernel_rfl) (by kernel_rfl) (by kernel_rfl)) ?_
  intro W base args ds gs before hval0 hW hcnd _ hshape _
  have hval : ∀ (j : Nat) t v, Try.f3.params[j]? = some t → args[j]? = some v → Value.okWide Try.prog W .any base t v := hval0
  have hW' := hW
  obtain ⟨p, q, hA0, hV, _, _, _⟩ := hW
  have hA : DataW.TrodAll enc Try.prog W 0 (fun _ => true) true Try.f3.params.toList args.toList ds p := hA0
  rw [Try.params3] at hA hval
  obtain ⟨v0, v1, d0, d1, p0, p1, rfl, rfl, rfl, h0, h1⟩ := trodAll_two hA
  obtain ⟨rfl, rfl⟩ := trodVars_none hV
  obtain ⟨xs, o, hv0, hr0⟩ := open_pairs (hval 0 22 v0 rfl rfl) h0
  obtain ⟨first, rfl⟩ := arg_str (P := Try.prog) (by kernel_rfl) (hval 1 9 v1 rfl rfl)
  refine law_liftedG (C := Try.checked) (bl := [(loC xs, o)]) (globals_lt hshape (by kernel_rfl)) ?_ (by kernel_rfl) (args := [SL Try.prog.globals.size xs.length 2, .string first])
    (.cons (hv0 _ _ ?_) (.cons (.str first) .nil)) (call3 xs o.isNone first) TryS.laidOut (tb := 4) (by kernel_rfl) rfl (by kernel_rfl) rfl hW' rfl
  · intro x hx
    simp only [List.mem_cons, List.not_mem_nil, or_false] at hx
    rcases hx with rfl
    exact hr0 _
  · exact mG_ge Try.prog.globals.size 0 [(loC xs, o)]

theorem RunScratch_holds : Rows.RunScratchSaid :=
  OpenClaim.holds_of_wide 3 Try.f3 rfl rfl rfl rfl rfl rfl rfl ⟨rfl, rfl, rfl, rfl, rfl⟩ rfl rfl rfl rfl rfl (by kernel_rfl) Try.func3 (by kernel_rfl)
    (of_decide_eq_true (by kernel_rfl)) (by unfold Func.isWrapper; first | (rw [if_pos (by decide +kernel)]; kernel_rfl) | (rw [if_neg (by decide +kernel)]; exact ⟨rfl, rfl⟩))
    (fun os started H enc _ => RunScratch_lifted os started H enc)

#print axioms RunScratch_holds
end Go.Proofs.Ytadaindmgmielaa
