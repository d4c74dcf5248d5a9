/- The statement RunSafe holds: for every input the law returns true, and the arguments read behind the call as they read before. No condition. -/
import Derived.Test.YtadaindmgmielaaPk
import Derived.Test.YtadaindmgmielaaB11
import Derived.Test.YtadaindmgmielaaRows
import Derived.HandedShaped
import Derived.OpenShut
namespace Go.Proofs.Ytadaindmgmielaa
open Go.Agm
open Go.ChangeShapes Go.WideShapes Go.ChangeAt Go.RowKit

theorem TryS.own : ownKnob Try.prog.godebug = none := by kernel_rfl
theorem TryS.laidOut : laidOutB Try.prog = true := by kernel_rfl
def fieldsOf (d : Option TypeDesc) : Array Field := match d with
  | some (.struct fs) => fs
  | _ => #[]
noncomputable def fs81 : Array Field := fieldsOf (Try.prog.underlying 81)
set_option maxRecDepth 100000 in
/-- Instructions, as the law is handed them. -/
theorem open_ins {H : Type} {enc : TypeId × Value → H} {W : World} {base : Nat} {v : Value} {d : DataW H} {ps : List MemPlace} (hv : Value.okWide Try.prog W .any base 46 v) (h : DataW.Trod enc Try.prog W 0 (fun _ => true) true 46 v d ps) :
    ∃ (xs : List Ins) (o : Option (Nat × Nat)), (∀ (m : MapN) (b : Nat), m b = o → V m (szB W) (.slice (some ⟨b, 0, none⟩) xs.length 4) v) ∧ (∀ m : MapN, RowOk W m (insC xs, o)) := by
  obtain ⟨len, o, at', hv0, hrow, hel⟩ := open_cells (P := Try.prog) (t := 46) (e := 81) (sz := 4) (by kernel_rfl) (by kernel_rfl) (by omega) hv h
  have each : ∀ i, i < len → ∃ p : Ins, at' i 0 = I p.op ∧ at' i 1 = I p.d ∧ at' i 2 = I p.s ∧ at' i 3 = I p.imm := by
    intro i hi
    obtain ⟨n, y, hy⟩ := hel i hi
    obtain ⟨ys, k, _, _, _, hyl, hf⟩ := DataW.trod_struct (fs := fs81) (by kernel_rfl) hy
    have hsz : fs81.size = 4 := by kernel_rfl
    have g0 := hf 0 (fs81.getD 0 default) (by kernel_rfl)
    have g1 := hf 1 (fs81.getD 1 default) (by kernel_rfl)
    have g2 := hf 2 (fs81.getD 2 default) (by kernel_rfl)
    have g3 := hf 3 (fs81.getD 3 default) (by kernel_rfl)
    have a0 : (((List.range 4).map (at' i)).drop (fs81.getD 0 default).offset).take (Try.prog.cellsOf (fs81.getD 0 default).type) = [at' i 0] := by
      rw [show (fs81.getD 0 default).offset = 0 by kernel_rfl, show Try.prog.cellsOf (fs81.getD 0 default).type = 1 by kernel_rfl]; rfl
    have a1 : (((List.range 4).map (at' i)).drop (fs81.getD 1 default).offset).take (Try.prog.cellsOf (fs81.getD 1 default).type) = [at' i 1] := by
      rw [show (fs81.getD 1 default).offset = 1 by kernel_rfl, show Try.prog.cellsOf (fs81.getD 1 default).type = 1 by kernel_rfl]; rfl
    have a2 : (((List.range 4).map (at' i)).drop (fs81.getD 2 default).offset).take (Try.prog.cellsOf (fs81.getD 2 default).type) = [at' i 2] := by
      rw [show (fs81.getD 2 default).offset = 2 by kernel_rfl, show Try.prog.cellsOf (fs81.getD 2 default).type = 1 by kernel_rfl]; rfl
    have a3 : (((List.range 4).map (at' i)).drop (fs81.getD 3 default).offset).take (Try.prog.cellsOf (fs81.getD 3 default).type) = [at' i 3] := by
      rw [show (fs81.getD 3 default).offset = 3 by kernel_rfl, show Try.prog.cellsOf (fs81.getD 3 default).type = 1 by kernel_rfl]; rfl
    rw [a0, List.getElem?_eq_getElem (by omega)] at g0
    rw [a1, List.getElem?_eq_getElem (by omega)] at g1
    rw [a2, List.getElem?_eq_getElem (by omega)] at g2
    rw [a3, List.getElem?_eq_getElem (by omega)] at g3
    obtain ⟨x0, h0, _, _⟩ := DataW.trod_int (k := .i64) (by kernel_rfl) g0
    obtain ⟨x1, h1, _, _⟩ := DataW.trod_int (k := .i64) (by kernel_rfl) g1
    obtain ⟨x2, h2, _, _⟩ := DataW.trod_int (k := .i64) (by kernel_rfl) g2
    obtain ⟨x3, h3, _, _⟩ := DataW.trod_int (k := .i64) (by kernel_rfl) g3
    exact ⟨⟨x0, x1, x2, x3⟩, by simpa using h0, by simpa using h1, by simpa using h2, by simpa using h3⟩
  have : Inhabited Ins := ⟨insD⟩
  obtain ⟨f, hf⟩ := Deep.choose_lt each
  have hxl : ((List.range len).map f).length = len := by simp
  refine ⟨(List.range len).map f, o, fun m b hm => by rw [hxl]; exact hv0 m b hm, fun m => hrow m _ (by rw [insC_len, hxl]) fun i j hi hj => ?_⟩
  have hi' : i < ((List.range len).map f).length := by omega
  obtain ⟨q0, q1, q2, q3⟩ := nth_insC hi'
  rw [nth_eq] at q0 q1 q2 q3
  have hfi : ((List.range len).map f)[i] = f i := by simp
  rw [hfi] at q0 q1 q2 q3
  obtain ⟨e0, e1, e2, e3⟩ := hf i hi
  match j, hj with
  | 0, _ => exact ⟨_, q0, rfl, by rw [e0]; exact .int _ _⟩
  | 1, _ => exact ⟨_, q1, rfl, by rw [e1]; exact .int _ _⟩
  | 2, _ => exact ⟨_, q2, rfl, by rw [e2]; exact .int _ _⟩
  | 3, _ => exact ⟨_, q3, rfl, by rw [e3]; exact .int _ _⟩
/-- Texts, as the law is handed them. -/
theorem arg_strs {P : Program} {W : World} {r : Reach} {b0 : Nat} {t e e' : TypeId} {n : Nat} {v : Value} (ht : P.underlying t = some (.array n e')) (hc : P.cellTypes P.depth t = some (List.replicate n e)) (hs : P.cellsOf t = n) (he : P.underlying e = some .string) (h : Value.okWide P W r b0 t v) :
    ∃ xs : List ByteArray, xs.length = n ∧ v = .agg (xs.map .string).toArray := by
  simp only [Value.okWide, ht] at h
  obtain ⟨cs, rfl, h1, ts, h2, _, h3⟩ := h
  rw [hc] at h2
  injection h2 with h2
  subst h2
  have key : ∀ l : List Value, (∀ x ∈ l, ∃ q, x = .string q) → ∃ xs : List ByteArray, xs.length = l.length ∧ l = xs.map .string := by
    intro l
    induction l with
    | nil => exact fun _ => ⟨[], rfl, rfl⟩
    | cons x l ih =>
      intro hl
      obtain ⟨q, rfl⟩ := hl x (by simp)
      obtain ⟨xs, k1, k2⟩ := ih fun y hy => hl y (by simp [hy])
      exact ⟨q :: xs, by simp [k1], by simp [← k2]⟩
  obtain ⟨xs, k1, k2⟩ := key cs.toList fun x hx => by
    obtain ⟨i, hi⟩ := List.mem_iff_getElem?.1 hx
    rw [Array.getElem?_toList] at hi
    obtain ⟨u, hu, hok⟩ := h3 i x hi
    have hu' : u = e := by
      have := List.mem_of_getElem? hu
      simp only [List.mem_replicate] at this
      exact this.2
    subst hu'
    simp only [Cell.okWide, he] at hok
    cases x <;> simp_all [Cell.ok]
  refine ⟨xs, by rw [k1]; simpa [hs] using h1, ?_⟩
  rw [← k2]

theorem len3 : ∀ {ts : List ByteArray}, ts.length = 3 → ∃ a b c : ByteArray, ts = [a, b, c]
  | [a, b, c], _ => ⟨a, b, c, rfl⟩
theorem V_strs {m : MapN} {S : Nat → Nat} (t0 t1 t2 : ByteArray) : V m S (AG [.string t0, .string t1, .string t2]) (.agg (([t0, t1, t2] : List ByteArray).map .string).toArray) :=
  .agg (.cons (.str t0) (.cons (.str t1) (.cons (.str t2) .nil))) (fun u hu => by
    simp only [List.mem_cons, List.not_mem_nil, or_false] at hu
    rcases hu with rfl | rfl | rfl <;> rfl)
set_option maxRecDepth 100000 in
set_option maxHeartbeats 1000000 in
theorem RunSafe_lifted (os : Os) (started : os.Started) (H : Type) (enc : TypeId × Value → H) :
    ReturnsInHanded {} Try.checked os 4 .any (Rows.runSafeSpec.pre6 enc Try.prog Try.f4 Rows.runSafeRow.domain false) (Rows.runSafeSpec.post enc Try.prog Try.f4 false true false false) := by
  refine returnsInHanded_of_change_shaped (C := Try.checked) TryS.own started (by kernel_rfl) Try.func4
    (ChangeSpec.witness6 (enc := enc) (C := Try.checked) false ⟨#[], #[.slice none 0 0, .agg #[.string ⟨#[]⟩, .string ⟨#[]⟩, .string ⟨#[]⟩]], []⟩ 8 (by kernel_rfl) (by kernel_rfl) (by kernel_rfl) (by kernel_rfl)) ?_
  intro W base args ds gs before hval0 hW hcnd _ hshape _
  have hval : ∀ (j : Nat) t v, Try.f4.params[j]? = some t → args[j]? = some v → Value.okWide Try.prog W .any base t v := hval0
  have hW' := hW
  obtain ⟨p, q, hA0, hV, _, _, _⟩ := hW
  have hA : DataW.TrodAll enc Try.prog W 0 (fun _ => true) true Try.f4.params.toList args.toList ds p := hA0
  rw [Try.params4] at hA hval
  obtain ⟨v0, v1, d0, d1, p0, p1, rfl, rfl, rfl, h0, h1⟩ := trodAll_two hA
  obtain ⟨rfl, rfl⟩ := trodVars_none hV
  obtain ⟨l, o, hv0, hr0⟩ := open_ins (hval 0 46 v0 rfl rfl) h0
  obtain ⟨ts, hlen, rfl⟩ := arg_strs (e := 9) (n := 3) Try.underlying47 (by kernel_rfl) (by kernel_rfl) (by kernel_rfl) (hval 1 47 v1 rfl rfl)
  obtain ⟨t0, t1, t2, rfl⟩ := len3 hlen
  refine law_liftedG (C := Try.checked) (bl := [(insC l, o)]) (globals_lt hshape (by kernel_rfl)) ?_ (by kernel_rfl) (args := [SL Try.prog.globals.size l.length 4, AG [.string t0, .string t1, .string t2]])
    (.cons (hv0 _ _ ?_) (.cons (V_strs t0 t1 t2) .nil)) (call4 l o.isNone t0 t1 t2) TryS.laidOut (tb := 4) (by kernel_rfl) rfl (by kernel_rfl) rfl hW' rfl
  · intro x hx
    simp only [List.mem_singleton] at hx
    subst hx
    exact hr0 _
  · exact mG_ge Try.prog.globals.size 0 [(insC l, o)]

theorem RunSafe_holds : Rows.RunSafeSaid :=
  OpenClaim.holds_of_wide 4 Try.f4 rfl rfl rfl rfl rfl rfl rfl ⟨rfl, rfl, rfl, rfl, rfl⟩ rfl rfl rfl rfl rfl (by kernel_rfl) Try.func4 (by kernel_rfl)
    (of_decide_eq_true (by kernel_rfl)) (by unfold Func.isWrapper; first | (rw [if_pos (by decide +kernel)]; kernel_rfl) | (rw [if_neg (by decide +kernel)]; exact ⟨rfl, rfl⟩))
    (fun os started H enc _ => RunSafe_lifted os started H enc)

#print axioms RunSafe_holds
end Go.Proofs.Ytadaindmgmielaa
