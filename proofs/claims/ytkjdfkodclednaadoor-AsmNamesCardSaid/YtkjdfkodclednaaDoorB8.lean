/- An abstract machine for one goroutine: a law's slices of numbers; a law's call from a statement on its code. No condition. -/
import Derived.Test.YtkjdfkodclednaaDoorB7
import Derived.HandedShaped
import Derived.ProofKit
namespace Go.Agm
open Go.ChangeShapes Go.WideShapes Go.ChangeAt Go.RowKit

variable {H : Type} {enc : TypeId × Value → H} {P : Program} {W : World}

/-- The start: rows that lie in the world, and rows of nothing. -/
abbrev Row0 := List Value × Option (Nat × Nat)
def heapG (G : Nat) (bl : List Row0) : AHeap := heapB G (bl.map fun x => some (.cells x.1 x.2.isNone))
def mG (G : Nat) (bl : List Row0) : MapN := fun b => if b < G then some (b, 0) else (bl[b - G]?).bind (·.2)
theorem mG_ge (G i : Nat) (bl : List Row0) : mG G bl (G + i) = (bl[i]?).bind (·.2) := by
  unfold mG
  rw [if_neg (by omega), Nat.add_sub_cancel_left]
def RowOk (W : World) (m : MapN) (x : Row0) : Prop := match x.2 with
  | some p => ∃ C el fz, W.heap[p.1]? = some (.cells C el fz) ∧ VAt m (szB W) x.1 C p.2
  | none => x.1 = []

theorem start_hrelG {bl : List Row0} (hg : P.globals.size < W.heap.size) (hb : ∀ x ∈ bl, RowOk W (mG P.globals.size bl) x) :
    HRel P W (mG P.globals.size bl) (fun B => B < W.heap.size) (heapG P.globals.size bl) W := by
  have hget : ∀ b x, (heapG P.globals.size bl).get b = some x → ¬ b < P.globals.size ∧ ∃ y, y ∈ bl ∧ bl[b - P.globals.size]? = some y ∧ x = .cells y.1 y.2.isNone := by
    intro b x hx
    unfold heapG at hx
    rw [heapB_get] at hx
    split at hx
    · simp at hx
    · rename_i hlt
      rw [List.getElem?_map] at hx
      cases hy : bl[b - P.globals.size]? with
      | none => rw [hy] at hx; simp at hx
      | some y =>
        rw [hy] at hx
        simp only [Option.map_some, Option.join_some, Option.some.injEq] at hx
        exact ⟨hlt, y, List.mem_of_getElem? hy, rfl, hx.symm⟩
  have hm : ∀ b y, ¬ b < P.globals.size → bl[b - P.globals.size]? = some y → mG P.globals.size bl b = y.2 := by
    intro b y hlt hy
    simp only [mG, if_neg hlt, hy, Option.bind_some]
  refine ⟨Below.refl _ _, fun _ h => h, fun _ h => h, fun g h => by simp [mG, h], ?_, ?_, ?_, ?_, ?_, fun b t e => by
    unfold heapG at e
    rw [heapB_ty] at e
    simp at e⟩
  · intro b B bs hmb
    unfold heapG
    rw [heapB_next, List.length_map]
    simp only [mG] at hmb
    split at hmb
    · rename_i hlt
      injection hmb with hmb
      injection hmb with e1 e2
      subst e1
      exact ⟨by omega, by omega⟩
    · rename_i hlt
      rw [Option.bind_eq_some_iff] at hmb
      obtain ⟨y, hy, hy2⟩ := hmb
      have hok := hb y (List.mem_of_getElem? hy)
      have hl := (List.getElem?_eq_some_iff.1 hy).1
      unfold RowOk at hok
      rw [hy2] at hok
      obtain ⟨C, el, fz, k1, _⟩ := hok
      exact ⟨(Array.getElem?_eq_some_iff.1 k1).1, by omega⟩
  · intro b x hx
    obtain ⟨hlt, y, _, hy2, _⟩ := hget b x hx
    have := (List.getElem?_eq_some_iff.1 hy2).1
    unfold heapG
    rw [heapB_next, List.length_map]
    omega
  · intro b cs rw hx
    obtain ⟨hlt, y, hy, hy2, e⟩ := hget b _ hx
    injection e with e1 e2
    subst e1 e2
    have hok := hb y hy
    unfold RowOk at hok
    cases hq : y.2 with
    | none => rw [hq] at hok; exact .inl ⟨hok, rfl, by rw [hm b y hlt hy2, hq]⟩
    | some p =>
      rw [hq] at hok
      obtain ⟨C, el, fz, k1, k2⟩ := hok
      exact .inr ⟨p.1, p.2, C, el, fz, by rw [hm b y hlt hy2, hq], k1, k2, fun hh => by simp at hh, fun _ => (Array.getElem?_eq_some_iff.1 k1).1⟩
  · intro b es hx
    obtain ⟨_, y, _, _, e⟩ := hget b _ hx
    simp at e
  · intro b b' x x' B bs bs' hx hx' hn _ ho
    obtain ⟨hlt, y, _, hy2, e⟩ := hget b _ hx
    subst e
    rw [hm b y hlt hy2] at hn
    simp only [ABlk.own] at ho
    rw [hn] at ho
    simp at ho

/-- A slice of numbers, as a law is handed it. -/
theorem open_nums {t e : TypeId} {k : IntKind} {base : Nat} {v : Value} {d : DataW H} {ps : List MemPlace} (hu : P.underlying t = some (.slice e)) (he : P.underlying e = some (.int k)) (hc : P.cellsOf e = 1)
    (hv : Value.okWide P W .any base t v) (h : DataW.Trod enc P W 0 (fun _ => true) true t v d ps) :
    ∃ (xs : List Int) (o : Option (Nat × Nat)), (∀ (m : MapN) (b : Nat), m b = o → V m (szB W) (.slice (some ⟨b, 0, none⟩) xs.length 1) v) ∧ (∀ m : MapN, RowOk W m (xs.map (.int k), o)) := by
  obtain ⟨fuel, hf⟩ := h
  have hok : Cell.ok P W .any base t v := by
    simp only [Value.okWide, hu] at hv
    simpa [Cell.okWide, hu] using hv
  rcases open_ints hu he hc hf with ⟨h1, _⟩ | ⟨a, len, cap, zs, h1, _, hl, _, hz, _, hcell, _⟩
  · have hv0 : v = .slice none 0 0 := by
      cases v <;> simp_all [Value.cells, Cell.ok]
    subst hv0
    exact ⟨[], none, fun m b _ => .sghost (by omega), fun m => rfl⟩
  · have hv0 : v = .slice (some a) len cap := by
      cases v <;> simp_all [Value.cells, Cell.ok]
    subst hv0
    simp only [if_true] at hz
    by_cases hcap : cap = 0
    · have hlen : len = 0 := by omega
      subst hcap hlen
      exact ⟨[], none, fun m b _ => .sempty, fun m => rfl⟩
    · have hspot : a.spot = none := by
        unfold Cell.ok at hok
        rw [hu] at hok
        exact hok.2.2.2.1
      obtain ⟨B, off, sp⟩ := a
      simp only at hspot
      subst hspot
      have hat : ∀ i, i < cap → W.cell? ⟨B, off + i, none⟩ = some (.int k (zs.getD i 0)) := by
        intro i hi
        have := hcell i (by omega)
        unfold Addr.add at this
        split at this
        · rename_i h0; subst h0; simpa using this
        · exact this
      obtain ⟨C, el, fz, hB⟩ : ∃ C el fz, W.heap[B]? = some (.cells C el fz) := by
        have := hat 0 (by omega)
        unfold World.cell? at this
        split at this
        · rename_i C el fz hB; exact ⟨C, el, fz, hB⟩
        · simp at this
      have hC : ∀ i, i < cap → C[off + i]? = some (.int k (zs.getD i 0)) := by
        intro i hi
        have := hat i hi
        unfold World.cell? at this
        rw [hB] at this
        simpa using this
      have hsz : off + cap ≤ C.size := by
        have := (Array.getElem?_eq_some_iff.1 (hC (cap - 1) (by omega))).1
        omega
      have hszB : szB W B = C.size := by unfold szB; rw [hB]
      have hlt : (zs.take len).length = len := by rw [List.length_take]; omega
      refine ⟨zs.take len, some (B, off), fun m b hm => ?_, fun m => ⟨C, el, fz, hB, ?_, ?_, ?_⟩⟩
      · rw [hlt]
        exact .slice (base := off) hm hl (by omega) (by rw [hszB]; omega)
      · simp only [List.length_map, hlt]; omega
      · intro x hx
        simp only [List.mem_map] at hx
        obtain ⟨n, _, rfl⟩ := hx
        rfl
      · refine .of_get (by simp only [List.length_take, List.length_map, List.length_drop, Array.length_toList, hlt]; omega) fun i x hx => ?_
        rw [List.getElem?_map, Option.map_eq_some_iff] at hx
        obtain ⟨n, hn, rfl⟩ := hx
        have hi : i < len := by rw [← hlt]; exact (List.getElem?_eq_some_iff.1 hn).1
        rw [List.getElem?_take, if_pos hi] at hn
        refine ⟨.int k n, ?_, .int k n⟩
        have hlen2 : (List.map (Value.int k) (zs.take len)).length = len := by rw [List.length_map, hlt]
        simp only [hlen2]
        rw [List.getElem?_take, if_pos hi, List.getElem?_drop, Array.getElem?_toList, hC i (by omega)]
        congr 2
        simp [List.getD, hn]

/-- A law that comes to true. -/
theorem law_startG {bl : List Row0} (hg : P.globals.size < W.heap.size) (hb : ∀ x ∈ bl, RowOk W (mG P.globals.size bl) x) {f : FuncId} (he : enters P f = true) {args args' : List Value} (hv : VL (mG P.globals.size bl) (szB W) args args')
    (s : CallS P W f args (heapG P.globals.size bl) fun rs _ => rs = [.bool true]) : Calls P f args'.toArray W fun e W' => e = .returned (.bool true) ∧ Below W.heap.size W W' := by
  refine (s _ _ W args' (start_hrelG hg hb) hv he).mono ?_
  rintro en W' ⟨rs, h', v, m', rfl, rfl, _, h1, _, h2⟩
  cases h2
  exact ⟨rfl, h1.base⟩

theorem law_liftedG {C : Checked} {bl : List Row0} (hg : C.prog.globals.size < W.heap.size) (hb : ∀ x ∈ bl, RowOk W (mG C.prog.globals.size bl) x) {f : FuncId} (he : enters C.prog f = true) {args : List Value} {args' : Array Value}
    (hv : VL (mG C.prog.globals.size bl) (szB W) args args'.toList) (s : CallS C.prog W f args (heapG C.prog.globals.size bl) fun rs _ => rs = [.bool true])
    (hl : laidOutB C.prog = true) {fn : Func} {sp : ChangeSpec} {tb : TypeId} {apart fresh handsOn again : Bool} (hpa : (fn.params.toList.all fun t => C.prog.readableRec t && decide (t < C.prog.types.size)) = true) (hres : fn.resultTypes = #[tb]) (hu : C.prog.underlying tb = some .bool)
    (hvs : sp.vars = []) {ds gs : List (DataW H)} {before : List MemPlace} (hW : DataW.Whole enc C.prog fn.params.toList sp.vars apart W args'.toList ds gs before)
    (hs : sp.fn H (ds ++ gs) = { results := [.lit (.bool true)], args := ds }) : Calls C.prog f args' W fun e W' => ∃ v, e = .returned v ∧ sp.post enc C.prog fn apart fresh handsOn again W args' v W' := by
  have := law_startG hg hb he hv s
  refine this.mono ?_
  rintro en W' ⟨rfl, hbel⟩
  exact ⟨_, rfl, law_post hl hpa hres hu hvs hW hs hbel⟩

end Go.Agm
