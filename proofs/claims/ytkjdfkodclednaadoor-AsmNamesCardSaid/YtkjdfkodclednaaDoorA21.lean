/- An abstract machine for one goroutine: from a law's argument readings to the law's row. No condition. -/
import Derived.Test.YtkjdfkodclednaaDoorA20
import Derived.HandedShaped
import Derived.ProofKit
namespace Go.Agm
open Go.ChangeShapes Go.WideShapes Go.ChangeAt Go.RowKit
variable {H : Type} {enc : TypeId × Value → H} {P : Program}

theorem params_stay (hl : laidOutB P = true) {W W' : World} {sp : Nat → Bool} (hb : Below W.heap.size W W') : ∀ {ts : List TypeId} {vs : List Value} {ds : List (DataW H)} {ps : List MemPlace}, (ts.all fun t => P.readableRec t && decide (t < P.types.size)) = true →
    DataW.TrodAll enc P W 0 (fun _ => true) true ts vs ds ps → (∀ p ∈ ps, p.block < W.heap.size) → (∀ p ∈ ps, sp p.block = true) → DataW.TrodAll enc P W' 0 sp true ts vs ds ps
  | [], [], [], ps, _, h, _, _ => h
  | t :: ts, v :: vs, d :: ds, ps, hp, h, hlt, hsp => by
    obtain ⟨p, q, h1, h2, rfl⟩ := h
    simp only [List.all_cons, Bool.and_eq_true, decide_eq_true_eq] at hp
    refine ⟨p, q, WideElems.Trod_stays hl hp.1.1 hp.1.2 h1 (fun x hx => hb.same (hlt x (by simp [hx]))) (fun x hx => hsp x (by simp [hx])), ?_, rfl⟩
    exact params_stay hl hb (by simpa using hp.2) h2 (fun x hx => hlt x (by simp [hx])) (fun x hx => hsp x (by simp [hx]))
  | [], _ :: _, _, _, _, h, _, _ => h.elim
  | [], [], _ :: _, _, _, h, _, _ => h.elim
  | _ :: _, [], _, _, _, h, _, _ => h.elim
  | _ :: _, _ :: _, [], _, _, h, _, _ => h.elim

/-- What a law's row asks behind the call. -/
theorem law_post (hl : laidOutB P = true) {fn : Func} {s : ChangeSpec} {tb : TypeId} {apart fresh handsOn again : Bool} (hp : (fn.params.toList.all fun t => P.readableRec t && decide (t < P.types.size)) = true) (hres : fn.resultTypes = #[tb]) (hu : P.underlying tb = some .bool)
    (hv : s.vars = []) {W W' : World} {args : Array Value} {ds gs : List (DataW H)} {before : List MemPlace} (hW : DataW.Whole enc P fn.params.toList s.vars apart W args.toList ds gs before)
    (hs : s.fn H (ds ++ gs) = { results := [.lit (.bool true)], args := ds }) (hb : Below W.heap.size W W') : s.post enc P fn apart fresh handsOn again W args (.bool true) W' := by
  have hlt := hW.lt
  have hW' := hW
  obtain ⟨pa, pv, hA, hV, he, hfz, hnd⟩ := hW
  rw [hv] at hV
  obtain ⟨rfl, rfl⟩ := trodVars_none hV
  subst he
  simp only [List.append_nil] at hW' hlt hs
  have hstay : ∀ sp : Nat → Bool, (∀ p ∈ pa, sp p.block = true) → DataW.TrodAll enc P W' 0 sp true fn.params.toList args.toList ds pa := fun sp hsp => params_stay hl hb hp hA hlt hsp
  have hone : ∀ (b : Nat) (sp : Nat → Bool) (hd : Bool), DataW.TrodAll enc P W' b sp hd fn.resultTypes.toList ((Value.bool true).resultList fn.resultTypes.size) [.lit (.bool true)] [] := by
    intro b sp hd
    rw [hres]
    exact trodAll_mk1 (shut_bool hu true)
  have hvars : ∀ sp : Nat → Bool, DataW.TrodVars enc P W' sp s.vars [] [] := by
    intro sp
    rw [hv]
    simp [DataW.TrodVars]
  refine ⟨ds, [], pa, [], pa, [], hW', ?_, ?_, ?_, hb.frame _, fun _ => ⟨ok_one hres rfl (okWide_bool_mk hu true), .lit (.bool true) :: ds, [], [] ++ pa, ⟨[] ++ pa, [], ?_, hvars _, by simp, ?_, ?_⟩, ?_⟩⟩
  · simp only [List.append_nil, hs]; exact hone _ _ _
  · simp only [List.append_nil, hs]; exact hstay _ (fun p hp => by simpa using hlt p hp)
  · simp only [List.append_nil, hs]; exact hvars _
  · exact trodAll_append (hstay (fun _ => true) (fun _ _ => rfl)) (hone _ _ _)
  · intro b off hm
    have hm' : MemPlace.cell b off ∈ pa := by simpa using hm
    have := hb.frozen (p := ⟨b, off, none⟩) (hlt _ hm')
    rw [this]
    exact hfz b off (by simpa using hm')
  · intro ha
    simpa using hnd ha
  · intro p hm _
    simpa using hm

/-! The start. -/

def heapOf (G : Nat) (bl : List (List Value)) : AHeap := bl.foldl (fun h cs => h.new (.cells cs false)) { next := G, tr := .leaf }
def mOf (G : Nat) (bl : List (List Value × Nat × Nat)) : MapN := fun b => if b < G then some (b, 0) else (bl[b - G]?).map (·.2)

theorem heap_fold : ∀ (bl : List (List Value)) (h : AHeap), (∀ j, h.next ≤ j → h.get j = none) → (bl.foldl (fun h cs => h.new (.cells cs false)) h).next = h.next + bl.length ∧
    ∀ j, (bl.foldl (fun h cs => h.new (.cells cs false)) h).get j = if j < h.next then h.get j else (bl[j - h.next]?).map fun cs => .cells cs false
  | [], h, hn => ⟨rfl, fun j => by
      simp only [List.foldl_nil]
      split
      · rfl
      · rw [hn j (by omega)]; simp⟩
  | cs :: bl, h, hn => by
    rw [List.foldl_cons]
    have hn' : ∀ j, (h.new (.cells cs false)).next ≤ j → (h.new (.cells cs false)).get j = none := by
      intro j hj
      have hj' : h.next + 1 ≤ j := hj
      rw [AHeap.get_new, if_neg (by omega)]
      exact hn j (by omega)
    obtain ⟨h1, h2⟩ := heap_fold bl (h.new (.cells cs false)) hn'
    have hnx : (h.new (.cells cs false)).next = h.next + 1 := rfl
    refine ⟨by rw [h1, hnx, List.length_cons]; omega, fun j => ?_⟩
    rw [h2, hnx]
    by_cases hj : j < h.next
    · rw [if_pos (by omega), if_pos hj, AHeap.get_new, if_neg (by omega)]
    · rw [if_neg hj]
      by_cases hj2 : j = h.next
      · subst hj2
        rw [if_pos (by omega), AHeap.get_new, if_pos rfl]
        simp
      · rw [if_neg (by omega)]
        have : j - h.next = (j - (h.next + 1)) + 1 := by omega
        rw [this, List.getElem?_cons_succ]

theorem heap_fold_ty : ∀ (bl : List (List Value)) (h : AHeap), (bl.foldl (fun h cs => h.new (.cells cs false)) h).ty = h.ty
  | [], _ => rfl
  | _ :: bl, h => heap_fold_ty bl (h.new _)

theorem start_hrel {W : World} {bl : List (List Value × Nat × Nat)} (hg : P.globals.size < W.heap.size)
    (hb : ∀ x ∈ bl, ∃ C el fz, W.heap[x.2.1]? = some (.cells C el fz) ∧ VAt (mOf P.globals.size bl) (szB W) x.1 C x.2.2) :
    HRel P W (mOf P.globals.size bl) (fun B => B < W.heap.size) (heapOf P.globals.size (bl.map (·.1))) W := by
  obtain ⟨h1, h2⟩ := heap_fold (bl.map (·.1)) { next := P.globals.size, tr := .leaf } (fun j _ => rfl)
  have hget : ∀ b x, (heapOf P.globals.size (bl.map (·.1))).get b = some x → ¬ b < P.globals.size ∧ ∃ y ∈ bl, bl[b - P.globals.size]? = some y ∧ x = .cells y.1 false := by
    intro b x hx
    unfold heapOf at hx
    rw [h2] at hx
    split at hx
    · simp [AHeap.get, Tr.get] at hx
    · rename_i hlt
      refine ⟨hlt, ?_⟩
      rw [List.getElem?_map, Option.map_map, Option.map_eq_some_iff] at hx
      obtain ⟨y, hy, rfl⟩ := hx
      exact ⟨y, List.mem_of_getElem? hy, hy, rfl⟩
  have hm : ∀ b y, ¬ b < P.globals.size → bl[b - P.globals.size]? = some y → mOf P.globals.size bl b = some y.2 := by
    intro b y hlt hy
    simp only [mOf, if_neg hlt, hy, Option.map_some]
  refine ⟨Below.refl _ _, fun _ h => h, fun _ h => h, fun g h => by simp [mOf, h], ?_, ?_, ?_, ?_, ?_, fun b t e => by
    unfold heapOf at e
    rw [heap_fold_ty] at e
    simp at e⟩
  · intro b B bs hmb
    unfold heapOf
    rw [h1]
    simp only [mOf] at hmb
    split at hmb
    · rename_i hlt
      injection hmb with hmb
      injection hmb with e1 e2
      subst e1
      exact ⟨by omega, Nat.lt_of_lt_of_le hlt (Nat.le_add_right _ _)⟩
    · rename_i hlt
      rw [Option.map_eq_some_iff] at hmb
      obtain ⟨y, hy, hy2⟩ := hmb
      obtain ⟨C, el, fz, k1, _⟩ := hb y (List.mem_of_getElem? hy)
      have hl := (List.getElem?_eq_some_iff.1 hy).1
      rw [hy2] at k1
      refine ⟨(Array.getElem?_eq_some_iff.1 k1).1, ?_⟩
      simp only [List.length_map]
      omega
  · intro b x hx
    obtain ⟨hlt, y, _, hy2, _⟩ := hget b _ hx
    have := (List.getElem?_eq_some_iff.1 hy2).1
    unfold heapOf
    rw [h1, List.length_map]
    show b < P.globals.size + bl.length
    omega
  · intro b cs rw hx
    obtain ⟨hlt, y, hy, hy2, e⟩ := hget b _ hx
    injection e with e1 e2
    subst e1 e2
    obtain ⟨C, el, fz, k1, k2⟩ := hb y hy
    exact .inr ⟨y.2.1, y.2.2, C, el, fz, hm b y hlt hy2, k1, k2, fun hh => by simp at hh, fun _ => (Array.getElem?_eq_some_iff.1 k1).1⟩
  · intro b es hx
    obtain ⟨_, y, _, _, e⟩ := hget b _ hx
    simp at e
  · intro b b' x x' B bs bs' hx hx' _ _ ho
    obtain ⟨_, y, _, _, e⟩ := hget b _ hx
    subst e
    simp [ABlk.own] at ho

/-- A law that comes to true. -/
theorem law_calls (hmix : P.follows .mixedOrders = true) {T : Tbl} {W : World} (hp : PrimOk P W T) {bl : List (List Value × Nat × Nat)} (hg : P.globals.size < W.heap.size)
    (hb : ∀ x ∈ bl, ∃ C el fz, W.heap[x.2.1]? = some (.cells C el fz) ∧ VAt (mOf P.globals.size bl) (szB W) x.1 C x.2.2) {f : FuncId} (he : enters P f = true) {args args' : List Value} (hv : VL (mOf P.globals.size bl) (szB W) args args') {h' : AHeap}
    (e : run P T f args (heapOf P.globals.size (bl.map (·.1))) = some ([.bool true], h')) : Calls P f args'.toArray W fun e W' => e = .returned (.bool true) ∧ Below W.heap.size W W' := by
  refine (run_sound hmix hp f args _ _ _ e _ _ W args' (start_hrel hg hb) hv he).mono ?_
  rintro en W' ⟨v, m', rfl, _, h1, _, h2⟩
  cases h2
  exact ⟨rfl, h1.base⟩

theorem law_lifted {C : Checked} (hmix : C.prog.follows .mixedOrders = true) {T : Tbl} {W : World} (hp : PrimOk C.prog W T) {bl : List (List Value × Nat × Nat)} (hg : C.prog.globals.size < W.heap.size)
    (hb : ∀ x ∈ bl, ∃ D el fz, W.heap[x.2.1]? = some (.cells D el fz) ∧ VAt (mOf C.prog.globals.size bl) (szB W) x.1 D x.2.2) {f : FuncId} (he : enters C.prog f = true) {args : List Value} {args' : Array Value} (hv : VL (mOf C.prog.globals.size bl) (szB W) args args'.toList) {h' : AHeap}
    (e : run C.prog T f args (heapOf C.prog.globals.size (bl.map (·.1))) = some ([.bool true], h'))
    (hl : laidOutB C.prog = true) {fn : Func} {s : ChangeSpec} {tb : TypeId} {apart fresh handsOn again : Bool} (hpa : (fn.params.toList.all fun t => C.prog.readableRec t && decide (t < C.prog.types.size)) = true) (hres : fn.resultTypes = #[tb]) (hu : C.prog.underlying tb = some .bool)
    (hvs : s.vars = []) {ds gs : List (DataW H)} {before : List MemPlace} (hW : DataW.Whole enc C.prog fn.params.toList s.vars apart W args'.toList ds gs before)
    (hs : s.fn H (ds ++ gs) = { results := [.lit (.bool true)], args := ds }) : Calls C.prog f args' W fun e W' => ∃ v, e = .returned v ∧ s.post enc C.prog fn apart fresh handsOn again W args' v W' := by
  have := law_calls hmix hp hg hb he hv e
  refine this.mono ?_
  rintro en W' ⟨rfl, hbel⟩
  exact ⟨_, rfl, law_post hl hpa hres hu hvs hW hs hbel⟩

theorem no_prims {W : World} {T : Tbl} (h : ∀ f, T.prim f = none) : PrimOk P W T := by
  intro f g args rs h1
  rw [h] at h1; simp at h1

/-- How many blocks there are at the least. -/
theorem globals_lt {W : World} (h : W.ShapedOpen P) (h0 : Nat.blt P.globals.size (begin P (fun _ _ => 0) default).world.heap.size = true) : P.globals.size < W.heap.size := by
  obtain ⟨o, _, h1, _⟩ := h.2 P.globals.size (Nat.le_refl _) (Nat.le_of_ble_eq_true h0)
  exact (Array.getElem?_eq_some_iff.1 h1).1

/-! What an argument is, by its type. -/

theorem arg_int {W : World} {r : Reach} {b0 : Nat} {t : TypeId} {k : IntKind} {v : Value} (ht : P.underlying t = some (.int k)) (h : Value.okWide P W r b0 t v) : ∃ n, v = .int k n ∧ k.has n := by
  simp only [Value.okWide, ht, Cell.okWide] at h
  cases v <;> simp_all [Cell.ok]

theorem arg_ints {W : World} {r : Reach} {b0 : Nat} {t e e' : TypeId} {n : Nat} {k : IntKind} {v : Value} (ht : P.underlying t = some (.array n e')) (hc : P.cellTypes P.depth t = some (List.replicate n e)) (hs : P.cellsOf t = n) (he : P.underlying e = some (.int k)) (h : Value.okWide P W r b0 t v) :
    ∃ xs : List Int, xs.length = n ∧ v = .agg (xs.map (.int k)).toArray ∧ ∀ x ∈ xs, k.has x := by
  simp only [Value.okWide, ht] at h
  obtain ⟨cs, rfl, h1, ts, h2, _, h3⟩ := h
  rw [hc] at h2
  injection h2 with h2
  subst h2
  have key : ∀ l : List Value, (∀ x ∈ l, ∃ q, x = .int k q ∧ k.has q) → ∃ xs : List Int, xs.length = l.length ∧ l = xs.map (.int k) ∧ ∀ x ∈ xs, k.has x := by
    intro l
    induction l with
    | nil => exact fun _ => ⟨[], rfl, rfl, by simp⟩
    | cons x l ih =>
      intro hl
      obtain ⟨q, rfl, hq⟩ := hl x (by simp)
      obtain ⟨xs, k1, k2, k3⟩ := ih fun y hy => hl y (by simp [hy])
      exact ⟨q :: xs, by simp [k1], by simp [← k2], by simpa using ⟨hq, k3⟩⟩
  obtain ⟨xs, k1, k2, k3⟩ := key cs.toList fun x hx => by
    obtain ⟨i, hi⟩ := List.mem_iff_getElem?.1 hx
    rw [Array.getElem?_toList] at hi
    obtain ⟨u, hu, hok⟩ := h3 i x hi
    have hu' : u = e := by
      have := List.mem_of_getElem? hu
      simp only [List.mem_replicate] at this
      exact this.2
    subst hu'
    simp only [Cell.okWide, he] at hok
    cases x <;> simp_all [Cell.ok]
  refine ⟨xs, by rw [k1]; simpa [hs] using h1, ?_, k3⟩
  rw [← k2]

end Go.Agm
