/- The law RunSame answers true. No condition but the library's one variable. -/
import Derived.Test.YtadaindmgmielaaDoorRd
import Derived.ProofKit
import Derived.HandedShaped
import Derived.LaidLaws
import Derived.LaidHandle
import Derived.JoinedOf
import Derived.Stop.Joined
namespace Go.Proofs.YtadaindmgmielaaDoor
open Go.Agm
variable {w0 : World}
abbrev SemS (w0 : World) (K : List Value → AHeap → Prop) (t : List Item) (fr : List AV) (h : AHeap) : Prop := Agm.Sem Tryd.prog w0 (Tryd.prog.globals.size + nt1p.flags.length) Tryd.f6 (retT G nt1p K) t fr h
theorem leaf6_ok {K : List Value → AHeap → Prop} : ∀ t fr h, (match t with
    | .code (.region 6 _ _) :: _ => canonT G nt6a (SemS w0 K t) fr h
    | .code (.region 7 _ _) :: _ => canonT G nt6b (SemS w0 K t) fr h
    | .code (.region 9 _ _) :: _ => canonT G nt6c (SemS w0 K t) fr h
    | _ => False) → SemS w0 K t fr h := by
  intro t fr h e
  split at e
  · exact canonT_semN (nt := nt6a) rfl e
  · exact canonT_semN (nt := nt6b) rfl e
  · exact canonT_semN (nt := nt6c) rfl e
  · exact e.elim
theorem okA : ∀ c ∈ [con15, con16, con17], c.ok Tryd.prog w0 := fun c hc => by
  simp only [List.mem_cons, List.not_mem_nil, or_false] at hc
  rcases hc with rfl | rfl | rfl
  · exact con15_ok
  · exact con16_ok
  · exact con17_ok
theorem okB : ∀ c ∈ [con18], c.ok Tryd.prog w0 := fun c hc => by
  simp only [List.mem_cons, List.not_mem_nil, or_false] at hc
  subst hc
  exact con18_ok
theorem okC (E : End) : ∀ c ∈ [con19 E], c.ok Tryd.prog w0 := fun c hc => by
  simp only [List.mem_cons, List.not_mem_nil, or_false] at hc
  subst hc
  exact con19_ok
theorem okD (hg : Laid w0) (E : End) : ∀ c ∈ [con20, con19 E], c.ok Tryd.prog w0 := fun c hc => by
  simp only [List.mem_cons, List.not_mem_nil, or_false] at hc
  rcases hc with rfl | rfl
  · exact con20_ok hg
  · exact con19_ok
theorem kyS_size (t1 : ByteArray) : 0 < (kyS t1).size ∧ (kyS t1).size ≤ 16 := by
  have h : (t1.extract 0 (if 15 < (t1.size : Int) then 15 else (t1.size : Int)).toNat).size ≤ 15 := by
    rw [ByteArray.size_extract]
    split <;> omega
  have e : (kyS t1).size = 1 + (t1.extract 0 (if 15 < (t1.size : Int) then 15 else (t1.size : Int)).toNat).size := by
    unfold kyS
    rw [size_mk, List.length_append, sz_list]; rfl
  omega
abbrev KT : List Value → AHeap → Prop := fun rs' _ => rs' = [B true]
theorem plain_strs (a b c : ByteArray) : PlainL [.string a, .string b, .string c] := by
  intro x hx
  simp only [List.mem_cons, List.not_mem_nil, or_false] at hx
  rcases hx with rfl | rfl | rfl <;> rfl
theorem plain_res (c nx st : Int) (v : ByteArray) : PlainL [I c, .string v, I nx, I st] := by
  intro x hx
  simp only [List.mem_cons, List.not_mem_nil, or_false] at hx
  rcases hx with rfl | rfl | rfl | rfl <;> rfl
theorem endOf_e (r : Int × Mc × Int) : ((endOf r).e = none ∧ r.1 = 0) ∨ ((endOf r).e = some r.1 ∧ r.1 ≠ 0) := by
  unfold endOf
  cases h : r.1 == 0 with
  | true => exact .inl ⟨rfl, by simpa using h⟩
  | false => exact .inr ⟨rfl, by simpa using h⟩

section
variable {l : List Ins} {rw : Bool} {pg ky : ByteArray} {sc0 : List UInt8} {fu : Int} {li : List Ins}
theorem ask_ok (h1 : l.length < 1000000000) (h2 : pg.size = 512) (h3 : 0 < ky.size) (h3' : ky.size ≤ 16) (h4 : sc0.length = 64) {f : Int} (h5 : f < 1000000000) {E : End} (hE : endOf (runP l pg ky sc0 f) = E) : ask19 l.length pg ky f (insC l) (lit64 sc0) E := by
  have e : unB (lit64 sc0) = sc0 := by rw [lit64_eq h4, unB_bytC]
  refine ⟨⟨plain_insC _, plain_lit _, trivial⟩, ⟨plain_insC _, plain_lit _, trivial⟩, ⟨by rw [unIns_insC], by rw [unIns_insC], h1, h2, h3, h3', h5⟩, ⟨by rw [e]; exact lit64_eq h4, by rw [e]; exact h4⟩, ?_⟩
  rw [unIns_insC, e]; exact hE
theorem ret_ok (li : List Ins) (rw : Bool) {b : Bool} (h : b = true) : ret6 (insC li) rw KT b := ⟨⟨plain_insC _, trivial⟩, by rw [h]⟩
set_option maxRecDepth 100000 in
set_option maxHeartbeats 8000000 in
theorem tail6 (hg : Laid w0) (h1 : l.length < 1000000000) (h2 : pg.size = 512) (h3 : 0 < ky.size) (h3' : ky.size ≤ 16) (h4 : sc0.length = 64) (hf : fu ≤ 2000) {E : End} (hE : endOf (runP l pg ky sc0 fu) = E) :
    SemS w0 KT todo6c (fr6c fu l.length pg ky E.e) (heapB G (hp6c (insC li) rw (insC l) (lit64 E.sc) (lit64 E.sc) (lit64 sc0) E)) := by
  have hw : f500 fu = (if 0 > fu then 0 else fu) + 500 := by
    unfold f500
    exact w_id (by split <;> omega) (by split <;> omega)
  have hle : fu ≤ f500 fu := by rw [hw]; split <;> omega
  have hlt : f500 fu < 1000000000 := by rw [hw]; split <;> omega
  have hmono : (runP l pg ky sc0 fu).1 ≠ 12 → endOf (runP l pg ky sc0 (f500 fu)) = E := fun h => by rw [runP_mono hle h, hE]
  have hee := endOf_e (runP l pg ky sc0 fu)
  rw [hE] at hee
  obtain ⟨e, c, v, nx, st, sc⟩ := E
  have sv : (v == v) = true := by
    show (v.data == v.data) = true
    simp
  have s1 : (!(c == c && (v == v && (nx == nx && (st == st && true))))) = false := by rw [sv]; simp
  have s2 : (c == c && (v == v && (nx == nx && (st == st && true)))) = true := by rw [sv]; simp
  have s3 : (!eqB sc sc 64 0) = false := by rw [eqB_self]; rfl
  cases e with
  | none =>
    have h0 : (runP l pg ky sc0 fu).1 ≠ 12 := by
      rcases hee with ⟨_, h⟩ | ⟨h, _⟩
      · rw [h]; decide
      · cases h
    refine seg_semI3 (F := ft6) mixed (callsOf_ok (okD hg ⟨none, c, v, nx, st, sc⟩)) leaf6_ok [6, 7, 9] 20 400 ((t6b l.length rw (insC li) (insC l) pg ky fu c nx st c nx st v v sc sc0 sc _ _).mpr ?_)
    refine ⟨ask_ok h1 h2 h3 h3' h4 hlt (hmono h0), ?_⟩
    rw [s1, s2, s3]
    exact ⟨⟨trivial, trivial, trivial⟩, ⟨trivial, trivial, trivial⟩, ⟨trivial, trivial, trivial⟩, ⟨trivial, trivial, trivial⟩, ⟨trivial, trivial, trivial⟩, ret_ok li rw (eqB_self _ _ _)⟩
  | some e1 =>
    have he : e1 = (runP l pg ky sc0 fu).1 := by
      rcases hee with ⟨h, _⟩ | ⟨h, _⟩
      · cases h
      · exact Option.some.inj h
    have s4 : (e1 != e1) = false := by simp
    by_cases h12 : e1 = 12
    · subst h12
      have h5 : ((12 : Int) == 12) = true := rfl
      cases hE2 : endOf (runP l pg ky sc0 (f500 fu)) with
      | mk e2 c2 v2 nx2 st2 s2' =>
        cases e2 with
        | none =>
          refine seg_semI3 (F := ft6) mixed (callsOf_ok (okD hg ⟨none, c2, v2, nx2, st2, s2'⟩)) leaf6_ok [6, 7, 9] 20 400 ((t6c l.length rw (insC li) (insC l) pg ky fu 12 c nx st c2 nx2 st2 v v2 sc sc0 s2' _ _).mpr ?_)
          refine ⟨ask_ok h1 h2 h3 h3' h4 hlt hE2, ?_⟩
          rw [s1, s3, s4]
          exact ⟨⟨trivial, trivial, trivial⟩, ⟨trivial, trivial, trivial⟩, ⟨trivial, trivial, trivial⟩, ret_ok li rw rfl⟩
        | some e2 =>
          refine seg_semI3 (F := ft6) mixed (callsOf_ok (okD hg ⟨some e2, c2, v2, nx2, st2, s2'⟩)) leaf6_ok [6, 7, 9] 20 400 ((t6a l.length rw (insC li) (insC l) pg ky fu 12 c nx st e2 c2 nx2 st2 v v2 sc sc0 s2' _ _).mpr ?_)
          refine ⟨ask_ok h1 h2 h3 h3' h4 hlt hE2, ?_⟩
          rw [s1, s3, s4]
          exact ⟨⟨trivial, trivial, trivial⟩, ⟨trivial, trivial, trivial⟩, ⟨trivial, trivial, trivial⟩, ret_ok li rw rfl⟩
    · have s5 : (e1 == 12) = false := beq_eq_false_iff_ne.mpr h12
      have s6 : (e1 == e1) = true := by simp
      refine seg_semI3 (F := ft6) mixed (callsOf_ok (okD hg ⟨some e1, c, v, nx, st, sc⟩)) leaf6_ok [6, 7, 9] 20 400 ((t6a l.length rw (insC li) (insC l) pg ky fu e1 c nx st e1 c nx st v v sc sc0 sc _ _).mpr ?_)
      refine ⟨ask_ok h1 h2 h3 h3' h4 hlt (hmono (by rw [← he]; exact h12)), ?_⟩
      rw [s1, s2, s3, s4, s5, s6]
      exact ⟨⟨trivial, trivial, trivial⟩, ⟨trivial, trivial, trivial⟩, ⟨trivial, trivial, trivial⟩, ⟨trivial, trivial, trivial⟩, ⟨trivial, trivial, trivial⟩, ret_ok li rw (eqB_self _ _ _)⟩
set_option maxRecDepth 100000 in
set_option maxHeartbeats 8000000 in
theorem mid6 (hg : Laid w0) (h1 : l.length < 1000000000) (h2 : pg.size = 512) (h3 : 0 < ky.size) (h3' : ky.size ≤ 16) (h4 : sc0.length = 64) (hf : fu ≤ 2000) :
    SemS w0 KT todo6b (fr6b fu l.length pg ky) (heapB G (hp6b (insC li) rw (insC l) (lit64 sc0) (lit64 sc0) (lit64 sc0))) := by
  cases hE : endOf (runP l pg ky sc0 fu) with
  | mk e c v nx st sc =>
    have ht := tail6 (w0 := w0) (li := li) (rw := rw) hg h1 h2 h3 h3' h4 hf hE
    have pl : PL7 (insC li) (insC l) sc (lit64 sc0) [I c, .string v, I nx, I st] := ⟨plain_insC _, plain_insC _, plain_lit _, plain_lit _, plain_lit _, plain_res _ _ _ _, plain_res _ _ _ _, trivial⟩
    have ha := ask_ok h1 h2 h3 h3' h4 (show fu < 1000000000 by omega) hE
    cases e with
    | none => exact seg_semI3 (F := ft6) mixed (callsOf_ok (okC ⟨none, c, v, nx, st, sc⟩)) leaf6_ok [6, 7, 9] 20 400 ((p3a l.length rw (insC li) (insC l) _ _ _ pg ky fu c nx st v sc _ _).mpr ⟨ha, ha, pl, ht⟩)
    | some e1 => exact seg_semI3 (F := ft6) mixed (callsOf_ok (okC ⟨some e1, c, v, nx, st, sc⟩)) leaf6_ok [6, 7, 9] 20 400 ((p3b l.length rw (insC li) (insC l) _ _ _ pg ky fu e1 c nx st v sc _ _).mpr ⟨ha, ha, pl, ht⟩)
end
set_option maxRecDepth 100000 in
set_option maxHeartbeats 8000000 in
theorem call6 (hg : Laid w0) (l : List Ins) (rw : Bool) (t0 t1 t2 : ByteArray) (fuel : Int) :
    CallS Tryd.prog w0 6 [SL G l.length 4, AG [.string t0, .string t1, .string t2], I fuel] (heapB Tryd.prog.globals.size [some (.cells (insC l) rw)]) KT := by
  have hn : (heapB Tryd.prog.globals.size [some (.cells (insC l) rw)]).next = Tryd.prog.globals.size + nt1p.flags.length := by rw [heapB_next]; rfl
  refine retT_call (nt := nt1p) hn (call_sem (cd := Tryd.f6.body.getD .skip) Tryd.func6 (by kernel_rfl) ?_)
  rw [hn]
  refine seg_semI3 (F := ft6) mixed (callsOf_ok okA) leaf6_ok [6, 7, 9] 20 400 ((p1 l.length rw (insC l) t0 t1 t2 fuel KT _).mpr ?_)
  have hm : 0 ≤ (if 15 < (t1.size : Int) then 15 else (t1.size : Int)) ∧ (if 15 < (t1.size : Int) then 15 else (t1.size : Int)) ≤ (t1.size : Int) := by split <;> omega
  have hx : ((ByteArray.mk #[107]).size + (t1.extract 0 (if 15 < (t1.size : Int) then 15 else (t1.size : Int)).toNat).size).ble 1099511627776 = true := by
    refine Nat.ble_eq_true_of_le ?_
    have : (t1.extract 0 (if 15 < (t1.size : Int) then 15 else (t1.size : Int)).toNat).size ≤ 15 := by
      rw [ByteArray.size_extract]; split <;> omega
    have e : (ByteArray.mk #[107]).size = 1 := rfl
    omega
  have hv : veq 4 (.string t1) (.string t1) = true := by simp [veq]
  rw [unIns_insC, decide_eq_true hm.1, decide_eq_true hm.2, hx, hv]
  simp only [beq_self_eq_true, Bool.and_self, cond_true]
  refine ⟨⟨trivial, trivial, trivial⟩, ⟨⟨plain_insC _, trivial⟩, ⟨plain_insC _, plain_insC _, plain_insC _, trivial⟩, by trivial, by trivial⟩, ⟨trivial, trivial, trivial⟩, ⟨plain_insC _, plain_insC _, plain_strs _ _ _, trivial⟩, ?_⟩
  refine seg_semI3 (F := ft6) mixed (callsOf_ok okB) leaf6_ok [6, 7, 9] 20 400 (p2 ?_)
  refine ⟨⟨plain_insC _, plain_insC _, plain_lit _, plain_lit _, plain_lit _, trivial⟩, ?_⟩
  obtain ⟨k1, k2⟩ := kyS_size t1
  exact mid6 hg (by rw [List.length_take]; omega) (fullS_size t0) k1 k2 (filledL_len t2) (by split <;> omega)

open Go.ChangeShapes Go.WideShapes Go.ChangeAt Go.RowKit

theorem Tryd.own : ownKnob Tryd.prog.godebug = none := by kernel_rfl
theorem Tryd.laidOut : laidOutB Tryd.prog = true := by kernel_rfl
theorem Tryd.et : Tryd.prog.globalNamed "errors.errorType" = some 0 := by kernel_rfl
theorem Tryd.rt : (Tryd.prog.cutTypes.find? (·.1 == "internal/reflectlite.rtype")).map (·.2) = some 154 := by kernel_rfl
theorem Tryd.oneRow : ((List.range Tryd.prog.types.size).filter fun t => Tryd.prog.rowNamed t [101, 114, 114, 111, 114]) = [38] := by kernel_rfl
abbrev laidL : List (String × DataW Unit) := [("errors.errorType", Rows.laid_errors_errorType)]
theorem laid_of {W : World} (h : laidMetH Tryd.prog laidL W) : Laid W := by
  have h' : laidMet Tryd.prog [] W ∧ handlesMet Tryd.prog laidL W := h
  obtain ⟨name, u, ty, e1, e2, e3, e4, e5⟩ := h'.2 _ (List.mem_singleton.2 rfl)
  have en : name = [101, 114, 114, 111, 114] := (Option.some.inj e1).symm
  subst en
  obtain rfl := Option.some.inj (Tryd.rt.symm.trans e2)
  have hm : ty ∈ (List.range Tryd.prog.types.size).filter fun t => Tryd.prog.rowNamed t [101, 114, 114, 111, 114] := List.mem_filter.2 ⟨List.mem_range.2 e3, e4⟩
  rw [Tryd.oneRow] at hm
  obtain rfl := List.mem_singleton.1 hm
  have hh : typeHandle Tryd.prog 38 = .pointer (some ⟨2, 38, none⟩) := by kernel_rfl
  rw [hh] at e5
  show W.cell? ⟨0, 0, none⟩ = _
  simpa using World.var?_cell Tryd.et e5 0
/-- A world with the variable laid. -/
noncomputable def laidWorld (os : Os) : World :=
  let w0 := World.holding Tryd.prog os ⟨#[], #[], []⟩
  { w0 with heap := w0.heap.modify 0 fun
      | .cells _ t frozen => .cells #[.iface 154 (.agg #[.pointer (some ⟨2, 38, none⟩)])] t frozen
      | o => o }
theorem laidWorld_met (os : Os) (args : Array Value) : laidMetH Tryd.prog laidL ((laidWorld os).forCall (fun _ _ => 0) ⟨#[], args, []⟩).memory :=
  laidMetH_of_parts (laidMet_nil _ _) (by kernel_rfl)

/-- A row with a further condition on memory, where the world's shape is told too. -/
theorem handed_and_shaped {H : Type} {enc : TypeId × Value → H} {a : Assume} {C : Checked} {os : Os} {f : FuncId} {fn : Func} {s : ChangeSpec} {conds : List PathCond} {apart fresh handsOn again : Bool} {X : World → Array Value → Prop}
    (hX : ∀ (w w' : World) (args : Array Value), w.heap = w'.heap → X w args → X w' args)
    (own : ownKnob C.prog.godebug = none) (started : os.Started) (noInit : C.prog.inits.idxOf? f = none) (hfn : C.prog.funcs[f]? = some fn)
    (witness : ∃ (w : World) (tape : Tape) (i : Input), w.os = os ∧ (w.forCall tape i).Shaped C.prog ∧ i.vars = [] ∧ Input.okWide C.prog (w.forCall tape i) .any w.heap.size f i ∧
      ((s.pre enc C.prog fn conds apart (w.forCall tape i).memory i.args ∧ X (w.forCall tape i).memory i.args) ∧ sizedMet enc C.prog fn (OpenSpec.ofChange s) apart (w.forCall tape i).memory i.args) ∧ a.holds C.prog (lone (Frame.enter C.prog f i.args .normal) [] (w.forCall tape i)))
    (contract : ∀ (W : World) (base : Nat) (args : Array Value) (ds gs : List (DataW H)) (before : List MemPlace),
      (∀ (j : Nat) t v, fn.params[j]? = some t → args[j]? = some v → Value.okWide C.prog W .any base t v) →
      DataW.Whole enc C.prog fn.params.toList s.vars apart W args.toList ds gs before → X W args → W.ShapedOpen C.prog →
      Calls C.prog f args W fun e W' => ∃ v, e = .returned v ∧ s.post enc C.prog fn apart fresh handsOn again W args v W') :
    ReturnsInHanded a C os f .any (fun w args => (s.pre enc C.prog fn conds apart w args ∧ X w args) ∧ sizedMet enc C.prog fn (OpenSpec.ofChange s) apart w args) (s.post enc C.prog fn apart fresh handsOn again) := by
  refine returnsInHanded_of_calls own started noInit witness ?_
  intro w tape i _ hshape _ hok hpre _
  obtain ⟨_, _, _, fn', hfn', _, _, _, _, hval⟩ := hok
  have hee : fn' = fn := Option.some.inj (hfn'.symm.trans hfn)
  subst hee
  obtain ⟨⟨⟨ds, gs, before, hw, _⟩, hx⟩, _⟩ := hpre
  refine (contract (w.forCall tape i) w.heap.size i.args ds gs before hval (DataW.Whole.of_heap (w' := w.forCall tape i) (by rfl) hw) (hX _ _ _ (by rfl) hx) hshape).mono fun e W' ⟨v, he, hp⟩ => ?_
  subst he
  exact ChangeSpec.post_blind hp
end Go.Proofs.YtadaindmgmielaaDoor
