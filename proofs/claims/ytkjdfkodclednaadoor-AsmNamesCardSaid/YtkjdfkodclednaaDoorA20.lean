/- An abstract machine for one goroutine: code and functions stand for the model's. No condition. -/
import Derived.Test.YtkjdfkodclednaaDoorA19h
namespace Go.Agm

variable {P : Program} {w0 : World} {m : MapN} {E : Nat → Prop} {fr : List AV} {h : AHeap} {a : Act} {w : World} {c : Calls1} {F : FT}

/-- How a frame ends. -/
def Ends (P : Program) (w0 : World) (m : MapN) (E : Nat → Prop) (w : World) (b : Frame) (cs : List Frame) (M : Machine) (rs : List Value) (h' : AHeap) : Prop :=
  ∃ w' fr' v m', Steps P M (lone fr' cs w') ∧ fr'.fn = b.fn ∧ fr'.leaving P w' (.returned v) ∧ MLe m m' ∧ HRel P w0 m' E h' w' ∧ Keep E w w' ∧ ResV m' (szB w') rs v

theorem Ends.head {b : Frame} {cs : List Frame} {M M' : Machine} {rs : List Value} {h' : AHeap} (hs : Steps P M M') (he : Ends P w0 m E w b cs M' rs h') : Ends P w0 m E w b cs M rs h' := by
  obtain ⟨w', fr', v, m', h1, h2⟩ := he
  exact ⟨w', fr', v, m', hs.trans h1, h2⟩

theorem region_sound (hmix : P.follows .mixedOrders = true) (hc : CallOk P w0 c) (hr : Rel P w0 m E fr h a w) {id : Nat} {ops : Array Oper} {draw : Bool} {k : List AV → AHeap → Option Res} {r : Res} {Q : Exit → Act → World → Prop}
    (hn : Ns P w0 m E w k r (Q .normal)) (e : (bif draw then drawK P F.loc (optM c) ops (maskF (F.mask id) fr) k h else opsK P F.loc (optM c) ops (List.range ops.size) (maskF (F.mask id) fr) k h) = some r) : (Code.region id ops draw).wp P Q a w := by
  have hr' := hr.mask (F.mask id)
  cases draw with
  | false => exact wp_region (opsK_sound hc _ hr' hn e)
  | true =>
    refine wp_region_any hmix ?_
    have he : Ext w { w with drawn := w.drawn + 1 } := ⟨rfl, rfl, rfl, Nat.le_refl _, fun _ _ => rfl⟩
    refine draw_sound hc (hr'.grow he) (fun fr2 h2 a2 w2 s ek => hn _ _ _ _ (Step.trans (MLe.refl m) (he.keep hr.hr.ext) s) ek) e

theorem goK_sound (hmix : P.follows .mixedOrders = true) (hc : CallOk P w0 c) {fn : Func} {rs : List Value} {h' : AHeap} : ∀ (n : Nat) {m : MapN} {todo : List Item} {fr : List AV} {h : AHeap} {a : Act} {w : World}, Rel P w0 m E fr h a w → goK P F c fn n todo fr h = some (rs, h') →
    ∀ (b : Frame) (cs : List Frame), P.funcs[b.fn]? = some fn → b.kind = .normal → Ends P w0 m E w b cs (lone (b.at a todo) cs w) rs h' := by
  intro n
  induction n with
  | zero => intro m todo fr h a w hr e; simp [goK] at e
  | succ n ih =>
    intro m todo fr h a w hr e b cs hf hk
    simp only [goK] at e
    have fin : ∀ fr2 : Frame, fr2 = { b.at a todo with mode := .returning } → (optM c).on (resL P fr h fn.results.toList) (fun rs => (optM c).ret rs h) = some (rs, h') → Steps P (lone (b.at a todo) cs w) (lone fr2 cs w) → Ends P w0 m E w b cs (lone (b.at a todo) cs w) rs h' := by
      intro fr2 h1 h2 h3
      obtain ⟨rs', h4, h5⟩ := on_some h2
      simp only [optM, Option.some.injEq, Prod.mk.injEq] at h5
      obtain ⟨rfl, rfl⟩ := h5
      obtain ⟨v, h6, h7⟩ := results_run hr h4
      subst h1
      exact ⟨w, _, v, m, h3, rfl, ⟨rfl, hr.fr.defers, hk, fn, hf, h6⟩, MLe.refl m, hr.hr, Keep.refl E w, h7⟩
    unfold goStep at e
    split at e
    · exact fin _ rfl e (.one step_end)
    · rename_i cd t
      split at e
      · exact (ih hr e b cs hf hk).head (.one step_skip)
      · exact (ih hr e b cs hf hk).head (.one step_label)
      · exact (ih hr e b cs hf hk).head (.one step_seq)
      · rename_i id ops draw
        have hwp := region_sound (F := F) (id := id) (ops := ops) (draw := draw) (k := fun fr h => goK P F c fn n t fr h) (r := (rs, h')) (Q := fun ex a' w' => ex = .normal ∧ ∃ fr2 h2, Step P w0 m E w fr2 h2 a' w' ∧ goK P F c fn n t fr2 h2 = some (rs, h')) hmix hc hr
          (fun fr2 h2 a2 w2 s ek => ⟨rfl, fr2, h2, s, ek⟩) e
        obtain ⟨ex, a', w', ⟨rfl, fr2, h2, ⟨m', s1, s2, s3⟩, ek⟩, harr⟩ := hwp b t cs
        obtain ⟨w2, fr3, v, m2, k1, k2, k3, k4, k5, k6, k7⟩ := ih s2 ek b cs hf hk
        exact ⟨w2, fr3, v, m2, Steps.trans harr k1, k2, k3, s1.trans k4, k5, s3.trans k6, k7⟩
      · rename_i cnd x y
        split at e
        · rename_i bb hcv
          have hv := hr.eval hcv
          generalize hev : a.eval cnd = v' at hv
          cases hv
          have key : ∀ fr1, fr1 = fr → (bif bb then goK P F c fn n (.code x :: t) fr1 h else goK P F c fn n (.code y :: t) fr1 h) = some (rs, h') → Ends P w0 m E w b cs (lone (b.at a (.code (.cond cnd x y) :: t)) cs w) rs h' := by
            intro fr1 h1 e1
            subst h1
            cases bb with
            | true => exact (ih hr e1 b cs hf hk).head (.one (step_cond hev))
            | false => exact (ih hr e1 b cs hf hk).head (.one (step_cond hev))
          split at e
          · rename_i s
            have hset := set_same (getF_some (fr := fr) (x := .v (.bool bb)) hcv (by simp))
            refine key _ hset ?_
            cases bb with
            | true => exact e
            | false => exact e
          · exact key fr rfl e
        · exact no_fail e
      · exact (ih hr e b cs hf hk).head (.one step_block)
      · exact (ih hr e b cs hf hk).head (.one step_loop)
      · split at e
        · rename_i t' hx
          exact (ih hr e b cs hf hk).head (.one (step_exit hx))
        · exact no_fail e
      · exact fin _ rfl e (.one step_ret)
      · exact no_fail e
    · exact (ih hr e b cs hf hk).head (.one step_inBlock)
    · exact (ih hr e b cs hf hk).head (.one step_inLoop)
    · exact no_fail e

/-- The functions that are known by a contract. -/
def PrimOk (P : Program) (w0 : World) (T : Tbl) : Prop :=
  ∀ f g args rs, T.prim f = some g → g args = some rs → (∀ x ∈ args, plainD 4 x = true) ∧ (∀ x ∈ rs, plainD 4 x = true) ∧
    ∀ w, RowKit.Below w0.heap.size w0 w → Calls P f args.toArray w fun e w' => ∃ v, e = .returned v ∧ Ext w w' ∧ ResV (fun _ => none) (fun _ => 0) rs v

theorem ResV.mono {m m' : MapN} {S S' : Nat → Nat} {rs : List Value} {v : Value} (h : ResV m S rs v) (hm : MLe m m') (hs : SLe S S') : ResV m' S' rs v := by
  unfold ResV at h ⊢
  split
  · exact V.mono hm hs h
  · rename_i hne
    split at h
    · exact absurd rfl (hne _)
    · obtain ⟨vs, h1, h2⟩ := h
      exact ⟨vs, h1, h2.mono hm hs⟩

theorem start_rel (hr : HRel P w0 m E h w) {args args' : List Value} (hv : VL m (szB w) args args') (fn : Func) :
    Rel P w0 m E (startF fn args) h { tmps := args'.toArray ++ Array.replicate (fn.ntmps - args'.toArray.size) undef, defers := [] } w := by
  have hl := hv.length
  refine ⟨hr, rfl, by simp [startF, hl], ?_, ?_⟩
  · intro i x e
    unfold startF at e
    rw [List.getElem?_append] at e
    by_cases hi : i < args.length
    · rw [if_pos (by simpa using hi), List.getElem?_map] at e
      cases ha : args[i]? with
      | none => rw [ha] at e; simp at e
      | some z =>
        rw [ha] at e
        simp only [Option.map_some, Option.some.injEq] at e
        subst e
        obtain ⟨y, hy, hvy⟩ := hv.get ha
        have : (args'.toArray ++ Array.replicate (fn.ntmps - args'.toArray.size) undef).getD i undef = y := by
          rw [Array.getD_eq_getD_getElem?, Array.getElem?_append_left (by simp; omega)]
          simp [hy]
        rw [this]; exact hvy
    · rw [if_neg (by simpa using hi)] at e
      have := List.mem_of_getElem? e
      rw [List.mem_replicate] at this
      rw [this.2]; trivial
  · intro i j c1 c2 B e1
    unfold startF at e1
    have := List.mem_of_getElem? e1
    simp only [List.mem_append, List.mem_map, List.mem_replicate] at this
    rcases this with ⟨z, _, hz⟩ | ⟨_, hz⟩ <;> simp at hz

/-- A call stands for the model's. -/
theorem runK_sound (hmix : P.follows .mixedOrders = true) {T : Tbl} (hp : PrimOk P w0 T) : ∀ n, CallOk P w0 (runK P T n) := by
  intro n
  induction n with
  | zero => intro f args h rs h' e; simp [runK] at e
  | succ n ih =>
    intro f args h rs h' e m E w args' hr hv he
    simp only [runK] at e
    split at e
    · rename_i g hg
      rw [Option.bind_eq_some_iff] at e
      obtain ⟨rs', h1, h2⟩ := e
      injection h2 with h2
      injection h2 with h3 h4
      subst h3 h4
      obtain ⟨k1, k2, k3⟩ := hp f g args rs' hg h1
      have : args' = args := VL.plain 4 hv k1
      subst this
      refine (k3 w hr.base).mono ?_
      rintro en w' ⟨v, rfl, hx, hrv⟩
      exact ⟨v, m, rfl, MLe.refl m, hr.grow hx, hx.keep hr.ext, hrv.mono (fun _ _ hh => by simp at hh) (fun _ => Nat.zero_le _)⟩
    · split at e
      · rename_i fn hfn
        split at e
        · rename_i cd hcd
          intro cs
          let b : Frame := { (default : Frame) with fn := f, kind := .normal }
          have henter : Frame.enter P f args'.toArray .normal = b.at { tmps := args'.toArray ++ Array.replicate (fn.ntmps - args'.toArray.size) undef, defers := [] } [.code cd] := by
            simp [Frame.enter, Frame.at, hfn, hcd, b]
          obtain ⟨w', fr', v, m', k1, k2, k3, k4, k5, k6, k7⟩ := goK_sound hmix ih (n + 1) (start_rel hr hv fn) e b cs hfn rfl
          rw [← henter] at k1
          exact ⟨.returned v, w', fr', ⟨v, m', rfl, k4, k5, k6, k7⟩, k1, k2, k3⟩
        · simp at e
      · simp at e

theorem run_sound (hmix : P.follows .mixedOrders = true) {T : Tbl} (hp : PrimOk P w0 T) : CallOk P w0 (run P T) := by
  intro f args h rs h' e
  obtain ⟨n, hn⟩ := of_lim e
  exact runK_sound hmix hp n f args h rs h' hn

end Go.Agm
