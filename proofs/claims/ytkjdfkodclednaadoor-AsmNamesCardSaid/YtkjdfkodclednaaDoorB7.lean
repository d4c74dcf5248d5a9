/- An abstract machine for one goroutine: contracts by functions, in a list; blocks cut to what a slice shows. No condition. -/
import Derived.Test.YtkjdfkodclednaaDoorB6
namespace Go.Agm

variable {P : Program} {w0 : World} {m m' m0 : MapN} {E : Nat → Prop} {fr : List AV} {h : AHeap} {a : Act} {w : World} {F : FT} {S : Nat → Nat}

theorem HRel.cut (hr : HRel P w0 m E h w) {b : Nat} {cs cs' : List Value} {rw' : Bool} (hb : h.get b = some (.cells cs rw')) (hl : cs = [] → cs' = []) (hv : ∀ C bs, VAt m (szB w) cs C bs → VAt m (szB w) cs' C bs) : HRel P w0 m E (h.put b (.cells cs' rw')) w := by
  refine ⟨hr.base, hr.out, hr.ext, hr.glob, hr.lt, ?_, ?_, ?_, ?_, hr.ty⟩
  · intro i x e
    rw [AHeap.get_put] at e
    split at e
    · rename_i hi; rw [hi]; exact hr.dom b _ hb
    · exact hr.dom i x e
  · intro i c rw e
    rw [AHeap.get_put] at e
    split at e
    · rename_i hi
      injection e with e
      injection e with e1 e2
      subst e1 e2 hi
      rcases hr.cells i cs rw' hb with ⟨g1, g2, g3⟩ | ⟨B, bs, C, el, fz, k1, k2, k3, k4, k5⟩
      · exact .inl ⟨hl g1, g2, g3⟩
      · exact .inr ⟨B, bs, C, el, fz, k1, k2, hv C bs k3, k4, k5⟩
    · exact hr.cells i c rw e
  · intro i es e
    rw [AHeap.get_put] at e
    split at e
    · simp at e
    · exact hr.maps i es e
  · intro i j x x' B bs bs' e e' n n' hown
    rw [AHeap.get_put] at e e'
    split at e
    · rename_i hi
      injection e with e
      subst e
      split at e'
      · rename_i hj; rw [hi, hj]
      · exact hr.inj i j (.cells cs rw') x' B bs bs' (by rw [hi]; exact hb) e' n n' hown
    · split at e'
      · rename_i hj
        exact hr.inj i j x (.cells cs rw') B bs bs' e (by rw [hj]; exact hb) n n' hown
      · exact hr.inj i j x x' B bs bs' e e' n n' hown

/-- What a slice does not show of its block is let go. -/
def trim1 (G : Nat) (p : Nat × List Nat) (fr : List AV) (h : AHeap) : AHeap := match pathG G fr h p.1 p.2 with
  | some (.slice (some ⟨b, 0, _⟩) n sz) => match h.get b with
    | some (.cells cs rw) => h.put b (.cells (cs.take (n * sz)) rw)
    | _ => h
  | _ => h
def trims (G : Nat) : List (Nat × List Nat) → List AV → AHeap → AHeap
  | [], _, h => h
  | p :: r, fr, h => trims G r fr (trim1 G p fr h)

theorem VAt.take {cs : List Value} {C : Array Value} {bs : Nat} (hv : VAt m S cs C bs) (n : Nat) : VAt m S (cs.take n) C bs := by
  obtain ⟨h1, h2, h3⟩ := hv
  refine ⟨by rw [List.length_take]; omega, fun x hx => h2 x (List.mem_of_mem_take hx), ?_⟩
  have := h3.take n
  rw [List.take_take] at this
  rwa [List.length_take]

theorem Rel.trim1 (hr : Rel P w0 m E fr h a w) (G : Nat) (p : Nat × List Nat) : Rel P w0 m E fr (Agm.trim1 G p fr h) a w := by
  unfold Agm.trim1
  split
  · rename_i b sp n sz hp
    split
    · rename_i cs rw' hg
      have hh := hr.hr.cut (cs' := cs.take (n * sz)) hg (fun e => by rw [e]; exact List.take_nil) fun C bs hv => hv.take _
      refine ⟨hh, hr.fr.move (MLe.refl m) (fun _ => Nat.le_refl _) (fun _ _ => rfl) fun B hl i x bs e => ?_⟩
      obtain ⟨C, el, fz, _, _, _, h6⟩ := hr.fr.local_some hl
      rw [AHeap.get_put] at e
      split at e
      · rename_i hi; rw [hi]; exact h6 b _ bs hg
      · exact h6 i x bs e
    · exact hr
  · exact hr

theorem Rel.trims (hr : Rel P w0 m E fr h a w) (G : Nat) (ps : List (Nat × List Nat)) : Rel P w0 m E fr (Agm.trims G ps fr h) a w := by
  induction ps generalizing h with
  | nil => exact hr
  | cons p r ih => exact ih (hr.trim1 G p)

/-- How a place is to be named, and which blocks are to be cut. -/
structure Nt extends Nm where
  tr : List (Nat × List Nat)

/-- A place in the code: cut, named. -/
def canonT (G : Nat) (nt : Nt) (K : List AV → AHeap → Prop) (fr : List AV) (h : AHeap) : Prop :=
  canonQ G nt.toNm K (ghosts G nt.gh fr h).1 (trims G nt.tr (ghosts G nt.gh fr h).1 (ghosts G nt.gh fr h).2)

theorem canonT_rel (hr : Rel P w0 m E fr h a w) {nt : Nt} {K : List AV → AHeap → Prop} (e : canonT P.globals.size nt K fr h) :
    ∃ l H, K ((ghosts P.globals.size nt.gh fr h).1.map (invA P.globals.size l)) H ∧ Rel P w0 (mIx P.globals.size l m) E ((ghosts P.globals.size nt.gh fr h).1.map (invA P.globals.size l)) H a w ∧ KeptN (P.globals.size + nt.flags.length) m (mIx P.globals.size l m) :=
  canonQ_rel ((hr.ghosts P.globals.size nt.gh).trims P.globals.size nt.tr) e

theorem canonT_sem {fn : Func} {Q : Post} {nt : Nt} {t : List Item} (e : canonT P.globals.size nt (Sem P w0 (P.globals.size + nt.flags.length) fn Q t) fr h) : Sem P w0 (P.globals.size + nt.flags.length) fn Q t fr h := by
  intro m E a w b cs hr hf hk
  obtain ⟨l, H, s, hr3, hkn⟩ := canonT_rel hr e
  obtain ⟨rs, h', w', fr', v, m', k0, k1, k2, k3, k4, k5, k6, k7⟩ := s _ E a w b cs hr3 hf hk
  exact ⟨rs, h', w', fr', v, m', k0, k1, k2, k3, fun i hi x hx => k4 i hi x (hkn i hi x hx), k5, k6, k7⟩

/-- An answer: cut, named. -/
def retT (G : Nat) (nt : Nt) (K : List Value → AHeap → Prop) : Post := fun rs h =>
  canonT G nt (fun fr h => match valsF fr with
    | some rs => K rs h
    | none => False) (rs.map .v) h

theorem retT_call {f : FuncId} {args : List Value} {nt : Nt} {K : List Value → AHeap → Prop} (hn : h.next = P.globals.size + nt.flags.length) (s : CallS P w0 f args h (retT P.globals.size nt K)) : CallS P w0 f args h K := by
  intro m E w args' hr hv he
  refine (s m E w args' hr hv he).mono ?_
  rintro en w' ⟨rs, h', v, m', hq, rfl, h1, h2, h3, h4⟩
  obtain ⟨vs, hvs, hback⟩ := resV_vals h4
  unfold retT at hq
  obtain ⟨l, H, hK, hr3, hkn⟩ := canonT_rel (vals_rel h2 hvs) hq
  split at hK
  · rename_i rs0 hrs0
    rw [valsF_map hrs0] at hr3
    refine ⟨rs0, _, v, _, hK, rfl, ?_, hr3.hr, h3, hback _ _ (rel_vals hr3)⟩
    intro i x hx
    have hlt := (hr.lt i x.1 x.2 hx).2
    exact hkn i (by omega) x (h1 i x hx)
  · exact hK.elim

/-! Contracts in a list. -/

structure Con where
  f : Nat
  gh : List Gh
  paths : List Pth
  spec : List Value → List (Option ABlk) → Option (Prop × List Value × List OutB)
  tin : Tys := []
  tout : Tys := []

def Con.ok (P : Program) (w0 : World) (c : Con) : Prop := ∀ args bs p rs out, c.spec args bs = some (p, rs, out) → p →
  CallS P w0 c.f args (heapT P.globals.size bs (tyG P.globals.size c.tin)) fun rs' h' => rs' = rs ∧ h' = heapT P.globals.size (out.map (·.2)) (tyG P.globals.size c.tout)

def lift1 (G : Nat) (c : Con) (args : List Value) (h : AHeap) : Option (Prop × List Value × AHeap) :=
  match valsF (ghosts G c.gh (args.map .v) h).1 with
  | some args1 => liftC G (fun _ => c.paths) c.tin c.tout (fun _ => c.spec) c.f args1 (ghosts G c.gh (args.map .v) h).2
  | none => none

def callsOf (G : Nat) : List Con → CallsP
  | [], _, _, _ => none
  | c :: r, f, args, h => bif Nat.beq c.f f then (match lift1 G c args h with
    | some p => some p
    | none => callsOf G r f args h) else callsOf G r f args h

theorem lift1_ok {c : Con} (hc : c.ok P w0) {args : List Value} {p : Prop} {rs : List Value} {h h' : AHeap} (e : lift1 P.globals.size c args h = some (p, rs, h')) (hp : p) (m : MapN) (E : Nat → Prop) (w : World) (args' : List Value) (hr : HRel P w0 m E h w) (hv : VL m (szB w) args args') (he : enters P c.f = true) :
    Calls P c.f args'.toArray w fun e w' => ∃ v m', e = .returned v ∧ MLe m m' ∧ HRel P w0 m' E h' w' ∧ Keep E w w' ∧ ResV m' (szB w') rs v := by
  unfold lift1 at e
  split at e
  · rename_i args1 h1
    have hr2 := (vals_rel hr hv).ghosts P.globals.size c.gh
    rw [valsF_map h1] at hr2
    -- the spec of this function alone
    have hs : SpecOk P w0 c.tin c.tout fun f args bs => bif Nat.beq f c.f then c.spec args bs else none := by
      intro f args bs p rs out e hp
      cases hb : Nat.beq f c.f with
      | false => simp only [hb, cond_false] at e; simp at e
      | true =>
        simp only [hb, cond_true] at e
        rw [Nat.eq_of_beq_eq_true hb]
        exact hc args bs p rs out e hp
    have e2 : liftC P.globals.size (fun _ => c.paths) c.tin c.tout (fun f args bs => bif Nat.beq f c.f then c.spec args bs else none) c.f args1 (ghosts P.globals.size c.gh (args.map .v) h).2 = some (p, rs, h') := by
      rw [← e]
      unfold liftC
      simp only [Nat.beq_refl, cond_true]
    exact liftC_ok hs c.f args1 _ p rs h' e2 hp m E w args' hr2.hr (rel_vals hr2) he
  · simp at e

theorem callsOf_ok {l : List Con} (hl : ∀ c ∈ l, c.ok P w0) : CallsOk P w0 (callsOf P.globals.size l) := by
  induction l with
  | nil => intro f args h p rs h' e; simp [callsOf] at e
  | cons c r ih =>
    intro f args h p rs h' e hp m E w args' hr hv he
    simp only [callsOf] at e
    have rest := ih fun c hc => hl c (List.mem_cons_of_mem _ hc)
    cases hb : Nat.beq c.f f with
    | false => rw [hb] at e; exact rest f args h p rs h' e hp m E w args' hr hv he
    | true =>
      have := Nat.eq_of_beq_eq_true hb
      subst this
      rw [hb, cond_true] at e
      split at e
      · rename_i q hq
        injection e with e
        subst e
        exact lift1_ok (hl c (List.mem_cons_self ..)) hq hp m E w args' hr hv he
      · exact rest _ args h p rs h' e hp m E w args' hr hv he

/-- A contract, by a function's body. -/
theorem con_bodyT {f : Nat} {fn : Func} {cd : Code} {args : List Value} {bs : List (Option ABlk)} {nt : Nt} {rs : List Value} {out : List (Option ABlk)} {tin tout : Tys} (hfn : P.funcs[f]? = some fn) (hcd : fn.body = some cd) (hlen : bs.length = nt.flags.length)
    (s : Sem P w0 (P.globals.size + nt.flags.length) fn (retT P.globals.size nt fun rs' h' => rs' = rs ∧ h' = heapT P.globals.size out tout) [.code cd] (startF fn args) (heapT P.globals.size bs tin)) :
    CallS P w0 f args (heapT P.globals.size bs tin) fun rs' h' => rs' = rs ∧ h' = heapT P.globals.size out tout := by
  have hn : (heapT P.globals.size bs tin).next = P.globals.size + nt.flags.length := by rw [heapT_next, hlen]
  exact retT_call hn (call_sem hfn hcd (by rw [hn]; exact s))
theorem con_body {f : Nat} {fn : Func} {cd : Code} {args : List Value} {bs : List (Option ABlk)} {nt : Nt} {rs : List Value} {out : List (Option ABlk)} (hfn : P.funcs[f]? = some fn) (hcd : fn.body = some cd) (hlen : bs.length = nt.flags.length)
    (s : Sem P w0 (P.globals.size + nt.flags.length) fn (retT P.globals.size nt fun rs' h' => rs' = rs ∧ h' = heapB P.globals.size out) [.code cd] (startF fn args) (heapB P.globals.size bs)) :
    CallS P w0 f args (heapB P.globals.size bs) fun rs' h' => rs' = rs ∧ h' = heapB P.globals.size out :=
  con_bodyT (tin := []) (tout := []) hfn hcd hlen s

end Go.Agm
