/- An abstract machine for one goroutine: places in the code and answers under the names that they are to have. No condition. -/
import Derived.Test.YtkjdfkodclednaaDoorB5
import Derived.Test.YtkjdfkodclednaaDoorA21
namespace Go.Agm

variable {P : Program} {w0 : World} {m m' m0 : MapN} {E : Nat → Prop} {fr : List AV} {h : AHeap} {a : Act} {w : World} {F : FT} {S : Nat → Nat}

def pathsG (G : Nat) (fr : List AV) (h : AHeap) : List Pth → Option (List (Nat × Bool))
  | [] => some []
  | p :: r => ((pathG G fr h p.slot p.sel).bind nameV).bind fun b => (pathsG G fr h r).bind fun l => some ((b, p.plain) :: l)

/-- How a place is to be named: what may be nil; the flags of the entry's names; the paths to the other names. -/
structure Nm where
  gh : List Gh
  flags : List Bool
  paths : List Pth
  ty : Tys := []

/-- The names, after what may be nil is a block. -/
def nmL (G : Nat) (nm : Nm) (fr : List AV) (h : AHeap) : Option (List (Nat × Bool)) := (pathsG G fr h nm.paths).map fun l => headN G nm.flags ++ l

def canonQ (G : Nat) (nm : Nm) (K : List AV → AHeap → Prop) (fr : List AV) (h : AHeap) : Prop :=
  match nmL G nm fr h with
  | some l => bif tysOk h (l.map (·.1)) nm.ty then oblB h l ∧ K (fr.map (invA G (l.map (·.1)))) (heapT G (canonB G (l.map (·.1)) h G l) (tyG G nm.ty)) else False
  | none => False

/-- A place in the code, under the names that it is to have. -/
def canonP (P : Program) (w0 : World) (fn : Func) (Q : Post) (nm : Nm) (t : List Item) (fr : List AV) (h : AHeap) : Prop :=
  canonQ P.globals.size nm (Sem P w0 (P.globals.size + nm.flags.length) fn Q t) (ghosts P.globals.size nm.gh fr h).1 (ghosts P.globals.size nm.gh fr h).2

theorem canon_kept {G : Nat} {flags : List Bool} {l : List (Nat × Bool)} : KeptN (G + flags.length) m (mIx G ((headN G flags ++ l).map (·.1)) m) := by
  intro i hi x hx
  unfold mIx
  by_cases hg : i < G
  · rw [if_pos hg]; exact hx
  · rw [if_neg hg, List.map_append, List.getElem?_append_left (by rw [List.length_map, headN_len]; omega), headN_get _ _ _ (by omega)]
    have : G + (i - G) = i := by omega
    rw [this]
    exact hx

theorem canonQ_rel (hr : Rel P w0 m E fr h a w) {nm : Nm} {K : List AV → AHeap → Prop} (e : canonQ P.globals.size nm K fr h) :
    ∃ l H, K (fr.map (invA P.globals.size l)) H ∧ Rel P w0 (mIx P.globals.size l m) E (fr.map (invA P.globals.size l)) H a w ∧ KeptN (P.globals.size + nm.flags.length) m (mIx P.globals.size l m) := by
  unfold canonQ at e
  split at e
  · rename_i l hl
    cases ht : tysOk h (l.map (·.1)) nm.ty with
    | false => rw [ht] at e; exact e.elim
    | true =>
      rw [ht, cond_true] at e
      obtain ⟨ho, s⟩ := e
      unfold nmL at hl
      rw [Option.map_eq_some_iff] at hl
      obtain ⟨l', _, rfl⟩ := hl
      exact ⟨_, _, s, (hr.canon ho).heapT (tys_known hr.hr ht), canon_kept⟩
  · exact e.elim

theorem canonP_sem {fn : Func} {Q : Post} {nm : Nm} {t : List Item} (e : canonP P w0 fn Q nm t fr h) : Sem P w0 (P.globals.size + nm.flags.length) fn Q t fr h := by
  intro m E a w b cs hr hf hk
  have hr2 := hr.ghosts P.globals.size nm.gh
  obtain ⟨l, H, s, hr3, hkn⟩ := canonQ_rel hr2 e
  obtain ⟨rs, h', w', fr', v, m', k0, k1, k2, k3, k4, k5, k6, k7⟩ := s _ E a w b cs hr3 hf hk
  exact ⟨rs, h', w', fr', v, m', k0, k1, k2, k3, fun i hi x hx => k4 i hi x (hkn i hi x hx), k5, k6, k7⟩

/-! Answers. -/

def valsF : List AV → Option (List Value)
  | [] => some []
  | .v x :: r => (valsF r).map (x :: ·)
  | _ :: _ => none

/-- An answer under the names that it is to have. -/
def retC (G : Nat) (nm : Nm) (K : List Value → AHeap → Prop) : Post := fun rs h =>
  canonQ G nm (fun fr h => match valsF fr with
    | some rs => K rs h
    | none => False) (ghosts G nm.gh (rs.map .v) h).1 (ghosts G nm.gh (rs.map .v) h).2

theorem valsF_map : ∀ {fr : List AV} {rs : List Value}, valsF fr = some rs → fr = rs.map .v
  | [], rs, e => by simp [valsF] at e; subst e; rfl
  | x :: r, rs, e => by
    cases x with
    | v x =>
      simp only [valsF, Option.map_eq_some_iff] at e
      obtain ⟨rs', h1, rfl⟩ := e
      rw [valsF_map h1]; rfl
    | _ => simp [valsF] at e

theorem cond_len {b : Bool} {x y : List AV × AHeap} {n : Nat} (h1 : x.1.length = n) (h2 : y.1.length = n) : (bif b then x else y).1.length = n := by
  cases b
  · exact h2
  · exact h1
theorem ghost1_len (G : Nat) (g : Gh) (fr : List AV) (h : AHeap) : (ghost1 G g fr h).1.length = fr.length := by
  unfold ghost1
  cases Nat.blt 0 g.sz with
  | false => rfl
  | true =>
    simp only [Bool.not_true, cond_false]
    repeat' (first | rfl | exact List.length_set | (refine cond_len ?_ ?_) | split)
theorem ghosts_len (G : Nat) (gs : List Gh) (fr : List AV) (h : AHeap) : (ghosts G gs fr h).1.length = fr.length := by
  induction gs generalizing fr h with
  | nil => rfl
  | cons g r ih => rw [ghosts, ih, ghost1_len]

/-- Values as a frame. -/
theorem vals_rel (hr : HRel P w0 m E h w) {rs vs : List Value} (hv : VL m (szB w) rs vs) : Rel P w0 m E (rs.map .v) h { tmps := vs.toArray, defers := [] } w := by
  refine ⟨hr, rfl, by simp [hv.length], ?_, ?_⟩
  · intro i x e
    rw [List.getElem?_map, Option.map_eq_some_iff] at e
    obtain ⟨z, hz, rfl⟩ := e
    obtain ⟨y, hy, hvy⟩ := hv.get hz
    have : (vs.toArray).getD i undef = y := by rw [Array.getD_eq_getD_getElem?]; simp [hy]
    rw [this]; exact hvy
  · intro i j c1 c2 B e1 e2
    rw [List.getElem?_map, Option.map_eq_some_iff] at e1
    obtain ⟨z, _, hz⟩ := e1
    simp at hz

theorem rel_vals {rs vs : List Value} (hr : Rel P w0 m E (rs.map .v) h { tmps := vs.toArray, defers := [] } w) : VL m (szB w) rs vs := by
  have hl : vs.length = rs.length := by simpa using hr.fr.len
  refine .of_get hl fun i x hx => ?_
  have := hr.fr.slot i (.v x) (by rw [List.getElem?_map, hx]; rfl)
  have hi : i < vs.length := by rw [hl]; exact (List.getElem?_eq_some_iff.1 hx).1
  refine ⟨vs[i], List.getElem?_eq_getElem hi, ?_⟩
  have e : (vs.toArray).getD i undef = vs[i] := by rw [Array.getD_eq_getD_getElem?]; simp [List.getElem?_eq_getElem hi]
  rw [← e]; exact this

theorem resV_vals {rs : List Value} {v : Value} (h : ResV m S rs v) : ∃ vs : List Value, VL m S rs vs ∧ ∀ (m' : MapN) (rs' : List Value), VL m' S rs' vs → ResV m' S rs' v := by
  match rs, h with
  | [], h =>
    obtain ⟨vs, h1, h2⟩ := h
    refine ⟨vs.toList, h2, fun m' rs' h3 => ?_⟩
    have hl := h2.length
    have hl3 := h3.length
    have : rs' = [] := List.length_eq_zero_iff.1 (hl3.symm.trans hl)
    subst this
    exact ⟨vs, h1, h3⟩
  | [x], h =>
    refine ⟨[v], .cons h .nil, fun m' rs' h3 => ?_⟩
    have hl3 := h3.length
    match rs', hl3, h3 with
    | [y], _, .cons hy _ => exact hy
  | x :: y :: r, h =>
    obtain ⟨vs, h1, h2⟩ := h
    refine ⟨vs.toList, h2, fun m' rs' h3 => ?_⟩
    have hl := h2.length
    have hl3 := h3.length
    match rs', (show rs'.length = r.length + 2 from hl3.symm.trans hl), h3 with
    | a :: b :: c, _, h3 => exact ⟨vs, h1, h3⟩

theorem ret_call {f : FuncId} {args : List Value} {nm : Nm} {K : List Value → AHeap → Prop} (hn : h.next = P.globals.size + nm.flags.length) (s : CallS P w0 f args h (retC P.globals.size nm K)) : CallS P w0 f args h K := by
  intro m E w args' hr hv he
  refine (s m E w args' hr hv he).mono ?_
  rintro en w' ⟨rs, h', v, m', hq, rfl, h1, h2, h3, h4⟩
  obtain ⟨vs, hvs, hback⟩ := resV_vals h4
  have hr2 := (vals_rel h2 hvs).ghosts P.globals.size nm.gh
  unfold retC at hq
  obtain ⟨l, H, hK, hr3, hkn⟩ := canonQ_rel hr2 hq
  split at hK
  · rename_i rs0 hrs0
    rw [valsF_map hrs0] at hr3
    refine ⟨rs0, _, v, _, hK, rfl, ?_, hr3.hr, h3, hback _ _ (rel_vals hr3)⟩
    intro i x hx
    have hlt := (hr.lt i x.1 x.2 hx).2
    exact hkn i (by omega) x (h1 i x hx)
  · exact hK.elim

/-! A law's call. -/

theorem law_callS {bl : List (List Value × Nat × Nat)} {W : World} (hg : P.globals.size < W.heap.size)
    (hb : ∀ x ∈ bl, ∃ C el fz, W.heap[x.2.1]? = some (.cells C el fz) ∧ VAt (mOf P.globals.size bl) (szB W) x.1 C x.2.2) {f : FuncId} (he : enters P f = true) {args args' : List Value} (hv : VL (mOf P.globals.size bl) (szB W) args args')
    (s : CallS P W f args (heapOf P.globals.size (bl.map (·.1))) fun rs _ => rs = [.bool true]) : Calls P f args'.toArray W fun e W' => e = .returned (.bool true) ∧ RowKit.Below W.heap.size W W' := by
  refine (s _ _ W args' (start_hrel hg hb) hv he).mono ?_
  rintro en W' ⟨rs, h', v, m', rfl, rfl, _, h1, _, h2⟩
  cases h2
  exact ⟨rfl, h1.base⟩

theorem heapOf_B (G : Nat) (bl : List (List Value)) : heapOf G bl = heapB G (bl.map fun cs => some (.cells cs false)) := by
  unfold heapOf heapB
  rw [List.foldl_map]

end Go.Agm
