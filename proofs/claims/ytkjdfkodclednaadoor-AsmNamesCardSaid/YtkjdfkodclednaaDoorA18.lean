/- An abstract machine for one goroutine: stores, operations in the text's order, results beside the model's. No condition. -/
import Derived.Test.YtkjdfkodclednaaDoorA17
namespace Go.Agm

variable {P : Program} {w0 : World} {m : MapN} {E : Nat → Prop} {fr : List AV} {h : AHeap} {a : Act} {w : World} {r : Res} {c : Calls1} {loc : Nat → Bool}

/-- What is said of what comes behind a step. -/
def Ns (P : Program) (w0 : World) (m : MapN) (E : Nat → Prop) (w : World) (k : List AV → AHeap → Option Res) (r : Res) (next : Act → World → Prop) : Prop :=
  ∀ fr' h' a' w', Step P w0 m E w fr' h' a' w' → k fr' h' = some r → next a' w'

theorem Rel.blkLoc (hr : Rel P w0 m E fr h a w) {x : Operand} {s off : Nat} {cs : List Value} (e : locA P fr x = some (.loc s off)) (hs : getF fr s = .blk cs) :
    ∃ B C el fz, a.tmps.getD s undef = .pointer (some ⟨B, 0, none⟩) ∧ a.eval x = .pointer (some ⟨B, off, none⟩) ∧ w.heap[B]? = some (.cells C el fz) ∧ VAt m (szB w) cs C 0 ∧ Free C fz ∧ ¬ E B := by
  obtain ⟨B, h1, h2⟩ := hr.locs e hs
  obtain ⟨B', C, el, fz, k1, k2, k3, k4, k5, _⟩ := hr.fr.blk hs
  rw [h1] at k1
  simp only [Value.pointer.injEq, Option.some.injEq, Addr.mk.injEq, and_true] at k1
  subst k1
  exact ⟨B, C, el, fz, h1, h2, k2, k3, k4, k5⟩

theorem storeK_sound {o : Oper} {t : TypeId} {ad x : Operand} {k : List AV → AHeap → Option Res} {next : Act → World → Prop} {Q : Exit → Act → World → Prop} (ho : o.op = .store t ad x) (hd : o.dst = none) (hr : Rel P w0 m E fr h a w) (hn : Ns P w0 m E w k r next)
    (e : storeK P (optM c) t ad x fr k h = some r) : o.wp P a w next Q := by
  unfold storeK at e
  obtain ⟨y, hy, e⟩ := on_some e
  have hv := hr.val hy
  have key : ∀ w', (storeVar t (match a.eval ad with | .pointer (some p) => p | _ => default) (a.eval x)).run P w = .ok () w' → (∃ p, a.eval ad = .pointer (some p)) → next a w' → o.wp P a w next Q := by
    intro w' h1 ⟨p, hp⟩ h2
    rw [hp] at h1
    have hrun : (execOp a.eval o).run P w = .ok .skip w' := by
      simp only [execOp, ho, Instr.storeAt, hp, Instr.sureAddr, Sem.run_bind, Sem.run_pure, Result.andThen_ok]
      simp only at h1
      rw [h1]; rfl
    refine wp_skip hrun ?_
    rw [hd]; exact h2
  split at e
  · rename_i size b off hsz hl
    split at e
    · rename_i cs hg
      obtain ⟨hcond, e⟩ := cond_some e
      simp only [Bool.and_eq_true, beq_iff_eq, Nat.ble_eq] at hcond
      obtain ⟨B, bs, h1, h2⟩ := hr.main hl
      obtain ⟨C, el, fz, k2, k3, k4, _⟩ := hr.hr.cellsM hg h1
      have hsz' := hv.cells_size
      have hst := store_run (P := P) hsz hv hcond.1 (B := B) (o := bs + off) k2 (k4 rfl).2 (by have := k3.1; omega)
      obtain ⟨hmod, C', hC', hCs⟩ := setCells_at B (a.eval x).cells.toList (bs + off) w k2 (by have := k3.1; simp; omega)
      refine key _ (by rw [h2]; exact hst) ⟨_, h2⟩ (hn _ _ _ _ (Step.of (hr.mod hmod hg rfl h1 (k4 rfl).1 rfl (fun c' r' hh => ?_) (fun _ hh => by simp at hh)) (hmod.keep (k4 rfl).1)) e)
      injection hh with e1 e2
      subst e1
      have hCl : C'.size = C.size := by
        have := congrArg List.length hCs
        rw [splice_length _ _ _ (by have := k3.1; simp; omega)] at this
        simpa using this
      exact ⟨C', el, fz, hC', k3.splice hv.cells.1 hv.cells.2 (by simp; omega) hCs, fun i hi => (k4 rfl).2 i (by omega)⟩
    · exact no_fail e
  · rename_i size s off hsz hl
    split at e
    · rename_i cs hg
      obtain ⟨hcond, e⟩ := cond_some e
      simp only [Bool.and_eq_true, beq_iff_eq, Nat.ble_eq] at hcond
      obtain ⟨B, C, el, fz, h1, h2, k2, k3, k4, k5⟩ := hr.blkLoc hl hg
      have hsz' := hv.cells_size
      have hst := store_run (P := P) hsz hv hcond.1 (B := B) (o := off) k2 k4 (by have := k3.1; omega)
      obtain ⟨hmod, C', hC', hCs⟩ := setCells_at B (a.eval x).cells.toList off w k2 (by have := k3.1; simp; omega)
      have hCl : C'.size = C.size := by
        have := congrArg List.length hCs
        rw [splice_length _ _ _ (by have := k3.1; simp; omega)] at this
        simpa using this
      refine key _ (by rw [h2]; exact hst) ⟨_, h2⟩ (hn _ _ _ _ (Step.of (hr.modLocal hmod (getF_some hg (by simp)) h1 ⟨C', el, fz, hC', ?_, fun i hi => k4 i (by omega)⟩) (hmod.keep k5)) e)
      exact k3.splice hv.cells.1 hv.cells.2 (by simp; omega) (by rw [hCs, Nat.zero_add])
    · exact no_fail e
  · exact no_fail e

theorem stepK_sound {o : Oper} {k : List AV → AHeap → Option Res} {next : Act → World → Prop} {Q : Exit → Act → World → Prop} (hr : Rel P w0 m E fr h a w) (hc : CallOk P w0 c) (hn : Ns P w0 m E w k r next) (e : stepK P loc (optM c) o fr k h = some r) : o.wp P a w next Q := by
  unfold stepK at e
  split at e
  · rename_i t ad x ho
    split at e
    · rename_i hd
      exact storeK_sound ho hd hr hn e
    · exact no_fail e
  · exact opK_sound hr hc (fun x h' a' w' hs ek => hn _ _ _ _ hs ek) e

theorem set_same {t : Nat} {x : AV} (e : fr[t]? = some x) : fr.set t x = fr := by
  apply List.ext_getElem?
  intro i
  rw [set_get]
  split
  · rename_i hi; rw [hi.1, e]
  · rfl

theorem FRel.lt (hf : FRel m E fr h a w) {t : Nat} {x : AV} (e : getF fr t = x) (hx : x ≠ .dead) : a.tmps[t]? = some (a.tmps.getD t undef) := by
  have h1 := getF_some e hx
  have h2 : t < a.tmps.size := by
    rw [hf.len]
    rcases Nat.lt_or_ge t fr.length with hh | hh
    · exact hh
    · rw [List.getElem?_eq_none hh] at h1; simp at h1
  simp [Array.getD, h2]

/-- Is an operation with a guard wanted? -/
theorem wanted_tup (hf : FRel m E fr h a w) {ops : Array Oper} {o : Oper} {j : Nat} {want : Bool} {t : Nat} (hg : o.guard = some (j, want)) (ht : (ops[j]?).bind (·.dst) = some t) (e : getF fr t = .tup []) : Region.wanted o (yielded ops a.tmps) = false := by
  obtain ⟨vs, h1, _⟩ := hf.tup e
  have h2 := hf.lt e (by simp)
  rw [h1] at h2
  simp [Region.wanted, hg, yielded, ht, h2]

theorem wanted_bool (hf : FRel m E fr h a w) {ops : Array Oper} {o : Oper} {j : Nat} {want b : Bool} {t : Nat} (hg : o.guard = some (j, want)) (ht : (ops[j]?).bind (·.dst) = some t) (e : getF fr t = .v (.bool b)) : Region.wanted o (yielded ops a.tmps) = (b == want) := by
  have h1 := hf.v e
  have h2 := hf.lt e (by simp)
  generalize a.tmps.getD t undef = x at h1 h2
  cases h1
  simp [Region.wanted, hg, yielded, ht, h2]

theorem wpOps_run {ops : Array Oper} {Q : Exit → Act → World → Prop} {i : Nat} {is : List Nat} {o : Oper} (ho : ops[i]? = some o) (hw : Region.wanted o (yielded ops a.tmps) = true) (hx : o.wp P a w (wpOps P ops Q is) Q) : wpOps P ops Q (i :: is) a w := by
  simp only [wpOps, ho, hw, if_true]
  exact .inl hx
theorem wpOps_pass {ops : Array Oper} {Q : Exit → Act → World → Prop} {i : Nat} {is : List Nat} {o : Oper} (ho : ops[i]? = some o) (hw : Region.wanted o (yielded ops a.tmps) = false) (hx : wpOps P ops Q is (a.put o.dst undef) w) : wpOps P ops Q (i :: is) a w := by
  simp only [wpOps, ho, hw, Bool.false_eq_true, if_false]
  exact hx

theorem opsK_sound (hc : CallOk P w0 c) {ops : Array Oper} {k : List AV → AHeap → Option Res} {Q : Exit → Act → World → Prop} : ∀ (is : List Nat) {m : MapN} {fr : List AV} {h : AHeap} {a : Act} {w : World}, Rel P w0 m E fr h a w → Ns P w0 m E w k r (Q .normal) →
    opsK P loc (optM c) ops is fr k h = some r → wpOps P ops Q is a w := by
  intro is
  induction is with
  | nil =>
    intro m fr h a w hr hn e
    exact hn _ _ _ _ (Step.of hr (Keep.refl E w)) e
  | cons i is ih =>
    intro m fr h a w hr hn e
    have next : ∀ fr' h' a' w', Step P w0 m E w fr' h' a' w' → opsK P loc (optM c) ops is fr' k h' = some r → wpOps P ops Q is a' w' := by
      intro fr' h' a' w' ⟨m', h1, h2, h3⟩ e'
      exact ih h2 (fun fr2 h2 a2 w2 s e2 => hn _ _ _ _ (Step.trans h1 h3 s) e2) e'
    simp only [opsK] at e
    split at e
    · exact no_fail e
    · rename_i o ho
      split at e
      · rename_i hg
        exact wpOps_run ho (by simp [Region.wanted, hg]) (stepK_sound hr hc next e)
      · rename_i j want hg
        split at e
        · exact no_fail e
        · rename_i t ht
          split at e
          · rename_i hgt
            refine wpOps_pass ho (wanted_tup hr.fr hg ht hgt) ?_
            exact next _ _ _ _ (Step.of (hr.put tup_nil (by simp)) (Keep.refl E w)) e
          · rename_i b hgb
            have hset := set_same (getF_some hgb (by simp))
            have hw := wanted_bool hr.fr hg ht hgb
            cases want with
            | true =>
              cases b with
              | true =>
                simp only [cond_true, hset] at e
                exact wpOps_run ho hw (stepK_sound hr hc next e)
              | false =>
                simp only [cond_false, hset] at e
                exact wpOps_pass ho hw (next _ _ _ _ (Step.of (hr.put tup_nil (by simp)) (Keep.refl E w)) e)
            | false =>
              cases b with
              | true =>
                simp only [cond_true, hset] at e
                exact wpOps_pass ho hw (next _ _ _ _ (Step.of (hr.put tup_nil (by simp)) (Keep.refl E w)) e)
              | false =>
                simp only [cond_false, hset] at e
                exact wpOps_run ho hw (stepK_sound hr hc next e)
          · exact no_fail e

/-! What is struck. -/

theorem mask_get : ∀ (mk : List Bool) (fr : List AV) (i : Nat) (x : AV), (maskF mk fr)[i]? = some x → x = .dead ∨ fr[i]? = some x
  | [], fr, i, x, e => by cases fr <;> simp [maskF] at e ⊢ <;> exact .inr e
  | b :: mk, [], i, x, e => by cases b <;> simp [maskF] at e
  | true :: mk, y :: fr, 0, x, e => by simp [maskF] at e ⊢; exact .inr e
  | false :: mk, y :: fr, 0, x, e => by simp [maskF] at e; exact .inl e.symm
  | true :: mk, y :: fr, i + 1, x, e => by simp [maskF] at e ⊢; exact mask_get mk fr i x e
  | false :: mk, y :: fr, i + 1, x, e => by simp [maskF] at e ⊢; exact mask_get mk fr i x e

theorem mask_len (mk : List Bool) (fr : List AV) : (maskF mk fr).length = fr.length := by
  induction mk generalizing fr with
  | nil => cases fr <;> rfl
  | cons b mk ih => cases fr <;> cases b <;> simp [maskF, ih]

theorem Rel.mask (hr : Rel P w0 m E fr h a w) (mk : List Bool) : Rel P w0 m E (maskF mk fr) h a w := by
  refine ⟨hr.hr, hr.fr.defers, by rw [mask_len]; exact hr.fr.len, ?_, ?_⟩
  · intro i x e
    rcases mask_get mk fr i x e with rfl | e'
    · trivial
    · have := hr.fr.slot i x e'
      cases x with
      | ref s off =>
        intro cs hcs
        rcases mask_get mk fr s _ hcs with hh | hh
        · simp at hh
        · exact this cs hh
      | v x => exact this
      | tup xs => exact this
      | blk cs => exact this
      | dead => trivial
  · intro i j cs cs' B ei ej
    rcases mask_get mk fr i _ ei with hh | hh
    · simp at hh
    · rcases mask_get mk fr j _ ej with hh' | hh'
      · simp at hh'
      · exact hr.fr.dis i j cs cs' B hh hh'

/-! Results. -/

def resOne (tmps : Array Value) : ResultVar → Sem Value
  | .tmp t => pure (tmps.getD t undef)
  | .cell ad t => do loadVar t (← asAddr (tmps.getD ad undef))

theorem results_eq (fn : Func) (tmps : Array Value) : results fn tmps = (do
    let vs ← fn.results.mapM (resOne tmps)
    pure (if h : vs.size = 1 then vs[0] else .tuple vs)) := by
  unfold results
  congr 1

theorem resL_run (hr : Rel P w0 m E fr h a w) : ∀ {l : List ResultVar} {rs : List Value}, resL P fr h l = some rs →
    ∃ vs : List Value, (l.mapM (resOne a.tmps)).run P w = .ok vs w ∧ VL m (szB w) rs vs
  | [], rs, e => by
    simp only [resL, Option.some.injEq] at e
    subst e
    exact ⟨[], by simp, .nil⟩
  | .tmp t :: l, rs, e => by
    simp only [resL] at e
    split at e
    · rename_i x hx
      simp only [Option.bind_eq_some_iff, Option.some.injEq] at e
      obtain ⟨xs, hxs, rfl⟩ := e
      obtain ⟨vs, h1, h2⟩ := resL_run hr hxs
      refine ⟨a.tmps.getD t undef :: vs, ?_, .cons (hr.fr.v hx) h2⟩
      have h0 : (resOne a.tmps (.tmp t)).run P w = .ok (a.tmps.getD t undef) w := rfl
      simp only [List.mapM_cons, Sem.run_bind, h0, Sem.run_pure, Result.andThen_ok, h1]
    · simp at e
  | .cell ad t :: l, rs, e => by
    simp only [resL, Option.bind_eq_some_iff, Option.some.injEq] at e
    obtain ⟨lc, hl, cs, hcs, x, hx, xs, hxs, rfl⟩ := e
    obtain ⟨B, bs, C, el, fz, h1, h2, h3⟩ := hr.cellsAt hl hcs
    obtain ⟨y, h4, h5⟩ := readC_run (P := P) hx h2 h3
    obtain ⟨vs, h6, h7⟩ := resL_run hr hxs
    have h1' : a.tmps.getD ad undef = .pointer (some ⟨B, bs + lc.off, none⟩) := h1
    have h0 : (resOne a.tmps (.cell ad t)).run P w = .ok y w := by
      simp only [resOne, Sem.run_bind, h1', asAddr, Sem.run_pure, Result.andThen_ok, h4]
    refine ⟨y :: vs, ?_, .cons h5 h7⟩
    simp only [List.mapM_cons, Sem.run_bind, h0, Sem.run_pure, Result.andThen_ok, h6]

theorem results_run (hr : Rel P w0 m E fr h a w) {fn : Func} {rs : List Value} (e : resL P fr h fn.results.toList = some rs) : ∃ v, (results fn a.tmps).run P w = .ok v w ∧ ResV m (szB w) rs v := by
  obtain ⟨vs, h1, h2⟩ := resL_run hr e
  have hl := h2.length
  refine ⟨if h : vs.toArray.size = 1 then vs.toArray[0] else .tuple vs.toArray, ?_, ?_⟩
  · rw [results_eq]
    simp only [Array.mapM_eq_mapM_toList, Sem.run_bind, Sem.run_map, h1, Result.andThen_ok, Sem.run_pure]
  · match rs, vs, h2, hl with
    | [x], [y], h2, _ => cases h2 with | cons hv _ => exact hv
    | [], [], h2, _ => exact ⟨#[], rfl, .nil⟩
    | x :: x' :: xs, y :: y' :: ys, h2, _ => exact ⟨(y :: y' :: ys).toArray, by simp, by simpa using h2⟩

end Go.Agm
