/- An abstract machine for one goroutine: what makes memory, beside the model's. No condition. -/
import Derived.Test.YtkjdfkodclednaaDoorA12
namespace Go.Agm

variable {P : Program} {w0 : World} {m : MapN} {E : Nat → Prop} {fr : List AV} {h : AHeap} {a : Act} {w : World} {S : Nat → Nat} {o : Oper} {next : Act → World → Prop} {Q : Exit → Act → World → Prop} {k : AV → AHeap → Option Res} {r : Res}

/-- What an operation hands back, and what it leaves. -/
def Out (P : Program) (w0 : World) (m : MapN) (E : Nat → Prop) (fr : List AV) (a : Act) (w : World) (z : Value) (h' : AHeap) (z' : Value) (w' : World) : Prop :=
  ∃ m', MLe m m' ∧ Rel P w0 m' E fr h' a w' ∧ Keep E w w' ∧ V m' (szB w') z z'

theorem Rel.outv (hn : Nx P w0 m E w fr o k r next) {z z' : Value} {h' : AHeap} {w' : World} (e : (execOp a.eval o).run P w = .ok (.value z') w') (ho : Out P w0 m E fr a w z h' z' w') (ek : k (.v z) h' = some r) : o.wp P a w next Q := by
  obtain ⟨m', h1, h2, h3, h4⟩ := ho
  exact wp_value e (hn _ _ _ _ ⟨m', h1, h2.putv h4, h3⟩ ek)

/-- What an operation leaves that hands back nothing. -/
def Outn (P : Program) (w0 : World) (m : MapN) (E : Nat → Prop) (fr : List AV) (a : Act) (w : World) (h' : AHeap) (w' : World) : Prop :=
  ∃ m', MLe m m' ∧ Rel P w0 m' E fr h' a w' ∧ Keep E w w'

theorem tup_nil : AVR m E h w fr a.tmps undef (.tup []) := ⟨#[], rfl, .nil⟩

theorem Rel.outn (hn : Nx P w0 m E w fr o k r next) {h' : AHeap} {w' : World} (e : (execOp a.eval o).run P w = .ok (.value (.tuple #[])) w') (ho : Outn P w0 m E fr a w h' w') (ek : k (.tup []) h' = some r) : o.wp P a w next Q := by
  obtain ⟨m', h1, h2, h3⟩ := ho
  exact wp_value e (hn _ _ _ _ ⟨m', h1, h2.put tup_nil (by simp), h3⟩ ek)
theorem Rel.outs (hn : Nx P w0 m E w fr o k r next) {h' : AHeap} {w' : World} (e : (execOp a.eval o).run P w = .ok .skip w') (ho : Outn P w0 m E fr a w h' w') (ek : k (.tup []) h' = some r) : o.wp P a w next Q := by
  obtain ⟨m', h1, h2, h3⟩ := ho
  exact wp_skip e (hn _ _ _ _ ⟨m', h1, h2.put tup_nil (by simp), h3⟩ ek)

theorem szB_push (w : World) (C : Array Value) (el : TypeId) (B : Nat) (h : B = w.heap.size) : szB { w with heap := w.heap.push (.cells C el) } B = C.size := by
  subst h; simp [szB]

theorem ext_drew (w : World) : Ext w w.drew := ⟨rfl, rfl, rfl, Nat.le_refl _, fun _ _ => rfl⟩

/-- A new row is handed back as a slice. -/
theorem out_row (hr : Rel P w0 m E fr h a w) {w1 : World} (h1 : Ext w w1) (hh : w1.heap = w.heap) {cs : List Value} {C : Array Value} {el : TypeId} {n sz c : Nat} (hv : VL m (szB w) cs (C.toList.take cs.length)) (hl : cs.length ≤ C.size) (ho : ∀ x ∈ cs, one x = true) (hn : n ≤ c) (hz : 0 < sz) (hc : c * sz ≤ C.size) :
    Out P w0 m E fr a w (.slice (some ⟨h.next, 0, none⟩) n sz) (h.new (.cells cs true)) (.slice (some ⟨w.heap.size, 0, none⟩) n c) { w1 with heap := w1.heap.push (.cells C el) } := by
  refine ⟨_, mnew_le hr.hr.fresh, hr.newCells h1 hh hv hl ho, (h1.trans (ext_push w1 _)).keep hr.hr.ext, ?_⟩
  exact V.slice (off := 0) (base := 0) (by simp [mnew]) hn hz (by rw [szB_push _ _ _ _ (by rw [hh])]; omega)

/-- A new row is handed back as a pointer. -/
theorem out_ptr (hr : Rel P w0 m E fr h a w) {cs : List Value} {C : Array Value} {el : TypeId} (hv : VL m (szB w) cs C.toList) (ho : ∀ x ∈ cs, one x = true) :
    Out P w0 m E fr a w (.pointer (some ⟨h.next, 0, none⟩)) (h.new (.cells cs true)) (.pointer (some ⟨w.heap.size, 0, none⟩)) { w with heap := w.heap.push (.cells C el) } := by
  have hlen := hv.length
  simp only [Array.length_toList] at hlen
  refine ⟨_, mnew_le hr.hr.fresh, hr.newCells (Ext.refl w) rfl (by rw [List.take_of_length_le (by simp; omega)]; exact hv) (by omega) ho, (ext_push w _).keep hr.hr.ext, ?_⟩
  exact V.ptr (off := 0) (base := 0) (by simp [mnew])

/-- .. of a known type. -/
theorem out_ptrT (hr : Rel P w0 m E fr h a w) {cs : List Value} {C : Array Value} {el : TypeId} (hv : VL m (szB w) cs C.toList) (ho : ∀ x ∈ cs, one x = true) :
    Out P w0 m E fr a w (.pointer (some ⟨h.next, 0, none⟩)) ((h.new (.cells cs true)).typ h.next el) (.pointer (some ⟨w.heap.size, 0, none⟩)) { w with heap := w.heap.push (.cells C el) } := by
  have hlen := hv.length
  simp only [Array.length_toList] at hlen
  refine ⟨_, mnew_le hr.hr.fresh, (hr.newCells (C := C) (el := el) (Ext.refl w) rfl (by rw [List.take_of_length_le (by simp; omega)]; exact hv) (by omega) ho).typ ⟨w.heap.size, C, (0, 0), by simp [mnew], by simp⟩, (ext_push w _).keep hr.hr.ext, ?_⟩
  exact V.ptr (off := 0) (base := 0) (by simp [mnew])

/-- A new row of a known type is handed back as a slice. -/
theorem out_rowT (hr : Rel P w0 m E fr h a w) {w1 : World} (h1 : Ext w w1) (hh : w1.heap = w.heap) {cs : List Value} {C : Array Value} {el : TypeId} {n sz c : Nat} (hv : VL m (szB w) cs (C.toList.take cs.length)) (hl : cs.length ≤ C.size) (ho : ∀ x ∈ cs, one x = true) (hn : n ≤ c) (hz : 0 < sz) (hc : c * sz ≤ C.size) :
    Out P w0 m E fr a w (.slice (some ⟨h.next, 0, none⟩) n sz) ((h.new (.cells cs true)).typ h.next el) (.slice (some ⟨w.heap.size, 0, none⟩) n c) { w1 with heap := w1.heap.push (.cells C el) } := by
  refine ⟨_, mnew_le hr.hr.fresh, (hr.newCells (C := C) (el := el) h1 hh hv hl ho).typ ⟨w.heap.size, C, (0, 0), by simp [mnew], by simp [hh]⟩, (h1.trans (ext_push w1 _)).keep hr.hr.ext, ?_⟩
  exact V.slice (off := 0) (base := 0) (by simp [mnew]) hn hz (by rw [szB_push _ _ _ _ (by rw [hh])]; omega)

theorem ex_typIf (c : Bool) {X : Value → World → Prop} {z : Value} {h' : AHeap} {b : Nat} {t : TypeId} (e : ∃ z' w', X z' w' ∧ Out P w0 m E fr a w z (h'.typ b t) z' w') : ∃ z' w', X z' w' ∧ Out P w0 m E fr a w z (AHeap.typIf c h' b t) z' w' := by
  cases c with
  | true => exact e
  | false =>
    obtain ⟨z', w', k1, m', k2, k3, k4, k5⟩ := e
    exact ⟨z', w', k1, m', k2, k3.untyp, k4, k5⟩

theorem append_sound (hr : Rel P w0 m E fr h a w) {t u ty : TypeId} {s x s' x' z : Value} {h' : AHeap} (hs : V m (szB w) s s') (hx : V m (szB w) x x') (e : appendA P t u s x h = some (z, h')) :
    ∃ z' w', (Builtin.append_ #[t, u] ty #[s', x']).run P w = .ok z' w' ∧ Out P w0 m E fr a w z h' z' w' := by
  unfold appendA at e
  split at e
  · rename_i el xd hu hxu
    cases hsd : srcD xd with
    | false => rw [hsd] at e; simp at e
    | true =>
      simp only [hsd, Bool.not_true, cond_false, Option.bind_eq_some_iff] at e
      obtain ⟨size, hsz, bytes, hby, mm, hmm, e⟩ := e
      obtain ⟨i, hi, hisz⟩ : ∃ i, P.info? el = some i ∧ i.size = size := by
        unfold sizeT at hsz
        cases hi : P.info? el with
        | none => rw [hi] at hsz; simp at hsz
        | some i => rw [hi] at hsz; simp at hsz; exact ⟨i, rfl, hsz⟩
      have hiby : i.bytes = bytes := by
        unfold bytesT at hby
        rw [hi] at hby; simpa using hby
      cases mm with
      | zero =>
        simp only at e
        split at e
        · rename_i A n c
          injection e with e
          injection e with e1 e2
          subst e1 e2
          obtain ⟨A', n', c', rfl, hn⟩ : ∃ A' n' c', s' = .slice A' n' c' ∧ n' ≤ c' := by
            cases hs with
            | snil => exact ⟨_, _, _, rfl, Nat.le_refl _⟩
            | slice _ hn _ _ => exact ⟨_, _, _, rfl, hn⟩
            | sempty => exact ⟨_, _, _, rfl, Nat.le_refl _⟩
            | sghost _ => exact ⟨_, _, _, rfl, Nat.le_refl _⟩
          have hsrc : (Builtin.lenOf x').run P w = .ok 0 w ∧ ∃ ys : Array Value, (Builtin.firstCells size 0 x').run P w = .ok ys w ∧ ys.toList = [] := by
            unfold countA at hmm
            split at hmm
            · injection hmm with hmm; subst hmm
              cases hx with
              | snil => exact ⟨rfl, #[], rfl, rfl⟩
              | slice _ _ _ _ => exact ⟨rfl, #[], by simp [Builtin.firstCells, loadCells, loadCellsFrom], rfl⟩
              | sempty => exact ⟨rfl, #[], by simp [Builtin.firstCells, loadCells, loadCellsFrom], rfl⟩
              | sghost _ => exact ⟨rfl, #[], by simp [Builtin.firstCells], rfl⟩
            · rename_i str
              injection hmm with hmm
              cases hx
              refine ⟨by rw [← hmm]; rfl, _, rfl, ?_⟩
              simp
            · simp at hmm
          obtain ⟨h1, ys, h2, h3⟩ := hsrc
          refine ⟨_, w, append_nothing hu hxu hsd hsz rfl hn h1 h2 h3, m, MLe.refl m, hr, Keep.refl E w, hs⟩
        · simp at e
      | succ mm =>
        cases hbz : (Nat.blt 0 bytes && zeroOk P el size) with
        | false => simp [hbz] at e
        | true =>
          simp only [hbz, Bool.not_true, cond_false, Option.bind_eq_some_iff] at e
          obtain ⟨new, hnew, e⟩ := e
          simp only [Bool.and_eq_true, Nat.blt_eq] at hbz
          obtain ⟨hpos, hzs⟩ := hbz
          obtain ⟨z0, hz0, hzz⟩ : ∃ z0, (P.info? el).bind (·.zero) = some z0 ∧ z0.cells.size = size := by
            unfold zeroOk at hzs
            split at hzs
            · rename_i z1 hz1; exact ⟨z1, hz1, by simpa using hzs⟩
            · simp at hzs
          have hz0' : i.zero = some z0 := by rw [hi] at hz0; simpa using hz0
          have hsrcw := source_run (P := P) hr.hr hx hnew hmm (Nat.le_refl _)
          have hrd := hr.grow (ext_drew w)
          have hsrcd := source_run (P := P) hrd.hr hx hnew hmm (Nat.le_refl _)
          obtain ⟨hlen, hnl, hno, ys, hfc, hvy⟩ := hsrcw
          obtain ⟨_, _, _, yd, hfcd, hvyd⟩ := hsrcd
          rw [List.take_of_length_le (by omega)] at hvy hvyd
          have hyl := hvy.length
          have hydl := hvyd.length
          simp only [Array.length_toList] at hyl hydl
          have hvyd' : VL m (szB w) new yd.toList := hvyd
          cases size with
          | zero => simp at e
          | succ size =>
            simp only at e
            -- a new row
            have hgrow : ∀ h1, Rel P w0 m E fr h1 a w → h1.next = h.next → ∀ A' n c cells (os : Array Value), c < n + (mm + 1) → room (n + (mm + 1)) bytes = true → VL m (szB w) cells os.toList → (∀ z ∈ cells, one z = true) → cells.length = n * (size + 1) → (Builtin.firstCells (size + 1) n (.slice A' n c)).run P w.drew = .ok os w.drew →
                ∃ z' w', (Builtin.append_ #[t, u] ty #[.slice A' n c, x']).run P w = .ok z' w' ∧ Out P w0 m E fr a w (.slice (some ⟨h.next, 0, none⟩) (n + (mm + 1)) (size + 1)) ((h1.new (.cells (cells ++ new) true)).typ h.next el) z' w' := by
              intro hh1 hr1 hnx A' n c cells os hc0 hroom hvo hco hcl hfo
              obtain ⟨cap, h1, h2⟩ := append_grow (P := P) (ty := ty) hu hxu hsd hi hz0' (x := x') (A := A') (n := n) (c := c) (k := mm + 1) hc0 hlen (by rw [hisz]; exact hfcd) (by rw [hisz]; exact hfo) (by rw [hiby]; exact hroom) (by rw [hiby]; exact hpos)
              have hosl := hvo.length
              simp only [Array.length_toList] at hosl
              rw [← hnx]
              refine ⟨_, _, h1, out_rowT hr1 (ext_drew w) rfl (c := cap) ?_ ?_ ?_ h2 (by omega) ?_⟩
              · simp only [Array.toList_append]
                rw [show (cells ++ new).length = (os.toList ++ yd.toList).length by simp; omega, List.take_left]
                exact hvo.append hvyd'
              · simp; omega
              · intro z hz
                rcases List.mem_append.1 hz with hz | hz
                · exact hco z hz
                · exact hno z hz
              · simp only [Array.size_append, Builtin.zeroCells, Array.size_map, Array.size_range, hzz]
                have h3 : n * (size + 1) + (mm + 1) * (size + 1) + (cap - (n + (mm + 1))) * (size + 1) = cap * (size + 1) := by
                  rw [← Nat.add_mul, ← Nat.add_mul]; congr 1; omega
                omega
            split at e
            · cases hroom : room (mm + 1) bytes with
              | false => rw [hroom] at e; simp at e
              | true =>
                rw [hroom, cond_true] at e
                injection e with e
                injection e with e1 e2
                subst e1 e2
                cases hs
                have := hgrow h hr rfl none 0 0 [] #[] (by omega) (by simpa using hroom) .nil (by simp) (by simp) rfl
                simpa using this
            · rename_i b' off'
              cases hroom : room (mm + 1) bytes with
              | false => rw [hroom] at e; simp at e
              | true =>
                rw [hroom, cond_true] at e
                injection e with e
                injection e with e1 e2
                subst e1 e2
                cases hs with
                | slice _ _ hz _ => omega
                | sghost hz => omega
                | sempty =>
                  rename_i A'
                  have := hgrow h hr rfl (some A') 0 0 [] #[] (by omega) (by simpa using hroom) .nil (by simp) (by simp) (by simp [Builtin.firstCells, loadCells, loadCellsFrom])
                  simpa using this
            · rename_i b off n sz hne1
              split at e
              · rename_i cs hg
                cases hcond : (room (n + (mm + 1)) bytes && sz == size + 1 && Nat.ble (off + n * (size + 1)) cs.length) with
                | false => rw [hcond] at e; simp at e
                | true =>
                  rw [hcond, cond_true] at e
                  injection e with e
                  injection e with e1 e2
                  subst e1 e2
                  simp only [Bool.and_eq_true, beq_iff_eq, Nat.ble_eq] at hcond
                  obtain ⟨⟨hroom, hsz1⟩, hble⟩ := hcond
                  subst hsz1
                  have hrdel := hr.del b
                  cases hs with
                  | sempty =>
                    rename_i A'
                    have := hgrow (h.del b) hrdel rfl (some A') 0 0 [] #[] (by omega) (by simpa using hroom) .nil (by simp) (by simp) (by simp [Builtin.firstCells, loadCells, loadCellsFrom])
                    simpa using ex_typIf (Nat.beq off 0 && h.tyOf b el) this
                  | sghost _ =>
                    have := hgrow (h.del b) hrdel rfl none 0 0 [] #[] (by omega) (by simpa using hroom) .nil (by simp) (by simp) rfl
                    simpa using ex_typIf (Nat.beq off 0 && h.tyOf b el) this
                  | @slice _ _ _ _ B bs c hm hn hz hc =>
                    obtain ⟨C, el', fz, k2, k3, k4, _⟩ := hr.hr.cellsM hg hm
                    have hszB : szB w B = C.size := by unfold szB; rw [k2]
                    rw [hszB] at hc
                    have hcl : ((cs.drop off).take (n * (size + 1))).length = n * (size + 1) := by simp; omega
                    have hdl : ((C.toList.drop (bs + off)).take (n * (size + 1))).length = n * (size + 1) := by have := k3.1; simp; omega
                    have hold : VL m (szB w) ((cs.drop off).take (n * (size + 1))) ((C.toList.drop (bs + off)).take (n * (size + 1))) := by
                      refine .of_get (by rw [hcl, hdl]) fun i x hx => ?_
                      have hi : i < n * (size + 1) := by
                        rcases Nat.lt_or_ge i (n * (size + 1)) with hh | hh
                        · exact hh
                        · rw [List.getElem?_eq_none (by omega)] at hx; simp at hx
                      rw [List.getElem?_take, if_pos hi, List.getElem?_drop] at hx ⊢
                      obtain ⟨y, hy, hvy'⟩ := k3.get hx
                      exact ⟨y, by rw [show bs + off + i = bs + (off + i) by omega]; simpa using hy, hvy'⟩
                    have holdo : ∀ z ∈ (cs.drop off).take (n * (size + 1)), one z = true := fun z hz => k3.2.1 z (List.mem_of_mem_drop (List.mem_of_mem_take hz))
                    by_cases hneed : n + (mm + 1) ≤ c
                    · have hmul : (n + (mm + 1)) * (size + 1) ≤ c * (size + 1) := Nat.mul_le_mul_right _ hneed
                      rw [Nat.add_mul] at hmul
                      have h1 := append_room (P := P) (ty := ty) hu hxu hsd hsz (x := x') (B := B) (o := bs + off) (n := n) (c := c) (k := mm + 1) hneed hlen hfc (hvy.one_all hno) k2 (k4 rfl).2 (by omega)
                      obtain ⟨hmod, C', hC', hCs⟩ := setCells_at B ys.toList (bs + off + n * (size + 1)) w k2 (by simp; omega)
                      have hCl : C'.size = C.size := by
                        have := congrArg List.length hCs
                        rw [splice_length _ _ _ (by simp; omega)] at this
                        simpa using this
                      have hvat : VAt m (szB w) ((cs.drop off).take (n * (size + 1)) ++ new) C' (bs + off) := by
                        refine .of_get (by rw [List.length_append, hcl]; omega) ?_ ?_
                        · intro z hz
                          rcases List.mem_append.1 hz with hz | hz
                          · exact holdo z hz
                          · exact hno z hz
                        · intro i x hx
                          have hget : ∀ j : Nat, C'[j]? = (splice C.toList (bs + off + n * (size + 1)) ys.toList)[j]? := by intro j; rw [← hCs]; simp
                          rw [List.getElem?_append] at hx
                          by_cases hi : i < n * (size + 1)
                          · rw [if_pos (by rw [hcl]; exact hi)] at hx
                            obtain ⟨y, hy, hvy'⟩ := hold.get hx
                            refine ⟨y, ?_, hvy'⟩
                            rw [hget, splice_get _ _ _ _ (by simp; omega), if_neg (by omega)]
                            rw [List.getElem?_take, if_pos hi, List.getElem?_drop] at hy
                            exact hy
                          · rw [if_neg (by rw [hcl]; exact hi), hcl] at hx
                            obtain ⟨y, hy, hvy'⟩ := hvy.get hx
                            refine ⟨y, ?_, hvy'⟩
                            have hlt : i - n * (size + 1) < new.length := by
                              rcases Nat.lt_or_ge (i - n * (size + 1)) new.length with hh | hh
                              · exact hh
                              · rw [List.getElem?_eq_none hh] at hx; simp at hx
                            rw [hget, splice_get _ _ _ _ (by simp; omega), if_pos (by simp; omega)]
                            rw [show bs + off + i - (bs + off + n * (size + 1)) = i - n * (size + 1) by omega]
                            exact hy
                      have hren := hr.rename hg hm (k4 rfl).1 hmod hC' (fun i hi => (k4 rfl).2 i (by omega)) hvat
                      have hren2 : Rel P w0 (fun i => if i = h.next then some (B, bs + off) else m i) E fr (AHeap.typIf (Nat.beq off 0 && h.tyOf b el) ((h.del b).new (.cells ((cs.drop off).take (n * (size + 1)) ++ new) true)) h.next el) a (w.setCells B (bs + off + n * (size + 1)) ys.toList) := by
                        cases hct : (Nat.beq off 0 && h.tyOf b el) with
                        | false => exact hren
                        | true =>
                          simp only [Bool.and_eq_true] at hct
                          have h0 := Nat.eq_of_beq_eq_true hct.1
                          obtain ⟨B1, C1, fz1, t1, t2⟩ := hr.hr.ty b el (AHeap.tyOf_mem hct.2)
                          rw [hm] at t1
                          injection t1 with t1
                          injection t1 with t1 t3
                          subst t1 t3 h0
                          rw [k2] at t2
                          injection t2 with t2
                          injection t2 with _ t4 _
                          subst t4
                          exact hren.typ ⟨B, C', fz, by simp, hC'⟩
                      refine ⟨_, _, h1, _, ?_, hren2, hmod.keep (k4 rfl).1, ?_⟩
                      · intro i x hi
                        show (if i = h.next then _ else _) = _
                        rw [if_neg (by intro hh; subst hh; rw [hr.hr.fresh] at hi; simp at hi)]
                        exact hi
                      · refine V.slice (off := 0) (base := bs + off) (by simp) hneed (by omega) ?_
                        rw [hmod.len, hszB]; omega
                    · have := hgrow (h.del b) hrdel rfl (some ⟨B, bs + off, none⟩) n c ((cs.drop off).take (n * (size + 1))) (((C.toList.drop (bs + off)).take (n * (size + 1))).toArray) (by omega) hroom hold holdo hcl (by
                        have hload := run_loadCells_list (P := P) w.drew ⟨B, bs + off, none⟩ ((C.toList.drop (bs + off)).take (n * (size + 1))) (by
                          intro i v hi
                          rw [addr_add, cell_at (w := w.drew) k2]
                          have hin : i < n * (size + 1) := by
                            rcases Nat.lt_or_ge i (n * (size + 1)) with hh | hh
                            · exact hh
                            · rw [List.getElem?_eq_none (by omega)] at hi; simp at hi
                          rw [List.getElem?_take, if_pos hin, List.getElem?_drop] at hi
                          simpa using hi)
                        rw [hdl] at hload
                        exact hload)
                      simpa using ex_typIf (Nat.beq off 0 && h.tyOf b el) this
              · simp at e
            · simp at e
  · simp at e

end Go.Agm
