/- An abstract machine for one goroutine: rows of noughts, copies, maps beside the model's. No condition. -/
import Derived.Test.YtkjdfkodclednaaDoorA13
namespace Go.Agm

variable {P : Program} {w0 : World} {m : MapN} {E : Nat → Prop} {fr : List AV} {h : AHeap} {a : Act} {w : World} {S : Nat → Nat}

theorem zero_rows (z : Array Value) (n : Nat) : ((Array.range (n * z.size)).map fun i => z[i % z.size]!).toList = (List.replicate n z.toList).flatten := by
  rw [Array.toList_map, Array.toList_range]
  induction n with
  | zero => simp
  | succ n ih =>
    rw [Nat.add_mul, Nat.one_mul, List.range_add, List.map_append, ih, List.replicate_succ', List.flatten_append]
    congr 1
    simp only [List.map_map, List.flatten_cons, List.flatten_nil, List.append_nil]
    apply List.ext_getElem?
    intro i
    simp only [List.getElem?_map]
    by_cases hi : i < z.size
    · simp [hi, Nat.add_mod, Nat.mod_eq_of_lt hi]
    · simp [hi]

theorem flatten_len (n : Nat) (z : List Value) : (List.replicate n z).flatten.length = n * z.length := by
  simp

theorem flatten_mem {n : Nat} {z : List Value} {x : Value} (hx : x ∈ (List.replicate n z).flatten) : x ∈ z := by
  simp only [List.mem_flatten, List.mem_replicate] at hx
  obtain ⟨l, ⟨_, rfl⟩, h⟩ := hx
  exact h

theorem VL.rows {n : Nat} {z : List Value} {j : Nat} (h : ∀ x ∈ z, plainD j x = true) : VL m S (List.replicate n z).flatten (List.replicate n z).flatten :=
  VL.of_plain j fun x hx => h x (flatten_mem hx)

theorem clear_sound (hr : Rel P w0 m E fr h a w) {t ty : TypeId} {d d' : Value} {h' : AHeap} (hd : V m (szB w) d d') (e : clearA P t d h = some h') :
    ∃ w', (Builtin.clear_ #[t] ty #[d']).run P w = .ok (.tuple #[]) w' ∧ Outn P w0 m E fr a w h' w' := by
  unfold clearA at e
  split at e
  · rename_i el hu
    injection e with e; subst e
    cases hd
    exact ⟨w, by simp [Builtin.clear_, run_underlying' hu], m, MLe.refl m, hr, Keep.refl E w⟩
  · rename_i A c el hne hu
    injection e with e; subst e
    refine ⟨w, ?_, m, MLe.refl m, hr, Keep.refl E w⟩
    cases hd with
    | snil => simp [Builtin.clear_, run_underlying' hu]
    | slice _ _ _ _ => simp [Builtin.clear_, run_underlying' hu]
    | sempty => simp [Builtin.clear_, run_underlying' hu]
    | sghost _ => simp [Builtin.clear_, run_underlying' hu]
  · rename_i el b off n sz hne2 hu
    simp only [Option.bind_eq_some_iff] at e
    obtain ⟨z, hz, e⟩ := e
    split at e
    · rename_i cs hg
      cases hb : Nat.ble (off + n * z.length) cs.length with
      | false => rw [hb] at e; simp at e
      | true =>
        rw [hb, cond_true] at e
        injection e with e; subst e
        obtain ⟨zv, hzv, hzc, hzp, hzo⟩ := zeroT_some hz
        have hb' : off + n * z.length ≤ cs.length := by simpa [Nat.ble_eq] using hb
        have hsame : Rel P w0 m E fr (h.put b (.cells (splice cs off (List.replicate 0 z).flatten) true)) a w := by
          simp only [List.replicate_zero, List.flatten_nil]
          have hsp : splice cs off [] = cs := by simp [splice]
          rw [hsp]
          exact hr.same hg
        cases hd with
        | sempty => exact ⟨w, by simp [Builtin.clear_, run_underlying' hu], m, MLe.refl m, hsame, Keep.refl E w⟩
        | sghost _ => exact ⟨w, by simp [Builtin.clear_, run_underlying' hu], m, MLe.refl m, hsame, Keep.refl E w⟩
        | @slice _ _ _ _ B bs c hm hn hzz hc =>
          obtain ⟨C, el', fz, k2, k3, k4, _⟩ := hr.hr.cellsM hg hm
          have hzl : zv.cells.size = z.length := by rw [hzc]; simp
          have hzr : (Builtin.zeroCells zv.cells n).toList = (List.replicate n z).flatten := by unfold Builtin.zeroCells; rw [zero_rows, hzc]
          have hlen := flatten_len n z
          have hst := run_storeCells_cells (P := P) B (bs + off) (List.replicate n z).flatten 0 w
            (fun j hj => by rw [cell_at k2, Nat.add_zero, Array.getElem?_eq_getElem (by have := k3.1; omega)]; rfl)
            (fun j hj => by rw [Nat.add_zero]; exact frozen_at k2 (k4 rfl).2 (by have := k3.1; omega))
            (fun v hv' => by rw [one_cell']; exact hzo v (flatten_mem hv'))
          rw [Nat.add_zero] at hst
          obtain ⟨hmod, C', hC', hCs⟩ := setCells_at B (List.replicate n z).flatten (bs + off) w k2 (by have := k3.1; omega)
          refine ⟨w.setCells B (bs + off) (List.replicate n z).flatten, ?_, m, MLe.refl m, ?_, hmod.keep (k4 rfl).1⟩
          · cases n with
            | zero => exact (hne2 rfl).elim
            | succ n =>
              simp [Builtin.clear_, run_underlying' hu, run_zero hzv, hzr, hst]
          · exact hr.mod hmod hg rfl hm (k4 rfl).1 rfl (fun c r hh => by
              injection hh with h1 h2; subst h1
              have hCl : C'.size = C.size := by
                have := congrArg List.length hCs
                rw [splice_length _ _ _ (by have := k3.1; simp; omega)] at this
                simpa using this
              exact ⟨C', el', fz, hC', k3.splice (VL.rows hzp) (fun x hx => hzo x (flatten_mem hx)) (by omega) hCs, fun i hi => (k4 rfl).2 i (by omega)⟩) (fun _ hh => by simp at hh)
    · simp at e
  · simp at e

theorem copy_sound (hr : Rel P w0 m E fr h a w) {t u ty : TypeId} {d d' x x' z : Value} {h' : AHeap} (hd : V m (szB w) d d') (hx : V m (szB w) x x') (e : copyA P t d x h = some (z, h')) :
    ∃ w', (Builtin.copy_ #[t, u] ty #[d', x']).run P w = .ok z w' ∧ Outn P w0 m E fr a w h' w' ∧ plainD 0 z = true := by
  unfold copyA at e
  split at e
  · rename_i el hu
    simp only [Option.bind_eq_some_iff, Option.some.injEq, Prod.mk.injEq] at e
    obtain ⟨size, hsz, mm, hmm, e1, e2⟩ := e
    subst e1 e2
    cases hd
    have hl : (Builtin.lenOf x').run P w = .ok mm w ∧ ∃ ys, (Builtin.firstCells size 0 x').run P w = .ok ys w := by
      unfold countA at hmm
      split at hmm
      · injection hmm with hmm; subst hmm
        cases hx with
        | snil => exact ⟨rfl, _, rfl⟩
        | slice _ _ _ _ => exact ⟨rfl, #[], by simp [Builtin.firstCells, loadCells, loadCellsFrom]⟩
        | sempty => exact ⟨rfl, #[], by simp [Builtin.firstCells, loadCells, loadCellsFrom]⟩
        | sghost _ => exact ⟨rfl, #[], by simp [Builtin.firstCells]⟩
      · injection hmm with hmm; subst hmm; cases hx; exact ⟨rfl, _, rfl⟩
      · simp at hmm
    obtain ⟨h1, ys, h2⟩ := hl
    refine ⟨w, ?_, ⟨m, MLe.refl m, hr, Keep.refl E w⟩, rfl⟩
    simp [Builtin.copy_, run_underlying' hu, h1, h2, run_size hsz, goInt]
  · rename_i el b off n sz hu
    simp only [Option.bind_eq_some_iff] at e
    obtain ⟨size, hsz, mm, hmm, new, hnew, e⟩ := e
    split at e
    · rename_i cs hg
      cases hcond : (Nat.ble (off + n * size) cs.length && Nat.ble (Nat.min mm n * size) new.length) with
      | false => rw [hcond] at e; simp at e
      | true =>
        rw [hcond, cond_true] at e
        injection e with e
        injection e with e1 e2
        subst e1 e2
        simp only [Bool.and_eq_true, Nat.ble_eq] at hcond
        obtain ⟨hc1, hc2⟩ := hcond
        obtain ⟨hlen, hnl, hno, ys, hfc, hvy⟩ := source_run (P := P) hr.hr hx hnew hmm (Nat.min_le_left mm n)
        have hyl := hvy.length
        simp only [Array.length_toList, List.length_take] at hyl
        have hmn : Nat.min mm n * size ≤ n * size := Nat.mul_le_mul_right _ (Nat.min_le_right _ _)
        obtain ⟨q, hq⟩ : ∃ q, Nat.min mm n = q := ⟨_, rfl⟩
        have hq' : min mm n = q := hq
        rw [hq] at hc2 hmn ⊢
        rw [hq'] at hfc hvy hyl
        cases hd with
        | sghost _ =>
          have h0 : q = 0 := by rw [← hq]; exact Nat.min_zero _
          subst h0
          simp only [Nat.zero_mul, List.take_zero] at hfc hvy hyl ⊢
          have hys : ys = #[] := Array.eq_empty_of_size_eq_zero (by omega)
          subst hys
          refine ⟨w, ?_, ⟨m, MLe.refl m, ?_, Keep.refl E w⟩, rfl⟩
          · simp [Builtin.copy_, run_underlying' hu, hlen, hfc, run_size hsz, goInt]
          · have hsp : splice cs off [] = cs := by simp [splice]
            rw [hsp]
            exact hr.same hg
        | sempty =>
          rename_i A'
          have h0 : q = 0 := by rw [← hq]; exact Nat.min_zero _
          subst h0
          simp only [Nat.zero_mul, List.take_zero] at hfc hvy hyl ⊢
          have hys : ys = #[] := Array.eq_empty_of_size_eq_zero (by omega)
          subst hys
          refine ⟨w, ?_, ⟨m, MLe.refl m, ?_, Keep.refl E w⟩, rfl⟩
          · simp [Builtin.copy_, run_underlying' hu, hlen, hfc, run_size hsz, goInt, storeCells]
          · have hsp : splice cs off [] = cs := by simp [splice]
            rw [hsp]
            exact hr.same hg
        | @slice _ _ _ _ B bs c hm hn hzz hc =>
          obtain ⟨C, el', fz, k2, k3, k4, _⟩ := hr.hr.cellsM hg hm
          have hst := run_storeCells_cells (P := P) B (bs + off) ys.toList 0 w
            (fun j hj => by rw [cell_at k2, Nat.add_zero, Array.getElem?_eq_getElem (by have := k3.1; simp at hj; omega)]; rfl)
            (fun j hj => by rw [Nat.add_zero]; exact frozen_at k2 (k4 rfl).2 (by have := k3.1; simp at hj; omega))
            (fun v hv' => by rw [one_cell']; exact hvy.one_all (fun x hx => hno x (List.mem_of_mem_take hx)) v hv')
          rw [Nat.add_zero] at hst
          obtain ⟨hmod, C', hC', hCs⟩ := setCells_at B ys.toList (bs + off) w k2 (by have := k3.1; simp; omega)
          refine ⟨w.setCells B (bs + off) ys.toList, ?_, ⟨m, MLe.refl m, ?_, hmod.keep (k4 rfl).1⟩, rfl⟩
          · simp [Builtin.copy_, run_underlying' hu, hlen, hfc, run_size hsz, goInt, hst, hq]
          · exact hr.mod hmod hg rfl hm (k4 rfl).1 rfl (fun c r hh => by
              injection hh with h1 h2; subst h1
              have hCl : C'.size = C.size := by
                have := congrArg List.length hCs
                rw [splice_length _ _ _ (by have := k3.1; simp; omega)] at this
                simpa using this
              exact ⟨C', el', fz, hC', k3.splice hvy (fun x hx => hno x (List.mem_of_mem_take hx)) (by simp only [List.length_take]; omega) hCs, fun i hi => (k4 rfl).2 i (by omega)⟩) (fun _ hh => by simp at hh)
    · simp at e
  · simp at e

end Go.Agm
