/- An abstract machine for one goroutine: memory beside the model's. No condition. -/
import Derived.Test.YtkjdfkodclednaaDoorA9
namespace Go.Agm

variable {P : Program} {w0 : World} {m : MapN} {E : Nat → Prop} {fr : List AV} {h : AHeap} {a : Act} {w : World} {S : Nat → Nat}

theorem VAt.get {cs : List Value} {C : Array Value} {bs : Nat} (hv : VAt m S cs C bs) {i : Nat} {x : Value} (hx : cs[i]? = some x) : ∃ y, C[bs + i]? = some y ∧ V m S x y := by
  obtain ⟨y, hy, hvy⟩ := hv.2.2.get hx
  refine ⟨y, ?_, hvy⟩
  have hi : i < cs.length := by
    rcases Nat.lt_or_ge i cs.length with hh | hh
    · exact hh
    · rw [List.getElem?_eq_none hh] at hx; simp at hx
  rw [List.getElem?_take, if_pos hi, List.getElem?_drop] at hy
  simpa using hy

theorem VAt.of_get {cs : List Value} {C : Array Value} {bs : Nat} (hl : bs + cs.length ≤ C.size) (ho : ∀ x ∈ cs, one x = true) (hg : ∀ (i : Nat) x, cs[i]? = some x → ∃ y, C[bs + i]? = some y ∧ V m S x y) : VAt m S cs C bs := by
  refine ⟨hl, ho, .of_get (by simp; omega) fun i x hx => ?_⟩
  obtain ⟨y, hy, hvy⟩ := hg i x hx
  refine ⟨y, ?_, hvy⟩
  have hi : i < cs.length := by
    rcases Nat.lt_or_ge i cs.length with hh | hh
    · exact hh
    · rw [List.getElem?_eq_none hh] at hx; simp at hx
  rw [List.getElem?_take, if_pos hi, List.getElem?_drop]
  simpa using hy

theorem splice_get (L ys : List Value) (o i : Nat) (hl : o + ys.length ≤ L.length) : (splice L o ys)[i]? = if o ≤ i ∧ i < o + ys.length then ys[i - o]? else L[i]? := by
  unfold splice
  rw [List.append_assoc, List.getElem?_append]
  simp only [List.length_take]
  by_cases h1 : i < min o L.length
  · rw [if_pos h1, if_neg (by omega), List.getElem?_take, if_pos (by omega)]
  · rw [if_neg h1, List.getElem?_append]
    by_cases h2 : i - min o L.length < ys.length
    · rw [if_pos h2, if_pos (by omega), show i - min o L.length = i - o by omega]
    · rw [if_neg h2, if_neg (by omega), List.getElem?_drop]
      congr 1
      omega

theorem splice_length (L ys : List Value) (o : Nat) (hl : o + ys.length ≤ L.length) : (splice L o ys).length = L.length := by
  unfold splice; simp; omega

theorem VAt.splice {cs xs ys : List Value} {C C' : Array Value} {bs off : Nat} (hv : VAt m S cs C bs) (hx : VL m S xs ys) (hox : ∀ x ∈ xs, one x = true) (hl : off + xs.length ≤ cs.length)
    (hC : C'.toList = Agm.splice C.toList (bs + off) ys) : VAt m S (Agm.splice cs off xs) C' bs := by
  have hlx := hx.length
  have hls := splice_length cs xs off hl
  have hsz : C'.size = C.size := by
    have := congrArg List.length hC
    rw [splice_length _ _ _ (by have := hv.1; simp; omega)] at this
    simpa using this
  refine .of_get (by rw [hls, hsz]; exact hv.1) ?_ ?_
  · intro z hz
    unfold Agm.splice at hz
    simp only [List.mem_append] at hz
    rcases hz with (hz | hz) | hz
    · exact hv.2.1 z (List.mem_of_mem_take hz)
    · exact hox z hz
    · exact hv.2.1 z (List.mem_of_mem_drop hz)
  · intro i x hi
    rw [splice_get _ _ _ _ hl] at hi
    have hC' : ∀ j : Nat, C'[j]? = (Agm.splice C.toList (bs + off) ys)[j]? := by intro j; rw [← hC]; simp
    rw [hC', splice_get _ _ _ _ (by have := hv.1; simp; omega)]
    by_cases hc : off ≤ i ∧ i < off + xs.length
    · rw [if_pos hc] at hi
      obtain ⟨y, hy, hvy⟩ := hx.get hi
      refine ⟨y, ?_, hvy⟩
      rw [if_pos (by omega), show bs + i - (bs + off) = i - off by omega]
      exact hy
    · rw [if_neg hc] at hi
      obtain ⟨y, hy, hvy⟩ := hv.get hi
      refine ⟨y, ?_, hvy⟩
      rw [if_neg (by omega)]
      simpa using hy

theorem cell_at {B o : Nat} {C : Array Value} {el : TypeId} {fz : Nat × Nat} (e : w.heap[B]? = some (.cells C el fz)) : w.cell? ⟨B, o, none⟩ = C[o]? := by
  simp [World.cell?, e]
theorem frozen_at {B o : Nat} {C : Array Value} {el : TypeId} {fz : Nat × Nat} (e : w.heap[B]? = some (.cells C el fz)) (hf : Free C fz) (ho : o < C.size) : w.frozen? ⟨B, o, none⟩ = false := by
  have := hf o ho
  simp only [World.frozen?, e]
  simp only [Bool.and_eq_false_iff, decide_eq_false_iff_not]
  omega

theorem setCells_at (B : Nat) : ∀ (vs : List Value) (o : Nat) (w : World) {C : Array Value} {el : TypeId} {fz : Nat × Nat}, w.heap[B]? = some (.cells C el fz) → o + vs.length ≤ C.size →
    Mod w (w.setCells B o vs) B ∧ ∃ C', (w.setCells B o vs).heap[B]? = some (.cells C' el fz) ∧ C'.toList = splice C.toList o vs := by
  intro vs
  induction vs with
  | nil =>
    intro o w C el fz e _
    exact ⟨⟨rfl, rfl, rfl, rfl, fun _ _ => rfl, rfl, fun C el fz e => ⟨C, fz, e⟩⟩, C, e, by simp [splice]⟩
  | cons v vs ih =>
    intro o w C el fz e hl
    simp only [List.length_cons] at hl
    have e1 : (w.setCell ⟨B, o, none⟩ v).heap[B]? = some (.cells (C.setIfInBounds o v) el fz) := by
      simp [World.setCell, Array.getElem?_modify, e]
    obtain ⟨hm, C', h1, h2⟩ := ih (o + 1) (w.setCell ⟨B, o, none⟩ v) e1 (by simp; omega)
    simp only [World.setCells]
    refine ⟨⟨hm.os, hm.tape, hm.output, by rw [hm.size]; simp [World.setCell], fun i hi => by rw [hm.block i hi]; simp [World.setCell, Array.getElem?_modify, Ne.symm hi], ?_, fun C2 el2 fz2 e2 => by
      rw [e] at e2
      injection e2 with e2
      injection e2 with e3 e4 e5
      subst e4
      exact ⟨C', fz, h1⟩⟩, C', h1, ?_⟩
    · rw [hm.len]
      unfold szB
      rw [e1, e]
      simp
    · rw [h2]
      apply List.ext_getElem?
      intro i
      have hCl : C.toList.length = C.size := by simp
      rw [splice_get _ _ _ _ (by simp; omega), splice_get _ _ _ _ (by simp; omega)]
      simp only [List.length_cons, Array.toList_setIfInBounds, List.getElem?_set]
      by_cases hi : i = o
      · subst hi
        rw [if_neg (by omega), if_pos rfl, if_pos (by omega), if_pos (by omega)]
        simp
      · by_cases h3 : o + 1 ≤ i ∧ i < o + 1 + vs.length
        · rw [if_pos h3, if_pos (by omega), show i - o = i - (o + 1) + 1 by omega]
          simp
        · rw [if_neg h3, if_neg (fun hh => hi hh.symm), if_neg (by omega)]

/-! Places. -/

theorem Rel.main (hr : Rel P w0 m E fr h a w) {x : Operand} {b off : Nat} (e : locA P fr x = some (.main b off)) : ∃ B bs, m b = some (B, bs) ∧ a.eval x = .pointer (some ⟨B, bs + off, none⟩) := by
  unfold locA at e
  split at e
  · rename_i b' off' he
    injection e with e
    injection e with e1 e2
    subst e1 e2
    have := hr.eval he
    generalize a.eval x = z at this
    cases this with
    | ptr hm => exact ⟨_, _, hm, rfl⟩
  · split at e <;> simp at e
  · split at e <;> simp at e
  · simp at e

theorem Rel.locs (hr : Rel P w0 m E fr h a w) {x : Operand} {s off : Nat} {cs : List Value} (e : locA P fr x = some (.loc s off)) (hs : getF fr s = .blk cs) :
    ∃ B, a.tmps.getD s undef = .pointer (some ⟨B, 0, none⟩) ∧ a.eval x = .pointer (some ⟨B, off, none⟩) := by
  unfold locA at e
  split at e
  · simp at e
  · split at e
    · injection e with e
      injection e with e1 e2
      subst e1 e2
      obtain ⟨B, C, el, fz, h1, _⟩ := hr.fr.blk hs
      exact ⟨B, h1, h1⟩
    · simp at e
  · rename_i s' off' he
    split at e
    · injection e with e
      injection e with e1 e2
      subst e1 e2
      obtain ⟨t, rfl, ht⟩ := opA_tmp he (by simp) (by simp)
      obtain ⟨B, h1, h2⟩ := hr.fr.ref ht hs
      exact ⟨B, h1, h2⟩
    · simp at e
  · simp at e

theorem locA_blk {x : Operand} {s off : Nat} (e : locA P fr x = some (.loc s off)) : ∃ cs, getF fr s = .blk cs := by
  unfold locA at e
  split at e
  · simp at e
  · split at e
    · injection e with e
      injection e with e1 e2
      subst e1 e2
      exact ⟨_, by assumption⟩
    · simp at e
  · split at e
    · rename_i cs hc
      injection e with e
      injection e with e1 e2
      subst e1 e2
      exact ⟨_, hc⟩
    · simp at e
  · simp at e

theorem Rel.cellsAt (hr : Rel P w0 m E fr h a w) {x : Operand} {l : Loc} {cs : List Value} (e : locA P fr x = some l) (hc : l.cells fr h = some cs) :
    ∃ B bs C el fz, a.eval x = .pointer (some ⟨B, bs + l.off, none⟩) ∧ w.heap[B]? = some (.cells C el fz) ∧ VAt m (szB w) cs C bs := by
  cases l with
  | main b off =>
    obtain ⟨B, bs, hm, he⟩ := hr.main e
    simp only [Loc.cells] at hc
    split at hc
    · rename_i cs' rw hg
      injection hc with hc; subst hc
      obtain ⟨C, el, fz, k2, k3, _⟩ := hr.hr.cellsM hg hm
      exact ⟨B, bs, C, el, fz, he, k2, k3⟩
    · simp at hc
  | loc s off =>
    simp only [Loc.cells] at hc
    split at hc
    · rename_i cs' hg
      injection hc with hc; subst hc
      obtain ⟨B, h1, h2⟩ := hr.locs e hg
      obtain ⟨B', C, el, fz, k1, k2, k3, _⟩ := hr.fr.blk hg
      rw [h1] at k1
      simp only [Value.pointer.injEq, Option.some.injEq, Addr.mk.injEq, and_true] at k1
      subst k1
      exact ⟨B, 0, C, el, fz, by simpa [Loc.off] using h2, k2, k3⟩
    · simp at hc

theorem addr_add (B o n : Nat) : (⟨B, o, none⟩ : Addr).add n = ⟨B, o + n, none⟩ := by
  unfold Addr.add; split <;> simp_all

/-- A value is read. -/
theorem readC_run {t : TypeId} {cs : List Value} {off : Nat} {x : Value} (e : readC P t cs off = some x) {B bs : Nat} {C : Array Value} {el : TypeId} {fz : Nat × Nat} (hB : w.heap[B]? = some (.cells C el fz)) (hv : VAt m (szB w) cs C bs) :
    ∃ y, (loadVar t ⟨B, bs + off, none⟩).run P w = .ok y w ∧ V m (szB w) x y := by
  unfold readC at e
  have key : ∀ d, P.underlying t = some d → aggD d = true → ((sizeT P t).bind fun n => bif Nat.ble (off + n) cs.length then some (Value.agg ((cs.drop off).take n).toArray) else none) = some x →
      ∃ y, (loadVar t ⟨B, bs + off, none⟩).run P w = .ok y w ∧ V m (szB w) x y := by
    intro d hd hagg e
    rw [Option.bind_eq_some_iff] at e
    obtain ⟨n, hn, e⟩ := e
    cases hb : Nat.ble (off + n) cs.length with
    | false => rw [hb] at e; simp at e
    | true =>
      rw [hb] at e
      simp only [cond_true, Option.some.injEq] at e
      subst e
      have hb' : off + n ≤ cs.length := by simpa [Nat.ble_eq] using hb
      have hlen : ((C.toList.drop (bs + off)).take n).length = n := by have := hv.1; simp; omega
      have hload := run_loadCells_list (P := P) w ⟨B, bs + off, none⟩ ((C.toList.drop (bs + off)).take n) (by
        intro j v hj
        rw [addr_add, cell_at hB]
        have hjn : j < n := by
          rcases Nat.lt_or_ge j n with hh | hh
          · exact hh
          · rw [List.getElem?_eq_none (by omega)] at hj; simp at hj
        rw [List.getElem?_take, if_pos hjn, List.getElem?_drop] at hj
        simpa using hj)
      rw [hlen] at hload
      refine ⟨.agg ((C.toList.drop (bs + off)).take n).toArray, ?_, ?_⟩
      · simp only [loadVar, Sem.run_bind, run_isAgg hd, Result.andThen_ok, hagg, if_true, run_size hn, hload, Sem.run_pure]
      · refine .agg ?_ (fun z hz => hv.2.1 z (List.mem_of_mem_drop (List.mem_of_mem_take (by simpa using hz))))
        refine .of_get (by show ((C.toList.drop (bs + off)).take n).length = _; rw [hlen]; simp; omega) ?_
        intro i x hx
        replace hx : ((cs.drop off).take n)[i]? = some x := hx
        show ∃ y, ((C.toList.drop (bs + off)).take n)[i]? = some y ∧ V m (szB w) x y
        have hi : i < n := by
          rcases Nat.lt_or_ge i n with hh | hh
          · exact hh
          · rw [List.getElem?_eq_none (by simp; omega)] at hx; simp at hx
        rw [List.getElem?_take, if_pos hi, List.getElem?_drop] at hx ⊢
        obtain ⟨y, hy, hvy⟩ := hv.get hx
        refine ⟨y, ?_, hvy⟩
        rw [show bs + off + i = bs + (off + i) by omega]
        simpa using hy
  split at e
  · rename_i fs hd; exact key _ hd rfl e
  · rename_i n e' hd; exact key _ hd rfl e
  · rename_i d hd1 hd2 hd
    obtain ⟨y, hy, hvy⟩ := hv.get e
    refine ⟨y, ?_, hvy⟩
    have hagg : aggD d = false := by
      cases d <;> first | rfl | (exact absurd rfl (hd1 _)) | (exact absurd rfl (hd2 _ _)) | (exact absurd hd (hd1 _)) | (exact absurd hd (hd2 _ _))
    simp only [loadVar, Sem.run_bind, run_isAgg hd, Result.andThen_ok, hagg, Bool.false_eq_true, if_false]
    rw [run_load, cell_at hB, hy]
  · simp at e

theorem one_cell' {x : Value} : x.oneCell' = one x := by cases x <;> rfl

/-- A value is stored. -/
theorem store_run {t : TypeId} {n : Nat} (hn : sizeT P t = some n) {x y : Value} (hv : V m (szB w) x y) (hs : x.cells.size = n) {B o : Nat} {C : Array Value} {el : TypeId} {fz : Nat × Nat} (hB : w.heap[B]? = some (.cells C el fz)) (hf : Free C fz) (hl : o + n ≤ C.size) :
    (storeVar t ⟨B, o, none⟩ y).run P w = .ok () (w.setCells B o y.cells.toList) := by
  have hys : y.cells.size = n := by rw [hv.cells_size]; exact hs
  have hc := run_storeCells_cells (P := P) B o y.cells.toList 0 w
    (fun j hj => by rw [cell_at hB, Nat.add_zero, Array.getElem?_eq_getElem (by simp at hj; omega)]; rfl)
    (fun j hj => by rw [Nat.add_zero]; exact frozen_at hB hf (by simp at hj; omega))
    (fun v hv' => by rw [one_cell']; exact hv.cells.1.one_all hv.cells.2 v hv')
  rw [Nat.add_zero] at hc
  simp only [storeVar, Sem.run_bind, run_size hn, Result.andThen_ok, hys, ne_eq, not_true_eq_false, if_false, hc]

end Go.Agm
