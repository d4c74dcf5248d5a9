/- An abstract machine for one goroutine: a law's slices of structs. No condition. -/
import Derived.Test.YtkjdfkodclednaaDoorB10
import Derived.Test.YtkjdfkodclednaaDoorB8
import Derived.Deep.Slices
namespace Go.Agm
open Go.ChangeShapes Go.WideShapes Go.ChangeAt Go.RowKit

variable {H : Type} {enc : TypeId × Value → H} {P : Program} {W : World}

/-- A slice whose elements have some cells each: the cells by number; what is told of them may be any cells that stand for these. -/
theorem open_cells {t e : TypeId} {base sz : Nat} {v : Value} {d : DataW H} {ps : List MemPlace} (hu : P.underlying t = some (.slice e)) (hc : P.cellsOf e = sz) (hsz : 0 < sz)
    (hv : Value.okWide P W .any base t v) (h : DataW.Trod enc P W 0 (fun _ => true) true t v d ps) :
    ∃ (len : Nat) (o : Option (Nat × Nat)) (at' : Nat → Nat → Value), (∀ (m : MapN) (b : Nat), m b = o → V m (szB W) (.slice (some ⟨b, 0, none⟩) len sz) v) ∧
      (∀ (m : MapN) (cs : List Value), cs.length = len * sz → (∀ i j, i < len → j < sz → ∃ x, cs[i * sz + j]? = some x ∧ one x = true ∧ V m (szB W) x (at' i j)) → RowOk W m (cs, o)) ∧
      ∀ i, i < len → ∃ n y, DataW.trod enc P W 0 (fun _ => true) true n e ((List.range sz).map (at' i)) = some y := by
  obtain ⟨fuel, hf⟩ := h
  have hok : Cell.ok P W .any base t v := by
    simp only [Value.okWide, hu] at hv
    simpa [Cell.okWide, hu] using hv
  rcases Deep.open_slice hu hf with ⟨h1, _⟩ | ⟨a, len, cap, mm, n, D, Pl, h1, _, hl, _, hm, _, hx⟩
  · have hv0 : v = .slice none 0 0 := by
      cases v <;> simp_all [Value.cells, Cell.ok]
    subst hv0
    refine ⟨0, none, fun _ _ => undef, fun m b _ => .sghost hsz, fun m cs hcs _ => ?_, fun i hi => absurd hi (Nat.not_lt_zero _)⟩
    exact List.length_eq_zero_iff.1 (by simpa using hcs)
  · have hv0 : v = .slice (some a) len cap := by
      cases v <;> simp_all [Value.cells, Cell.ok]
    subst hv0
    simp only [if_true] at hm
    subst hm
    rw [hc] at hx
    by_cases hcap : mm = 0
    · have hlen : len = 0 := by omega
      subst hcap hlen
      refine ⟨0, none, fun _ _ => undef, fun m b _ => .sempty, fun m cs hcs _ => ?_, fun i hi => absurd hi (Nat.not_lt_zero _)⟩
      exact List.length_eq_zero_iff.1 (by simpa using hcs)
    · have hspot : a.spot = none := by
        unfold Cell.ok at hok
        rw [hu] at hok
        exact hok.2.2.2.1
      obtain ⟨B, off, sp⟩ := a
      simp only at hspot
      subst hspot
      have hcell : ∀ i, i < mm → ∀ j, j < sz → ∃ cs', W.cells? 0 ((⟨B, off, none⟩ : Addr).add (i * sz)) sz = some cs' ∧ W.cell? ⟨B, off + (i * sz + j), none⟩ = cs'[j]? ∧ j < cs'.length := by
        intro i hi j hj
        obtain ⟨cs', k1, _⟩ := hx i hi
        obtain ⟨_, k3, k4⟩ := World.cells?_some k1
        refine ⟨cs', k1, ?_, by omega⟩
        rw [← k4 j hj, Deep.add_add]
        unfold Addr.add
        split
        · rename_i h0; rw [h0]; rfl
        · rfl
      obtain ⟨C, el, fz, hB⟩ : ∃ C el fz, W.heap[B]? = some (.cells C el fz) := by
        obtain ⟨cs', _, k2, k3⟩ := hcell 0 (by omega) 0 hsz
        rw [List.getElem?_eq_getElem k3] at k2
        unfold World.cell? at k2
        split at k2
        · rename_i C el fz hB; exact ⟨C, el, fz, hB⟩
        · simp at k2
      have hC : ∀ i, i < mm → ∀ j, j < sz → ∃ cs', W.cells? 0 ((⟨B, off, none⟩ : Addr).add (i * sz)) sz = some cs' ∧ C[off + (i * sz + j)]? = cs'[j]? ∧ j < cs'.length := by
        intro i hi j hj
        obtain ⟨cs', k1, k2, k3⟩ := hcell i hi j hj
        refine ⟨cs', k1, ?_, k3⟩
        unfold World.cell? at k2
        rw [hB] at k2
        exact k2
      have hlt : off + mm * sz ≤ C.size := by
        obtain ⟨cs', _, k2, k3⟩ := hC (mm - 1) (by omega) (sz - 1) (by omega)
        rw [List.getElem?_eq_getElem k3] at k2
        have := (Array.getElem?_eq_some_iff.1 k2).1
        have e1 : (mm - 1) * sz + sz = mm * sz := by
          have : mm = (mm - 1) + 1 := by omega
          rw [this, Nat.add_mul, Nat.one_mul]; simp
        omega
      have hszB : szB W B = C.size := by unfold szB; rw [hB]
      have hle : len * sz ≤ mm * sz := Nat.mul_le_mul_right sz hl
      refine ⟨len, some (B, off), fun i j => C.getD (off + (i * sz + j)) undef, fun m b hm => ?_, fun m cs hcs hall => ⟨C, el, fz, hB, ?_, ?_, ?_⟩, fun i hi => ?_⟩
      · exact .slice (base := off) hm hl hsz (by rw [hszB]; omega)
      · simp only [hcs]; omega
      · intro x hx
        obtain ⟨q, hq⟩ := List.mem_iff_getElem?.1 hx
        have hq1 := (List.getElem?_eq_some_iff.1 hq).1
        have hq1' : q < len * sz := by rw [← hcs]; exact hq1
        have hdiv : q / sz < len := (Nat.div_lt_iff_lt_mul hsz).2 hq1'
        obtain ⟨x', k1, k2, _⟩ := hall (q / sz) (q % sz) hdiv (Nat.mod_lt _ hsz)
        have e1 : q / sz * sz + q % sz = q := by rw [Nat.mul_comm]; exact Nat.div_add_mod q sz
        rw [e1] at k1
        have hq' : cs[q]? = some x := hq
        rw [hq'] at k1
        injection k1 with k1
        rw [k1]; exact k2
      · refine .of_get (by simp only [List.length_take, List.length_drop, Array.length_toList, hcs]; omega) fun q x hq => ?_
        have hq' : cs[q]? = some x := hq
        have hq1 := (List.getElem?_eq_some_iff.1 hq').1
        have hq1' : q < len * sz := by rw [← hcs]; exact hq1
        have hdiv : q / sz < len := (Nat.div_lt_iff_lt_mul hsz).2 hq1'
        obtain ⟨x', k1, _, k3⟩ := hall (q / sz) (q % sz) hdiv (Nat.mod_lt _ hsz)
        have e1 : q / sz * sz + q % sz = q := by rw [Nat.mul_comm]; exact Nat.div_add_mod q sz
        rw [e1] at k1
        simp only [e1] at k3
        rw [hq'] at k1
        injection k1 with k1
        subst k1
        refine ⟨_, ?_, k3⟩
        show ((C.toList.drop off).take cs.length)[q]? = _
        rw [List.getElem?_take, if_pos (by omega), List.getElem?_drop, Array.getElem?_toList, Array.getD_eq_getD_getElem?, Array.getElem?_eq_getElem (by omega)]
        rfl
      · obtain ⟨cs', k1, k2⟩ := hx i (by omega)
        obtain ⟨_, k3, _⟩ := World.cells?_some k1
        refine ⟨n, (D i, Pl i), ?_⟩
        · have e1 : (List.range sz).map (fun j => C.getD (off + (i * sz + j)) undef) = cs' := by
            apply List.ext_getElem?
            intro j
            by_cases hj : j < sz
            · obtain ⟨cs2, q1, q2, q3⟩ := hC i (by omega) j hj
              rw [k1] at q1
              injection q1 with q1
              subst q1
              rw [List.getElem?_map, List.getElem?_range hj]
              simp only [Option.map_some]
              rw [← q2, Array.getD_eq_getD_getElem?]
              rw [List.getElem?_eq_getElem q3] at q2
              rw [q2]; rfl
            · rw [List.getElem?_eq_none (by simp; omega), List.getElem?_eq_none (by omega)]
          rw [e1]
          exact k2

end Go.Agm
