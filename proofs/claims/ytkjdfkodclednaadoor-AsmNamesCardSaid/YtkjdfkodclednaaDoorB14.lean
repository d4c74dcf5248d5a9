/- An abstract machine for one goroutine: the program's tables, read alone. No condition but what they hold. -/
import Derived.Test.YtkjdfkodclednaaDoorB13
namespace Go.Agm
variable {P : Program} {w0 : World} {m : MapN} {E : Nat → Prop} {fr : List AV} {h : AHeap} {a : Act} {w : World}

abbrev Tabs := List (Nat × List Value)
def addG (tab : Tabs) (h : AHeap) : AHeap := tab.foldl (fun h p => h.put p.1 (.cells p.2 false)) h
def TabAt (w0 : World) (g : Nat) (cs : List Value) : Prop := ∃ C el fz, w0.heap[g]? = some (.cells C el fz) ∧ C.toList = cs ∧ ∀ x ∈ cs, one x = true ∧ plainD 3 x = true
theorem HRel.tab (hr : HRel P w0 m E h w) {g : Nat} {cs : List Value} (hg : g < P.globals.size) (ht : TabAt w0 g cs) : HRel P w0 m E (h.put g (.cells cs false)) w := by
  obtain ⟨C, el, fz, h1, h2, h3⟩ := ht
  have hlt : g < w0.heap.size := (Array.getElem?_eq_some_iff.1 h1).1
  have hw : w.heap[g]? = some (.cells C el fz) := by rw [hr.base.block g hlt]; exact h1
  have hm := hr.glob g hg
  have hnext := (hr.lt g g 0 hm).2
  refine ⟨hr.base, hr.out, hr.ext, hr.glob, hr.lt, ?_, ?_, ?_, ?_, hr.ty⟩
  · intro b x e
    rw [AHeap.get_put] at e
    split at e
    · rename_i hb; subst hb; exact hnext
    · exact hr.dom b x e
  · intro b cs' rw' e
    rw [AHeap.get_put] at e
    split at e
    · rename_i hb
      subst hb
      injection e with e
      injection e with e1 e2
      subst e1 e2
      refine .inr ⟨b, 0, C, el, fz, hm, hw, ⟨by rw [← h2]; simp, fun x hx => (h3 x hx).1, ?_⟩, fun h => by simp at h, fun _ => hlt⟩
      rw [List.drop_zero, h2, List.take_length]
      exact VL.of_plain 3 fun x hx => (h3 x hx).2
    · exact hr.cells b cs' rw' e
  · intro b es e
    rw [AHeap.get_put] at e
    split at e
    · simp at e
    · exact hr.maps b es e
  · intro b b' x x' B bs bs' e e' k k' ho
    rw [AHeap.get_put] at e e'
    split at e
    · injection e with e
      subst e
      simp [ABlk.own] at ho
    · split at e'
      · rename_i hb
        subst hb
        exfalso
        rw [hm] at k'
        injection k' with k'
        injection k' with k1 k2
        subst k1 k2
        have hE : E b' := hr.out b' hlt
        cases x with
        | cells cs2 rw2 =>
          simp only [ABlk.own] at ho
          subst ho
          obtain ⟨_, _, _, _, _, h5, _⟩ := hr.cellsM e k
          exact (h5 rfl).1 hE
        | map es =>
          obtain ⟨B', en, cl, q1, q2, q3, _⟩ := hr.maps b es e
          rw [k] at q1
          injection q1 with q1
          injection q1 with q1 _
          subst q1
          exact q3 hE
      · exact hr.inj b b' x x' B bs bs' e e' k k' ho
theorem FRel.tab (hf : FRel m E fr h a w) (hr : HRel P w0 m E h w) {g : Nat} {cs : List Value} (hg : g < P.globals.size) (ht : TabAt w0 g cs) : FRel m E fr (h.put g (.cells cs false)) a w := by
  obtain ⟨C, el, fz, h1, _⟩ := ht
  have hlt : g < w0.heap.size := (Array.getElem?_eq_some_iff.1 h1).1
  refine ⟨hf.defers, hf.len, fun i x hx => ?_, hf.dis⟩
  have := hf.slot i x hx
  cases x with
  | blk cs' =>
    obtain ⟨B, C', el', fz', k1, k2, k3, k4, k5, k6⟩ := this
    refine ⟨B, C', el', fz', k1, k2, k3, k4, k5, fun b x bs e => ?_⟩
    rw [AHeap.get_put] at e
    split at e
    · rename_i hb
      subst hb
      rw [hr.glob b hg]
      intro hh
      injection hh with hh
      injection hh with hh _
      subst hh
      exact k5 (hr.out b hlt)
    · exact k6 b x bs e
  | _ => exact this
def TabsOk (P : Program) (w0 : World) (tab : Tabs) : Prop := ∀ p ∈ tab, p.1 < P.globals.size ∧ TabAt w0 p.1 p.2
theorem Rel.tabs : ∀ {tab : Tabs} {h : AHeap}, TabsOk P w0 tab → Rel P w0 m E fr h a w → Rel P w0 m E fr (addG tab h) a w
  | [], _, _, hr => hr
  | p :: r, h, ht, hr => by
    obtain ⟨h1, h2⟩ := ht p (List.mem_cons_self ..)
    exact Rel.tabs (tab := r) (h := h.put p.1 (.cells p.2 false)) (fun q hq => ht q (List.mem_cons_of_mem _ hq)) ⟨hr.hr.tab h1 h2, hr.fr.tab hr.hr h1 h2⟩
/-- The tables may stand in the heap. -/
theorem sem_addG {tab : Tabs} (ht : TabsOk P w0 tab) {n : Nat} {fn : Func} {Q : Post} {t : List Item} (s : Sem P w0 n fn Q t fr (addG tab h)) : Sem P w0 n fn Q t fr h := by
  intro m E a w b cs hr hf hk
  exact s m E a w b cs (hr.tabs ht) hf hk
end Go.Agm
