/- errors.As at a number of an error, as a contract, where the library's one variable holds what it is laid with. No other condition. -/
import Derived.Test.YtadaindmgmielaaDoorKas
import Derived.Test.YtadaindmgmielaaDoorKa
namespace Go.Proofs.YtadaindmgmielaaDoor
open Go.Agm

/-- What the variable errors.errorType holds. -/
def Laid (w0 : World) : Prop := w0.cell? ⟨0, 0, none⟩ = some (.iface 154 (.agg #[.pointer (some ⟨2, 38, none⟩)]))

noncomputable def con49 : Con := { f := 49, gh := [], paths := [⟨1, [0], true⟩], spec := fun args bs => match args, bs with
  | [.iface 77 e, .iface 119 p], [some (.cells [.int .i64 _] true)] => match intV e with
    | some e => bif isPtr p 0 then some (True, [B true], [(true, some (.cells [.int .i64 e] true))]) else none
    | none => none
  | _, _ => none }

theorem mod_set {w : World} {Bk bs : Nat} {C : Array Value} {el : TypeId} {fz : Nat × Nat} {v : Value} (hb : w.heap[Bk]? = some (.cells C el fz)) :
    Mod w (w.setCell ⟨Bk, bs, none⟩ v) Bk ∧ (w.setCell ⟨Bk, bs, none⟩ v).heap[Bk]? = some (.cells (C.setIfInBounds bs v) el fz) := by
  have h1 : (w.setCell ⟨Bk, bs, none⟩ v).heap[Bk]? = some (.cells (C.setIfInBounds bs v) el fz) := by
    simp [World.setCell, Array.getElem?_modify, hb]
  refine ⟨⟨rfl, rfl, rfl, by simp [World.setCell], fun i hi => by simp [World.setCell, Array.getElem?_modify, Ne.symm hi], ?_, ?_⟩, h1⟩
  · unfold szB
    rw [h1, hb]
    simp
  · intro C' el' fz' e
    rw [hb] at e
    injection e with e
    injection e with e1 e2 e3
    subst e1 e2 e3
    exact ⟨_, _, h1⟩

theorem con49_ok {w0 : World} (hg : Laid w0) : con49.ok Tryd.prog w0 := by
  intro args bs p rs out e _
  simp only [con49] at e
  split at e <;> first | (simp at e; done) | skip
  split at e <;> first | (simp at e; done) | skip
  rename_i e0 p0 x _ e1 he1
  cases hq : isPtr p0 0 with
  | false => rw [hq] at e; simp at e
  | true =>
    rw [hq] at e
    simp only [cond_true, Option.some.injEq, Prod.mk.injEq] at e
    obtain ⟨rfl, rfl, rfl⟩ := e
    rw [intV_eq he1, isPtr_eq hq]
    change CallS Tryd.prog w0 49 [.iface 77 (I e1), .iface 119 (PT (Tryd.prog.globals.size + 0))] (heapB Tryd.prog.globals.size [some (.cells [I x] true)]) fun rs' h' => rs' = [B true] ∧ h' = heapB Tryd.prog.globals.size [some (.cells [I e1] true)]
    intro m E w args' hr hv he
    have hget : (heapB Tryd.prog.globals.size [some (.cells [I x] true)]).get (Tryd.prog.globals.size + 0) = some (.cells [I x] true) := by
      rw [heapB_get, if_neg (by omega)]
      simp
    cases hv with
    | cons hv1 hv2 =>
      cases hv2 with
      | cons hv2 hv3 =>
        cases hv3
        cases hv1 with
        | iface hv1 =>
          cases hv1
          cases hv2 with
          | iface hv2 =>
            cases hv2 with
            | @ptr _ _ Bk bs hm =>
              obtain ⟨C, el, fz, k1, k2, k3, _⟩ := hr.cellsM hget hm
              obtain ⟨k4, k5⟩ := k3 rfl
              obtain ⟨q1, _, q3⟩ := k2
              simp only [List.length_singleton] at q1 q3
              have hbs : bs < C.size := by omega
              have hC : C[bs]? = some (I x) := by
                rw [Array.getElem?_eq_getElem hbs]
                rw [List.drop_eq_getElem_cons (by simpa using hbs)] at q3
                simp only [List.take_succ_cons, List.take_zero] at q3
                cases q3 with
                | cons a b =>
                  have : C.toList[bs] = I x := by
                    generalize C.toList[bs] = y at a
                    cases a
                    rfl
                  rw [← this]; simp
              have hcell : w.cell? ⟨Bk, bs, none⟩ = some (I x) := by
                unfold World.cell?
                rw [k1]
                simp [hC]
              have hfro : w.frozen? ⟨Bk, bs, none⟩ = false := by
                unfold World.frozen?
                rw [k1]
                have := k5 bs hbs
                simp only [not_and, Nat.not_lt] at this
                simp
                exact this
              have hg' : w.cell? ⟨0, 0, none⟩ = some (.iface 154 (.agg #[.pointer (some ⟨2, 38, none⟩)])) := by
                have h0 : 0 < w0.heap.size := World.block_lt_of_cell? w0 ⟨0, 0, none⟩ hg
                rw [← hg]
                unfold World.cell?
                rw [show w.heap[(⟨0, 0, none⟩ : Addr).block]? = w0.heap[(⟨0, 0, none⟩ : Addr).block]? from hr.base.block 0 h0]
              have hit := as_hit e1 ⟨Bk, bs, none⟩ (I x) w hg' hcell hfro
              refine hit.mono ?_
              rintro ev w' ⟨rfl, hw⟩
              generalize hw4 : ((((w.alloc (.cells #[.pointer (some ⟨Bk, bs, none⟩)] 119)).alloc (.cells #[.pointer (some ⟨2, 119, none⟩), .pointer (some ⟨w.heap.size, 0, none⟩), .int .u64 150] 135)).alloc (.cells #[.pointer (some ⟨2, 119, none⟩), .pointer (some ⟨w.heap.size, 0, none⟩), .int .u64 150] 135)).alloc (.cells #[.int .i64 e1] 77)) = w4 at hw
              have hext : Ext w w4 := by
                rw [← hw4]
                exact ((ext_push _ _).trans (ext_push _ _)).trans ((ext_push _ _).trans (ext_push _ _))
              have hr4 := hr.grow hext
              have hb4 := hext.some k1
              obtain ⟨hmod, hset⟩ := mod_set (bs := bs) (v := I e1) hb4
              have hr5 := hr4.mod (x' := .cells [I e1] true) hmod hget rfl hm k4 rfl (by
                intro cs rw e
                injection e with e1 e2
                subst e1
                refine ⟨_, el, fz, hset, ⟨by simpa using q1, by simp [one], ?_⟩, ?_⟩
                · have hl : bs < (C.setIfInBounds bs (I e1)).toList.length := by simpa using hbs
                  rw [List.drop_eq_getElem_cons hl]
                  simp only [List.length_singleton, List.take_succ_cons, List.take_zero]
                  have : (C.setIfInBounds bs (I e1)).toList[bs] = I e1 := by simp
                  rw [this]
                  exact .cons (.int _ _) .nil
                · intro i hi
                  exact k5 i (by simpa using hi)) (fun es e => by simp at e)
              refine ⟨[B true], _, _, m, ⟨rfl, rfl⟩, rfl, MLe.refl m, ?_, ?_, .bool true⟩
              · subst hw
                refine hr5.same ?_ ?_ ?_
                · rw [heapB_next]
                  simp only [AHeap.put]
                  rw [heapB_next]
                  rfl
                · intro i
                  rw [AHeap.get_put, heapB_get, heapB_get]
                  by_cases hi : i = Tryd.prog.globals.size + 0
                  · rw [if_pos hi, if_neg (by omega)]
                    have : i - Tryd.prog.globals.size = 0 := by omega
                    rw [this]; rfl
                  · rw [if_neg hi]
                    by_cases hlt : i < Tryd.prog.globals.size
                    · rw [if_pos hlt, if_pos hlt]
                    · rw [if_neg hlt, if_neg hlt]
                      have : ∃ k, i - Tryd.prog.globals.size = k + 1 := ⟨i - Tryd.prog.globals.size - 1, by omega⟩
                      obtain ⟨k, hk⟩ := this
                      rw [hk]; simp
                · rw [heapB_ty]
                  simp only [AHeap.put]
                  rw [heapB_ty]
              · subst hw
                exact (hext.keep hr.ext).trans (hmod.keep k4)
end Go.Proofs.YtadaindmgmielaaDoor
