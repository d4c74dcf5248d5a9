/- errors.As at a number of an error, as a contract, where the library's one variable holds what it is laid with. No other condition. -/
import Derived.Test.YtkjdfkodclednaaGreatDoorKas
import Derived.Test.YtkjdfkodclednaaGreatDoorKa
import Derived.Test.YtkjdfkodclednaaGreatDoorZw
import Derived.Test.YtkjdfkodclednaaGreatDoorZt
import Derived.ProofKit
import Derived.HandedShaped
import Derived.LaidLaws
import Derived.LaidHandle
import Derived.LaidMore
import Derived.LaidSub
import Derived.JoinedOf
import Derived.Stop.Joined
import Derived.Lib.LaidU8
import Derived.OpenShut
namespace Go.Proofs.YtkjdfkodclednaaGreatDoor
section
open Go.Agm

/-- What the variable errors.errorType holds. -/
def Laid (w0 : World) : Prop := w0.cell? ⟨1, 0, none⟩ = some (.iface 201 (.agg #[.pointer (some ⟨11, 31, none⟩)]))

noncomputable def con61 : Con := { f := 61, gh := [], paths := [⟨1, [0], true⟩], spec := fun args bs => match args, bs with
  | [.iface 74 e, .iface 137 p], [some (.cells [.int .i64 _] true)] => match intV e with
    | some e => bif isPtr p 0 then some (True, [B true], [(true, some (.cells [.int .i64 e] true))]) else none
    | none => none
  | _, _ => none }

theorem mod_set {w : World} {Bk bs : Nat} {C : Array Value} {el : TypeId} {fz : Nat × Nat} {v : Value} (hb : w.heap[Bk]? = some (.cells C el fz)) :
    Mod w (w.setCell ⟨Bk, bs, none⟩ v) Bk ∧ (w.setCell ⟨Bk, bs, none⟩ v).heap[Bk]? = some (.cells (C.setIfInBounds bs v) el fz) := by
  have h1 : (w.setCell ⟨Bk, bs, none⟩ v).heap[Bk]? = some (.cells (C.setIfInBounds bs v) el fz) := by
    simp [World.setCell, Array.getElem?_modify, hb]
  refine ⟨⟨rfl, rfl, rfl, by simp [World.setCell], fun i hi => by simp [World.setCell, Array.getElem?_modify, Ne.symm hi], ?_, ?_⟩, h1⟩
  · unfold szB
    rw [h1, hb]
    simp
  · intro C' el' fz' e
    rw [hb] at e
    injection e with e
    injection e with e1 e2 e3
    subst e1 e2 e3
    exact ⟨_, _, h1⟩

theorem con61_ok {w0 : World} (hg : Laid w0) : con61.ok Tryz.prog w0 := by
  intro args bs p rs out e _
  simp only [con61] at e
  split at e <;> first | (simp at e; done) | skip
  split at e <;> first | (simp at e; done) | skip
  rename_i e0 p0 x _ e1 he1
  cases hq : isPtr p0 0 with
  | false => rw [hq] at e; simp at e
  | true =>
    rw [hq] at e
    simp only [cond_true, Option.some.injEq, Prod.mk.injEq] at e
    obtain ⟨rfl, rfl, rfl⟩ := e
    rw [intV_eq he1, isPtr_eq hq]
    change CallS Tryz.prog w0 61 [.iface 74 (I e1), .iface 137 (PT (Tryz.prog.globals.size + 0))] (heapB Tryz.prog.globals.size [some (.cells [I x] true)]) fun rs' h' => rs' = [B true] ∧ h' = heapB Tryz.prog.globals.size [some (.cells [I e1] true)]
    intro m E w args' hr hv he
    have hget : (heapB Tryz.prog.globals.size [some (.cells [I x] true)]).get (Tryz.prog.globals.size + 0) = some (.cells [I x] true) := by
      rw [heapB_get, if_neg (by omega)]
      simp
    cases hv with
    | cons hv1 hv2 =>
      cases hv2 with
      | cons hv2 hv3 =>
        cases hv3
        cases hv1 with
        | iface hv1 =>
          cases hv1
          cases hv2 with
          | iface hv2 =>
            cases hv2 with
            | @ptr _ _ Bk bs hm =>
              obtain ⟨C, el, fz, k1, k2, k3, _⟩ := hr.cellsM hget hm
              obtain ⟨k4, k5⟩ := k3 rfl
              obtain ⟨q1, _, q3⟩ := k2
              simp only [List.length_singleton] at q1 q3
              have hbs : bs < C.size := by omega
              have hC : C[bs]? = some (I x) := by
                rw [Array.getElem?_eq_getElem hbs]
                rw [List.drop_eq_getElem_cons (by simpa using hbs)] at q3
                simp only [List.take_succ_cons, List.take_zero] at q3
                cases q3 with
                | cons a b =>
                  have : C.toList[bs] = I x := by
                    generalize C.toList[bs] = y at a
                    cases a
                    rfl
                  rw [← this]; simp
              have hcell : w.cell? ⟨Bk, bs, none⟩ = some (I x) := by
                unfold World.cell?
                rw [k1]
                simp [hC]
              have hfro : w.frozen? ⟨Bk, bs, none⟩ = false := by
                unfold World.frozen?
                rw [k1]
                have := k5 bs hbs
                simp only [not_and, Nat.not_lt] at this
                simp
                exact this
              have hg' : w.cell? ⟨1, 0, none⟩ = some (.iface 201 (.agg #[.pointer (some ⟨11, 31, none⟩)])) := by
                have h0 : 1 < w0.heap.size := World.block_lt_of_cell? w0 ⟨1, 0, none⟩ hg
                rw [← hg]
                unfold World.cell?
                rw [show w.heap[(⟨1, 0, none⟩ : Addr).block]? = w0.heap[(⟨1, 0, none⟩ : Addr).block]? from hr.base.block 1 h0]
              have hit := as_hit e1 ⟨Bk, bs, none⟩ (I x) w hg' hcell hfro
              refine hit.mono ?_
              rintro ev w' ⟨rfl, hw⟩
              generalize hw4 : ((((w.alloc (.cells #[.pointer (some ⟨Bk, bs, none⟩)] 137)).alloc (.cells #[.pointer (some ⟨11, 137, none⟩), .pointer (some ⟨w.heap.size, 0, none⟩), .int .u64 150] 167)).alloc (.cells #[.pointer (some ⟨11, 137, none⟩), .pointer (some ⟨w.heap.size, 0, none⟩), .int .u64 150] 167)).alloc (.cells #[.int .i64 e1] 74)) = w4 at hw
              have hext : Ext w w4 := by
                rw [← hw4]
                exact ((ext_push _ _).trans (ext_push _ _)).trans ((ext_push _ _).trans (ext_push _ _))
              have hr4 := hr.grow hext
              have hb4 := hext.some k1
              obtain ⟨hmod, hset⟩ := mod_set (bs := bs) (v := I e1) hb4
              have hr5 := hr4.mod (x' := .cells [I e1] true) hmod hget rfl hm k4 rfl (by
                intro cs rw e
                injection e with e1 e2
                subst e1
                refine ⟨_, el, fz, hset, ⟨by simpa using q1, by simp [one], ?_⟩, ?_⟩
                · have hl : bs < (C.setIfInBounds bs (I e1)).toList.length := by simpa using hbs
                  rw [List.drop_eq_getElem_cons hl]
                  simp only [List.length_singleton, List.take_succ_cons, List.take_zero]
                  have : (C.setIfInBounds bs (I e1)).toList[bs] = I e1 := by simp
                  rw [this]
                  exact .cons (.int _ _) .nil
                · intro i hi
                  exact k5 i (by simpa using hi)) (fun es e => by simp at e)
              refine ⟨[B true], _, _, m, ⟨rfl, rfl⟩, rfl, MLe.refl m, ?_, ?_, .bool true⟩
              · subst hw
                refine hr5.same ?_ ?_ ?_
                · rw [heapB_next]
                  simp only [AHeap.put]
                  rw [heapB_next]
                  rfl
                · intro i
                  rw [AHeap.get_put, heapB_get, heapB_get]
                  by_cases hi : i = Tryz.prog.globals.size + 0
                  · rw [if_pos hi, if_neg (by omega)]
                    have : i - Tryz.prog.globals.size = 0 := by omega
                    rw [this]; rfl
                  · rw [if_neg hi]
                    by_cases hlt : i < Tryz.prog.globals.size
                    · rw [if_pos hlt, if_pos hlt]
                    · rw [if_neg hlt, if_neg hlt]
                      have : ∃ k, i - Tryz.prog.globals.size = k + 1 := ⟨i - Tryz.prog.globals.size - 1, by omega⟩
                      obtain ⟨k, hk⟩ := this
                      rw [hk]; simp
                · rw [heapB_ty]
                  simp only [AHeap.put]
                  rw [heapB_ty]
              · subst hw
                exact (hext.keep hr.ext).trans (hmod.keep k4)
end
section
open Go.Agm
variable {w0 : World}
abbrev nt0 : Nt := { gh := [], flags := [], paths := [], tr := [] }
theorem plain_I (a : Int) : PlainL [I a] := by
  intro x hx
  rw [List.mem_singleton] at hx
  subst hx; rfl
theorem eval11 (e : Int) (K : List Value → AHeap → Prop) :
    evSeg Tryz.f11 [con61] nt0 [.iface 74 (I e)] [] K = (((PlainL [I 0] ∧ True) ∧ (PlainL [I e] ∧ True) ∧ True) ∧ True ∧ K [I e] (heapB G [])) := by kernel_rfl
theorem eval11n (K : List Value → AHeap → Prop) :
    evSeg Tryz.f11 [] nt0 [.nilIface] [] K = (True ∧ K [I 0] (heapB G [])) := by kernel_rfl
noncomputable def con11k (e : Int) : Con := { f := 11, gh := [], paths := [], spec := fun args bs => match args, bs with
  | [v], [] => some (v = .iface 74 (I e) ∨ (v = .nilIface ∧ e = 0), [I e], [])
  | _, _ => none }
set_option maxRecDepth 100000 in
theorem con11k_ok (hg : Laid w0) (er : Int) : (con11k er).ok Tryz.prog w0 := by
  intro args bs p rs out e hp
  simp only [con11k] at e
  split at e <;> first | (simp at e; done) | skip
  simp only [Option.some.injEq, Prod.mk.injEq] at e
  obtain ⟨rfl, rfl, rfl⟩ := e
  rename_i v
  change CallS Tryz.prog w0 11 [v] (heapB Tryz.prog.globals.size []) fun rs' h' => rs' = [I er] ∧ h' = heapB Tryz.prog.globals.size []
  rcases hp with rfl | ⟨rfl, rfl⟩
  · refine ev_callS (nt := nt0) (cs := [con61]) (f := 11) (bs := []) Tryz.func11 (by kernel_rfl) (fun c hc => by
      simp only [List.mem_cons, List.not_mem_nil, or_false] at hc
      subst hc
      exact con61_ok hg) rfl ?_
    exact (eval11 er _).mpr ⟨⟨⟨plain_I 0, trivial⟩, ⟨plain_I er, trivial⟩, trivial⟩, trivial, rfl, rfl⟩
  · refine ev_callS (nt := nt0) (cs := []) (f := 11) (bs := []) Tryz.func11 (by kernel_rfl) (fun c hc => by simp at hc) rfl ?_
    exact (eval11n _).mpr ⟨trivial, rfl, rfl⟩
/-! speaks. -/
def sp8 : ByteArray := ⟨#[115, 101, 116, 32, 114, 48, 32, 50, 10, 101, 120, 105, 116, 10]⟩
def l8 : List Ins := [⟨0, 0, 0, 2⟩, ⟨20, 0, 0, 0⟩]
theorem parse8 : parseR sp8 = (none, l8) := by kernel_rfl
theorem text8 : textP l8 = (sp8, 0) := by kernel_rfl
end
section
open Go.Agm
variable {w0 : World}
theorem e8 (K : List Value → AHeap → Prop) : evSeg Tryz.f8 [con12p l8 [I 0, .nilIface], con9 sp8 .nilIface] nt0 [] [] K
    = ((True ∧ (PlainL (insC l8) ∧ True) ∧ sp8.size ≤ 100000 ∧ (parseP sp8).2 = l8 ∧ errV (parseP sp8).1 = [I 0, .nilIface]) ∧
      ((PlainL (insC l8) ∧ True) ∧ (PlainL (insC l8) ∧ True) ∧ insC l8 = insC (unIns (insC l8)) ∧ (unIns (insC l8)).length = 2 ∧ (textP (unIns (insC l8))).1 = sp8 ∧ errE (textP (unIns (insC l8))).2 = .nilIface) ∧
      True ∧ K [B true] (heapB G [])) := by kernel_rfl
noncomputable def con8 : Con := { f := 8, gh := [], paths := [], spec := fun args bs => match args, bs with
  | [], [] => some (True, [B true], [])
  | _, _ => none }
set_option maxRecDepth 100000 in
theorem con8_ok (hL : Lw w0) : con8.ok Tryz.prog w0 := by
  intro args bs p rs out e _
  simp only [con8] at e
  split at e <;> first | (simp at e; done) | skip
  simp only [Option.some.injEq, Prod.mk.injEq] at e
  obtain ⟨rfl, rfl, rfl⟩ := e
  change CallS Tryz.prog w0 8 [] (heapB Tryz.prog.globals.size []) fun rs' h' => rs' = [B true] ∧ h' = heapB Tryz.prog.globals.size []
  refine ev_callS (nt := nt0) (cs := [con12p l8 [I 0, .nilIface], con9 sp8 .nilIface]) (f := 8) (bs := []) Tryz.func8 (by kernel_rfl) (fun c hc => by
    simp only [List.mem_cons, List.not_mem_nil, or_false] at hc
    rcases hc with rfl | rfl
    · exact con12p_ok hL _ _
    · exact con9_ok hL _ _) rfl ?_
  have hp : parseP sp8 = (none, l8) := by rw [parse_eq, parse8]
  have hpl : PlainL (insC l8) ∧ True := ⟨plain_insC _, trivial⟩
  refine (e8 _).mpr ⟨⟨trivial, hpl, by decide, by rw [hp], by rw [hp]; rfl⟩, ⟨hpl, hpl, rfl, rfl, ?_, ?_⟩, trivial, rfl, rfl⟩
  · rw [unIns_insC, text8]
  · rw [unIns_insC, text8]; rfl
noncomputable def ft4 : FT := { loc := fun _ => false, mask := fun id => bif Nat.beq id 10 then live 58 [3, 6, 9] else [] }
abbrev nt4A : Nt := { gh := [], flags := [], paths := [⟨3, [], true⟩, ⟨6, [], true⟩], tr := [] }
noncomputable def t4 : List Item := todoOf Tryz.f4 10
abbrev seg4 (cs : List Con) (K : List Value → AHeap → Prop) (L : List Item → List AV → AHeap → Prop) (t : List Item) (fr : List AV) (h : AHeap) : Prop :=
  segK3 Tryz.prog ft4 (semI Tryz.prog (fun _ => ft0) (callsOf G cs) 400 20 (retT G nt0 K)) Tryz.f4 [10] 100 t fr (fun t fr h => match t with
  | .code (.region 10 _ _) :: _ => canonT G nt4A (L t) fr h
  | _ => False) h
noncomputable def fr4 (n m : Nat) (i : Int) : List AV := frm 58 [(3, .v (SL G n 4)), (6, .v (SL (G + 1) m 4)), (9, .v (I i))]
noncomputable def hp4 (a b : List Value) : AHeap := heapB G [some (.cells a true), some (.cells b true)]
end
section
open Go.Agm
variable {w0 : World}
abbrev PA2 (a b : List Value) : Prop := PlainL a ∧ PlainL b ∧ True
abbrev go4 (s : ByteArray) (o o2 : List Ins) (ln ln2 e e2 : Int) (v : Value) (K : List Value → AHeap → Prop) (L : List Item → List AV → AHeap → Prop) : Prop :=
  (True ∧ True ∧ True) ∧
  bif decide ((s.size : Int) > 3000) then True ∧ K [B true] (heapB G [])
  else (True ∧ (PlainL (insC o) ∧ True) ∧ s.size ≤ 100000 ∧ (parseP s).2 = o ∧ errV (parseP s).1 = [I ln, v]) ∧
    (True ∧ (PlainL (insC o2) ∧ True) ∧ s.size ≤ 100000 ∧ (parseR s).2 = o2 ∧ (parseR s).1.getD (0, 0) = (ln2, e2)) ∧
    (True ∧ True ∧ (v = .iface 74 (I e) ∨ (v = .nilIface ∧ e = 0))) ∧
    bif e != e2 then True ∧ K [B false] (heapB G [])
    else bif ln != ln2 then True ∧ K [B false] (heapB G [])
    else bif (o.length : Int) != (o2.length : Int) then True ∧ K [B false] (heapB G [])
    else PA2 (insC o) (insC o2) ∧ L t4 (fr4 o.length o2.length 0) (hp4 (insC o) (insC o2))
theorem s4e (s : ByteArray) (o o2 : List Ins) (ln ln2 e e2 : Int) (K : List Value → AHeap → Prop) (L : List Item → List AV → AHeap → Prop) : seg4 [con8, con12p o [I ln, .iface 74 (I e)], con13p o2 ln2 e2, con11k e] K L [.code (Tryz.f4.body.getD .skip)] (startF Tryz.f4 [.string s]) (heapB G [])
    = go4 s o o2 ln ln2 e e2 (.iface 74 (I e)) K L := by kernel_rfl
theorem s4n (s : ByteArray) (o o2 : List Ins) (ln ln2 e e2 : Int) (K : List Value → AHeap → Prop) (L : List Item → List AV → AHeap → Prop) : seg4 [con8, con12p o [I ln, .nilIface], con13p o2 ln2 e2, con11k e] K L [.code (Tryz.f4.body.getD .skip)] (startF Tryz.f4 [.string s]) (heapB G [])
    = go4 s o o2 ln ln2 e e2 .nilIface K L := by kernel_rfl
abbrev eq4 (a b : List Value) (i : Int) : Bool := intO (nth a (at4 i 0)) == intO (nth b (at4 i 0)) && (intO (nth a (at4 i 1)) == intO (nth b (at4 i 1)) && (intO (nth a (at4 i 2)) == intO (nth b (at4 i 2)) && (intO (nth a (at4 i 3)) == intO (nth b (at4 i 3)) && true)))
theorem h4 (n m : Nat) (i : Int) (a b : List Value) (K : List Value → AHeap → Prop) (L : List Item → List AV → AHeap → Prop) : seg4 [] K L t4 (fr4 n m i) (hp4 a b)
    = (bif decide (i < (m : Int)) then
      bif decide (0 ≤ i) && decide (i < (n : Int)) then
      bif ok4 a i then
      bif decide (0 ≤ i) && decide (i < (m : Int)) then
      bif ok4 b i then
      bif !eq4 a b i then True ∧ K [B false] (heapB G [])
      else PA2 a b ∧ L t4 (fr4 n m (w (i + 1))) (hp4 a b)
      else False
      else False
      else False
      else False
    else True ∧ K [B true] (heapB G [])) := by kernel_rfl
abbrev Sem4 (w0 : World) (K : List Value → AHeap → Prop) (t : List Item) (fr : List AV) (h : AHeap) : Prop := Agm.Sem Tryz.prog w0 (Tryz.prog.globals.size + nt0.flags.length) Tryz.f4 (retT Tryz.prog.globals.size nt0 K) t fr h
theorem leaf4 {K : List Value → AHeap → Prop} : ∀ t fr h, (match t with
    | .code (.region 10 _ _) :: _ => canonT G nt4A (Sem4 w0 K t) fr h
    | _ => False) → Sem4 w0 K t fr h := by
  intro t fr h e
  split at e
  · exact canonT_semN (nt := nt4A) rfl e
  · exact e.elim
theorem via4 {cs : List Con} (hc : ∀ c ∈ cs, c.ok Tryz.prog w0) {K : List Value → AHeap → Prop} {t : List Item} {fr : List AV} {h : AHeap} {R : Prop} (ev : seg4 cs K (Sem4 w0 K) t fr h = R) (r : R) : Sem4 w0 K t fr h :=
  seg_semI3 (F := ft4) mixed (callsOf_ok hc) leaf4 [10] 20 100 (ev.mpr r)
theorem eq4_same (l : List Ins) (i : Int) : eq4 (insC l) (insC l) i = true := by simp
theorem loop4 {K : List Value → AHeap → Prop} {l : List Ins} (hl : l.length ≤ 1000000) (hK : K [B true] (heapB G [])) : ∀ (q i : Nat), i + q = l.length → Sem4 w0 K t4 (fr4 l.length l.length i) (hp4 (insC l) (insC l)) := by
  intro q
  induction q with
  | zero =>
    intro i hi
    refine via4 okNo (h4 _ _ i _ _ K (Sem4 w0 K)) ?_
    rw [decide_eq_false (show ¬ (i : Int) < (l.length : Int) by omega)]
    exact ⟨trivial, hK⟩
  | succ q ih =>
    intro i hi
    refine via4 okNo (h4 _ _ i _ _ K (Sem4 w0 K)) ?_
    have hlt : i < l.length := by omega
    rw [decide_eq_true (show (i : Int) < (l.length : Int) by omega), decide_eq_true (show (0 : Int) ≤ (i : Int) by omega), (ok_insC hlt).1, eq4_same, w_succ (by omega)]
    exact ⟨⟨plain_insC l, plain_insC l, trivial⟩, ih (i + 1) (by omega)⟩
theorem go4_ok {K : List Value → AHeap → Prop} {s : ByteArray} {n e : Int} {v : Value} (hK : K [B true] (heapB G [])) (h1 : errV (parseR s).1 = [I n, v]) (h2 : (parseR s).1.getD (0, 0) = (n, e)) (h3 : v = .iface 74 (I e) ∨ (v = .nilIface ∧ e = 0)) (hl : (parseR s).2.length ≤ 1000000) :
    go4 s (parseR s).2 (parseR s).2 n n e e v K (Sem4 w0 K) := by
  refine ⟨⟨trivial, trivial, trivial⟩, ?_⟩
  by_cases hs : (s.size : Int) > 3000
  · rw [decide_eq_true hs]; exact ⟨trivial, hK⟩
  · rw [decide_eq_false hs]
    refine ⟨⟨trivial, ⟨plain_insC _, trivial⟩, by omega, by rw [parse_eq], by rw [parse_eq]; exact h1⟩, ⟨trivial, ⟨plain_insC _, trivial⟩, by omega, rfl, h2⟩, ⟨trivial, trivial, h3⟩, ?_⟩
    rw [bne_self_eq_false, bne_self_eq_false, bne_self_eq_false]
    exact ⟨⟨plain_insC _, plain_insC _, trivial⟩, loop4 hl hK _ 0 (Nat.zero_add _)⟩
theorem all4 (hL : Lw w0) (hg : Laid w0) {K : List Value → AHeap → Prop} {s : ByteArray} (hK : K [B true] (heapB G [])) (hl : (parseR s).2.length ≤ 1000000) (t : List Item) (fr : List AV)
    (se : ∀ (o o2 : List Ins) (ln ln2 e e2 : Int) (L : List Item → List AV → AHeap → Prop), seg4 [con8, con12p o [I ln, .iface 74 (I e)], con13p o2 ln2 e2, con11k e] K L t fr (heapB G []) = go4 s o o2 ln ln2 e e2 (.iface 74 (I e)) K L)
    (sn : ∀ (o o2 : List Ins) (ln ln2 e e2 : Int) (L : List Item → List AV → AHeap → Prop), seg4 [con8, con12p o [I ln, .nilIface], con13p o2 ln2 e2, con11k e] K L t fr (heapB G []) = go4 s o o2 ln ln2 e e2 .nilIface K L) : Sem4 w0 K t fr (heapB G []) := by
  have hc : ∀ (o o2 : List Ins) (ev : List Value) (ln e e' : Int), ∀ c ∈ [con8, con12p o ev, con13p o2 ln e, con11k e'], c.ok Tryz.prog w0 := fun o o2 ev ln e e' c hc => by
    simp only [List.mem_cons, List.not_mem_nil, or_false] at hc
    rcases hc with rfl | rfl | rfl | rfl
    · exact con8_ok hL
    · exact con12p_ok hL _ _
    · exact con13p_ok _ _ _
    · exact con11k_ok hg _
  cases h : (parseR s).1 with
  | none => exact via4 (hc _ _ _ _ _ _) (sn (parseR s).2 (parseR s).2 0 0 0 0 (Sem4 w0 K)) (go4_ok hK (by rw [h]; rfl) (by rw [h]; rfl) (.inr ⟨rfl, rfl⟩) hl)
  | some p =>
    obtain ⟨n, e⟩ := p
    exact via4 (hc _ _ _ _ _ _) (se (parseR s).2 (parseR s).2 n n e e (Sem4 w0 K)) (go4_ok hK (by rw [h]; rfl) (by rw [h]; rfl) (.inl rfl) hl)
end
section
open Go.Agm
open Go.ChangeShapes Go.WideShapes Go.ChangeAt Go.RowKit
theorem Tryz.own : ownKnob Tryz.prog.godebug = none := by kernel_rfl
theorem Tryz.laidOut : laidOutB Tryz.prog = true := by kernel_rfl
abbrev laidL : List (String × DataW Unit) := [("math/bits.deBruijn32tab", Rows.laid_math_bits_deBruijn32tab), ("math/bits.deBruijn64tab", Rows.laid_math_bits_deBruijn64tab), ("internal/strconv.uint64pow10", Rows.laid_internal_strconv_uint64pow10), ("unicode/utf8.acceptRanges", Rows.laid_unicode_utf8_acceptRanges), ("errors.errorType", Rows.laid_errors_errorType), ("strconv.ErrRange", Rows.laid_strconv_ErrRange), ("strconv.ErrSyntax", Rows.laid_strconv_ErrSyntax), ("posthorse/asm.forms", Rows.laid_posthorse_asm_forms), ("unicode/utf8.first", Rows.laid_unicode_utf8_first)]
theorem laidL_parses : Rows.asmParsesRow.laid = laidL := rfl
theorem laidL_texts : Rows.asmTextsRow.laid = laidL := rfl
/-- A world with the variables laid. -/
noncomputable def laidW (os : Os) : World :=
  { World.doorLaid Tryz.prog 110 os with heap := (World.doorLaid Tryz.prog 110 os).heap.modify 9 fun
      | .cells _ t frozen => .cells (Lib.firstTab.map (Value.int .u8)).toArray t frozen
      | o => o }
end
section
open Go.Agm
open Go.ChangeShapes Go.WideShapes Go.ChangeAt Go.RowKit
set_option maxRecDepth 100000
theorem laidW_met (os : Os) (args : Array Value) : laidMetH Tryz.prog laidL ((laidW os).forCall (fun _ _ => 0) ⟨#[], args, []⟩).memory :=
  laidMetH_of_parts3 (fuel := 8) (laidMet_of_run' 8 (by kernel_rfl) (by kernel_rfl)) (by kernel_rfl) (by kernel_rfl)
end
section
open Go.Agm
open Go.ChangeShapes Go.WideShapes Go.ChangeAt Go.RowKit
theorem Tryz.et : Tryz.prog.globalNamed "errors.errorType" = some 1 := by kernel_rfl
theorem Tryz.es : Tryz.prog.globalNamed "strconv.ErrSyntax" = some 5 := by kernel_rfl
theorem Tryz.er : Tryz.prog.globalNamed "strconv.ErrRange" = some 6 := by kernel_rfl
theorem Tryz.fm : Tryz.prog.globalNamed "posthorse/asm.forms" = some 0 := by kernel_rfl
theorem Tryz.rt : (Tryz.prog.cutTypes.find? (·.1 == "internal/reflectlite.rtype")).map (·.2) = some 201 := by kernel_rfl
theorem Tryz.oneRow : ((List.range Tryz.prog.types.size).filter fun t => Tryz.prog.rowNamed t [101, 114, 114, 111, 114]) = [31] := by kernel_rfl
theorem Tryz.g0 : (Tryz.prog.globals[0]?).map (·.type) = some 130 := by kernel_rfl
theorem Tryz.g4 : (Tryz.prog.globals[4]?).map (·.type) = some 235 := by kernel_rfl
theorem Tryz.g5 : (Tryz.prog.globals[5]?).map (·.type) = some 31 := by kernel_rfl
theorem Tryz.g6 : (Tryz.prog.globals[6]?).map (·.type) = some 31 := by kernel_rfl
theorem max_of {W : World} (h : W.ShapedOpen Tryz.prog) : ∃ m, W.cell? ⟨2, 0, none⟩ = some (.int .i64 m) :=
  cell_of_shapedOpen_int (zero := #[.int .i64 0]) (t := 3) h (of_decide_eq_true (by kernel_rfl)) (by kernel_rfl) rfl (by kernel_rfl) (by kernel_rfl) Tryz.underlying3
theorem pow_of {W : World} {l : List (String × DataW Unit)} (h : laidMet Tryz.prog l W) (hm : ("internal/strconv.uint64pow10", Rows.laid_internal_strconv_uint64pow10) ∈ l) : Lib.TabIs Tryz.prog W "internal/strconv.uint64pow10" .u64 Lib.pow10Tab := by
  obtain ⟨g', t', cs, fuel, p, hg, ht, hv, hd⟩ := Lib.laidMet.reads h hm
  obtain rfl := Option.some.inj (Tryz.pow_at.symm.trans hg)
  obtain rfl := Option.some.inj (Tryz.g4.symm.trans ht)
  have hD : (Rows.laid_internal_strconv_uint64pow10 : DataW Unit) = Lib.tabData .u64 Lib.pow10Tab := by kernel_rfl
  rw [hD] at hd
  unfold Lib.TabIs
  rw [hv, ← Lib.cells_of_tab Tryz.underlying235 Tryz.underlying219 (by kernel_rfl) (by kernel_rfl) hd]
theorem err_of {W : World} {l : List (String × DataW Unit)} (h : laidMet Tryz.prog l W) {n tn : String} {d : DataW Unit} {g : Nat} (hm : (n, DataW.iface tn d) ∈ l) (hg : Tryz.prog.globalNamed n = some g) (hty : (Tryz.prog.globals[g]?).map (·.type) = some 31) :
    ∃ ev, W.cell? ⟨g, 0, none⟩ = some ev ∧ (ev = .nilIface ∨ ∃ te pe, ev = .iface te pe) := by
  obtain ⟨g', t', cs, fuel, p, hg', ht, hv, hd⟩ := Lib.laidMet.reads h hm
  obtain rfl := Option.some.inj (hg.symm.trans hg')
  obtain rfl := Option.some.inj (hty.symm.trans ht)
  obtain ⟨f', u, v, hc, _, _⟩ := iface_of_trod Tryz.underlying31 hd
  refine ⟨.iface u v, ?_, .inr ⟨u, v, rfl⟩⟩
  have := World.var?_cell hg hv 0
  rw [Array.eq_one_of_toList hc] at this
  simpa using this
/-! The forms. -/
def formD (f : List UInt8 × Bool × Bool × Bool) : DataW Unit := .agg [.lit (.string f.1), .lit (.bool f.2.1), .lit (.bool f.2.2.1), .lit (.bool f.2.2.2)]
theorem forms_data : (Rows.laid_posthorse_asm_forms : DataW Unit) = .agg (forms.map formD) := by kernel_rfl
theorem four {α : Type} {l : List α} (h : l.length = 4) : ∃ a b c d, l = [a, b, c, d] := by
  match l, h with
  | [a, b, c, d], _ => exact ⟨a, b, c, d, rfl⟩
theorem form_read {W : World} {fuel : Nat} {cs : List Value} {f : List UInt8 × Bool × Bool × Bool} {p : List MemPlace} (h : DataW.trod (fun _ => ()) Tryz.prog W 0 (fun _ => true) false fuel 129 cs = some (formD f, p)) : cs = formC f := by
  obtain ⟨xs, n, rfl, hx, hl, hn, hel⟩ := DataW.trod_struct Tryz.underlying129 h
  rw [show Tryz.prog.cellsOf 129 = 4 by kernel_rfl] at hl
  obtain ⟨c0, c1, c2, c3, rfl⟩ := four hl
  obtain ⟨x0, x1, x2, x3, rfl⟩ := four (l := xs) hn
  have e0 : DataW.trod (fun _ => ()) Tryz.prog W 0 (fun _ => true) false n 9 (([c0, c1, c2, c3].drop 0).take (Tryz.prog.cellsOf 9)) = some x0 := hel 0 _ rfl
  have e1 : DataW.trod (fun _ => ()) Tryz.prog W 0 (fun _ => true) false n 4 (([c0, c1, c2, c3].drop 1).take (Tryz.prog.cellsOf 4)) = some x1 := hel 1 _ rfl
  have e2 : DataW.trod (fun _ => ()) Tryz.prog W 0 (fun _ => true) false n 4 (([c0, c1, c2, c3].drop 2).take (Tryz.prog.cellsOf 4)) = some x2 := hel 2 _ rfl
  have e3 : DataW.trod (fun _ => ()) Tryz.prog W 0 (fun _ => true) false n 4 (([c0, c1, c2, c3].drop 3).take (Tryz.prog.cellsOf 4)) = some x3 := hel 3 _ rfl
  have k4 : Tryz.prog.cellsOf 4 = 1 := by kernel_rfl
  have k9 : Tryz.prog.cellsOf 9 = 1 := by kernel_rfl
  rw [k9] at e0
  rw [k4] at e1 e2 e3
  obtain ⟨s, h0, y0, _⟩ := DataW.trod_string Tryz.underlying9 (x := x0) e0
  obtain ⟨b1, h1, y1⟩ := DataW.trod_bool Tryz.underlying4 (x := x1) e1
  obtain ⟨b2, h2, y2⟩ := DataW.trod_bool Tryz.underlying4 (x := x2) e2
  obtain ⟨b3, h3, y3⟩ := DataW.trod_bool Tryz.underlying4 (x := x3) e3
  subst y0 y1 y2 y3
  simp only [List.drop_zero, List.take_succ_cons, List.take_zero, List.drop_succ_cons, List.cons.injEq, and_true] at h0 h1 h2 h3
  subst h0 h1 h2 h3
  simp only [formD, List.map_cons, List.map_nil, Prod.mk.injEq, DataW.agg.injEq, List.cons.injEq, DataW.lit.injEq, Lit.string.injEq, Lit.bool.injEq, and_true] at hx
  obtain ⟨⟨q0, q1, q2, q3⟩, _⟩ := hx
  simp only [formC, SB]
  rw [q1, q2, q3, q0]
theorem chunks : ∀ (fs : List (List UInt8 × Bool × Bool × Bool)) (cs : List Value), cs.length = fs.length * 4 → (∀ (i : Nat) f, fs[i]? = some f → (cs.drop (i * 4)).take 4 = formC f) → cs = fs.flatMap formC
  | [], cs, hl, _ => by simpa using hl
  | f :: r, cs, hl, h => by
    have h0 := h 0 f rfl
    rw [Nat.zero_mul, List.drop_zero] at h0
    have ih := chunks r (cs.drop 4) (by rw [List.length_drop, hl, List.length_cons]; omega) fun i g hg => by
      have := h (i + 1) g hg
      rw [List.drop_drop, show 4 + i * 4 = (i + 1) * 4 by omega]
      exact this
    rw [List.flatMap_cons, ← h0, ← ih, List.take_append_drop]
theorem tab_of {W : World} {l : List (String × DataW Unit)} (h : laidMet Tryz.prog l W) (hm : ("posthorse/asm.forms", Rows.laid_posthorse_asm_forms) ∈ l) : TabsOk Tryz.prog W tabF := by
  obtain ⟨g', t', cs, fuel, p, hg, ht, hv, hd⟩ := Lib.laidMet.reads h hm
  obtain rfl := Option.some.inj (Tryz.fm.symm.trans hg)
  obtain rfl := Option.some.inj (Tryz.g0.symm.trans ht)
  rw [forms_data] at hd
  have hcs : cs.toList = formsC := by
    obtain ⟨xs, n, rfl, hx, hl, hn, hel⟩ := DataW.trod_array Tryz.underlying130 hd
    rw [show Tryz.prog.cellsOf 130 = 84 by kernel_rfl] at hl
    rw [show Tryz.prog.cellsOf 129 = 4 by kernel_rfl] at hel
    refine chunks forms cs.toList hl fun i f hf => ?_
    have hi : i < 21 := (List.getElem?_eq_some_iff.1 hf).1
    have e := hel i hi
    have hxi : ∃ x, xs[i]? = some x := ⟨xs[i], List.getElem?_eq_getElem (by omega)⟩
    obtain ⟨x, hxx⟩ := hxi
    rw [hxx] at e
    have h1 : xs.map (·.1) = forms.map formD := by
      have := congrArg Prod.fst hx
      simp only [DataW.agg.injEq] at this
      exact this.symm
    have h2 : x.1 = formD f := by
      have := congrArg (·[i]?) h1
      simp only [List.getElem?_map, hxx, hf, Option.map_some, Option.some.injEq] at this
      exact this
    exact form_read (p := x.2) (by rw [e, ← h2])
  intro q hq
  rw [List.mem_singleton] at hq
  subst hq
  refine ⟨by decide +kernel, ?_⟩
  simp only [World.var?, Tryz.fm, Option.bind_some] at hv
  split at hv
  · rename_i C el fz hh
    injection hv with hv
    subst hv
    refine ⟨C, el, fz, hh, hcs, fun x hx => ?_⟩
    have : formsC.all (fun x => one x && plainD 3 x) = true := by kernel_rfl
    have h3 := List.all_eq_true.1 this x hx
    rw [Bool.and_eq_true] at h3
    exact h3
  · simp at hv
theorem laid_of {W : World} (h : laidMetH Tryz.prog laidL W) : Laid W := by
  have h' := (laidMetH_iff.1 h).2
  obtain ⟨name, u, ty, e1, e2, e3, e4, e5⟩ := h' ("errors.errorType", Rows.laid_errors_errorType) (List.mem_filter.2 ⟨by simp, by kernel_rfl⟩)
  have en : name = [101, 114, 114, 111, 114] := (Option.some.inj e1).symm
  subst en
  obtain rfl := Option.some.inj (Tryz.rt.symm.trans e2)
  have hm : ty ∈ (List.range Tryz.prog.types.size).filter fun t => Tryz.prog.rowNamed t [101, 114, 114, 111, 114] := List.mem_filter.2 ⟨List.mem_range.2 e3, e4⟩
  rw [Tryz.oneRow] at hm
  obtain rfl := List.mem_singleton.1 hm
  have hh : typeHandle Tryz.prog 31 = .pointer (some ⟨11, 31, none⟩) := by kernel_rfl
  rw [hh] at e5
  show W.cell? ⟨1, 0, none⟩ = _
  simpa using World.var?_cell Tryz.et e5 0
theorem lw_of {W : World} (h : laidMetH Tryz.prog laidL W) (hs : W.ShapedOpen Tryz.prog) : Lw W := by
  have h' := (laidMetH_iff.1 h).1
  have hgl : Tryz.prog.globals.size < W.heap.size := globals_lt hs (by kernel_rfl)
  rw [g11] at hgl
  refine ⟨⟨max_of hs, pow_of h' (List.mem_filter.2 ⟨by simp, by kernel_rfl⟩), err_of h' (tn := "*errors.errorString") (d := .ptr (.agg [.lit (.string [105, 110, 118, 97, 108, 105, 100, 32, 115, 121, 110, 116, 97, 120])])) (List.mem_filter.2 ⟨by simp [Rows.laid_strconv_ErrSyntax], by kernel_rfl⟩) Tryz.es Tryz.g5,
    err_of h' (tn := "*errors.errorString") (d := .ptr (.agg [.lit (.string [118, 97, 108, 117, 101, 32, 111, 117, 116, 32, 111, 102, 32, 114, 97, 110, 103, 101])])) (List.mem_filter.2 ⟨by simp [Rows.laid_strconv_ErrRange], by kernel_rfl⟩) Tryz.er Tryz.g6⟩, by omega, tab_of h' (List.mem_filter.2 ⟨by simp, by kernel_rfl⟩)⟩
theorem arg_str {P : Program} {W : World} {r : Reach} {b0 : Nat} {t : TypeId} {v : Value} (ht : P.underlying t = some .string) (h : Value.okWide P W r b0 t v) : ∃ s, v = .string s := by
  simp only [Value.okWide, ht, Cell.okWide] at h
  cases v <;> simp_all [Cell.ok]
/-- A row with a further condition on memory, where the world's shape is told too. -/
theorem handed_and_shaped {H : Type} {enc : TypeId × Value → H} {a : Assume} {C : Checked} {os : Os} {f : FuncId} {fn : Func} {s : ChangeSpec} {conds : List PathCond} {apart fresh handsOn again : Bool} {X : World → Array Value → Prop}
    (hX : ∀ (w w' : World) (args : Array Value), w.heap = w'.heap → X w args → X w' args)
    (own : ownKnob C.prog.godebug = none) (started : os.Started) (noInit : C.prog.inits.idxOf? f = none) (hfn : C.prog.funcs[f]? = some fn)
    (witness : ∃ (w : World) (tape : Tape) (i : Input), w.os = os ∧ (w.forCall tape i).Shaped C.prog ∧ i.vars = [] ∧ Input.okWide C.prog (w.forCall tape i) .any w.heap.size f i ∧
      ((s.pre enc C.prog fn conds apart (w.forCall tape i).memory i.args ∧ X (w.forCall tape i).memory i.args) ∧ sizedMet enc C.prog fn (OpenSpec.ofChange s) apart (w.forCall tape i).memory i.args) ∧ a.holds C.prog (lone (Frame.enter C.prog f i.args .normal) [] (w.forCall tape i)))
    (contract : ∀ (W : World) (base : Nat) (args : Array Value) (ds gs : List (DataW H)) (before : List MemPlace),
      (∀ (j : Nat) t v, fn.params[j]? = some t → args[j]? = some v → Value.okWide C.prog W .any base t v) →
      DataW.Whole enc C.prog fn.params.toList s.vars apart W args.toList ds gs before → X W args → W.ShapedOpen C.prog →
      Calls C.prog f args W fun e W' => ∃ v, e = .returned v ∧ s.post enc C.prog fn apart fresh handsOn again W args v W') :
    ReturnsInHanded a C os f .any (fun w args => (s.pre enc C.prog fn conds apart w args ∧ X w args) ∧ sizedMet enc C.prog fn (OpenSpec.ofChange s) apart w args) (s.post enc C.prog fn apart fresh handsOn again) := by
  refine returnsInHanded_of_calls own started noInit witness ?_
  intro w tape i _ hshape _ hok hpre _
  obtain ⟨_, _, _, fn', hfn', _, _, _, _, hval⟩ := hok
  have hee : fn' = fn := Option.some.inj (hfn'.symm.trans hfn)
  subst hee
  obtain ⟨⟨⟨ds, gs, before, hw, _⟩, hx⟩, _⟩ := hpre
  refine (contract (w.forCall tape i) w.heap.size i.args ds gs before hval (DataW.Whole.of_heap (w' := w.forCall tape i) (by rfl) hw) (hX _ _ _ (by rfl) hx) hshape).mono fun e W' ⟨v, he, hp⟩ => ?_
  subst he
  exact ChangeSpec.post_blind hp
end
section
open Go.Agm
variable {w0 : World}
theorem zip3_le : ∀ (a : List Ins) (b : List ByteArray) (c : List Int), (zip3 a b c).length ≤ a.length
  | [], _, _ => by simp [zip3]
  | _ :: _, [], _ => by simp [zip3]
  | _ :: _, _ :: _, [] => by simp [zip3]
  | x :: a, y :: b, z :: c => by
    have := zip3_le a b c
    simp only [zip3, List.length_cons]; omega
theorem res_len {d : Ds} (h : d.out.length ≤ 128) : (resR d).2.length ≤ 128 := by
  unfold resR
  cases h1 : rndR (plD d) false (zip3 d.out d.to d.lines) with
  | error e => simp
  | ok o =>
    dsimp only
    cases h2 : rndR (plD d) true (zip3 o d.to d.lines) with
    | error e => simp
    | ok o2 =>
      have a1 := rnd_len h1
      have a2 := rnd_len h2
      have a3 := zip3_le d.out d.to d.lines
      have a4 := zip3_le o d.to d.lines
      simp only
      omega
theorem par_len : ∀ (m : Nat) (d : Ds) (n : Nat) (b : List UInt8), DsOk d n → (parR m d n b).2.length ≤ 128
  | 0, _, _, _, _ => by simp [parR]
  | m + 1, d, n, b, h => by
    unfold parR
    match b with
    | [] => exact res_len h.len
    | c :: r =>
      dsimp only
      cases cutL (c :: r) with
      | none => simp
      | some p =>
        dsimp only
        cases hl : lineR d n ⟨⟨p.1⟩⟩ with
        | error e => simp
        | ok d' => exact par_len m d' (n + 1) p.2 (any_name h hl)
theorem parse_len (s : ByteArray) : (parseR s).2.length ≤ 128 := par_len _ _ _ _ ⟨Nat.zero_le _, rfl, rfl, rfl, Nat.zero_le _⟩
set_option maxRecDepth 100000 in
theorem call4 (hL : Lw w0) (hg : Laid w0) (s : ByteArray) : CallS Tryz.prog w0 4 [.string s] (heapB Tryz.prog.globals.size []) fun rs h => rs = [B true] ∧ h = heapB Tryz.prog.globals.size [] := by
  have hn : (heapB Tryz.prog.globals.size []).next = Tryz.prog.globals.size + nt0.flags.length := by rw [heapB_next]; rfl
  refine retT_call (nt := nt0) hn (call_sem (cd := Tryz.f4.body.getD .skip) Tryz.func4 (by kernel_rfl) ?_)
  rw [hn]
  generalize hK : (fun rs h => rs = [B true] ∧ h = heapB Tryz.prog.globals.size [] : List Value → AHeap → Prop) = K
  have hKK : K [B true] (heapB G []) := by rw [← hK]; exact ⟨rfl, rfl⟩
  clear hK
  have hl := parse_len s
  exact all4 hL hg (s := s) hKK (by omega) _ _ (fun o o2 ln ln2 e e2 L => s4e s o o2 ln ln2 e e2 K L) (fun o o2 ln ln2 e e2 L => s4n s o o2 ln ln2 e e2 K L)
end
end Go.Proofs.YtkjdfkodclednaaGreatDoor
