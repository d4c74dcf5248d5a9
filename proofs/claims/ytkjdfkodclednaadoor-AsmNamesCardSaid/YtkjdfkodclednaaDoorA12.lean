/- An abstract machine for one goroutine: append, copy, clear beside the model's. No condition. -/
import Derived.Test.YtkjdfkodclednaaDoorA11
namespace Go.Agm

variable {P : Program} {w0 : World} {m : MapN} {E : Nat → Prop} {fr : List AV} {h : AHeap} {a : Act} {w : World} {S : Nat → Nat}

theorem ok_run {α : Type} (x : α) : (pure x : Sem α).run P w = .ok x w := rfl

/-- What an append, a copy takes: the first j elements. -/
theorem source_run (hr : HRel P w0 m E h w) {size : Nat} {x x' : Value} {new : List Value} {n : Nat} (hx : V m (szB w) x x') (e : sourceA h size x = some new) (hc : countA x = some n) {j : Nat} (hj : j ≤ n) :
    (Builtin.lenOf x').run P w = .ok n w ∧ new.length = n * size ∧ (∀ z ∈ new, one z = true) ∧ ∃ ys, (Builtin.firstCells size j x').run P w = .ok ys w ∧ VL m (szB w) (new.take (j * size)) ys.toList := by
  unfold sourceA at e
  split at e
  · injection e with e; subst e
    simp only [countA, Option.some.injEq] at hc; subst hc
    cases hx
    exact ⟨rfl, by simp, by simp, #[], rfl, by simpa using VL.nil⟩
  · injection e with e; subst e
    simp only [countA, Option.some.injEq] at hc; subst hc
    have hj0 : j = 0 := by omega
    subst hj0
    cases hx with
    | slice hm hn hz hcc => exact ⟨rfl, by simp, by simp, #[], by simp [Builtin.firstCells, loadCells, loadCellsFrom], by simpa using VL.nil⟩
    | sempty => exact ⟨rfl, by simp, by simp, #[], by simp [Builtin.firstCells, loadCells, loadCellsFrom], by simpa using VL.nil⟩
    | sghost _ => exact ⟨rfl, by simp, by simp, #[], by simp [Builtin.firstCells], by simpa using VL.nil⟩
  · rename_i b off n' sz hne
    simp only [countA, Option.some.injEq] at hc; subst hc
    split at e
    · rename_i cs rw hg
      cases hb : Nat.ble (off + n' * size) cs.length with
      | false => rw [hb] at e; simp at e
      | true =>
        rw [hb, cond_true] at e
        injection e with e; subst e
        have hb' : off + n' * size ≤ cs.length := by simpa [Nat.ble_eq] using hb
        have hjs : j * size ≤ n' * size := Nat.mul_le_mul_right _ hj
        cases hx with
        | sempty => exact (hne rfl).elim
        | sghost _ => exact (hne rfl).elim
        | @slice _ _ _ _ B' bs' c hm hn hz hcc =>
          obtain ⟨C, el, fz, k2, k3, _⟩ := hr.cellsM hg hm
          have hlen : ((C.toList.drop (bs' + off)).take (j * size)).length = j * size := by have := k3.1; simp; omega
          have hload := run_loadCells_list (P := P) w ⟨B', bs' + off, none⟩ ((C.toList.drop (bs' + off)).take (j * size)) (by
            intro i v hi
            rw [addr_add, cell_at k2]
            have hin : i < j * size := by
              rcases Nat.lt_or_ge i (j * size) with hh | hh
              · exact hh
              · rw [List.getElem?_eq_none (by omega)] at hi; simp at hi
            rw [List.getElem?_take, if_pos hin, List.getElem?_drop] at hi
            simpa using hi)
          rw [hlen] at hload
          refine ⟨rfl, by simp; omega, fun z hz => k3.2.1 z (List.mem_of_mem_drop (List.mem_of_mem_take hz)), _, hload, ?_⟩
          refine .of_get (by show ((C.toList.drop (bs' + off)).take (j * size)).length = _; rw [hlen]; simp; omega) ?_
          intro i z hz
          show ∃ y, ((C.toList.drop (bs' + off)).take (j * size))[i]? = some y ∧ V m (szB w) z y
          rw [List.take_take, Nat.min_eq_left hjs] at hz
          have hi : i < j * size := by
            rcases Nat.lt_or_ge i (j * size) with hh | hh
            · exact hh
            · rw [List.getElem?_eq_none (by simp; omega)] at hz; simp at hz
          rw [List.getElem?_take, if_pos hi, List.getElem?_drop] at hz ⊢
          obtain ⟨y, hy, hvy⟩ := k3.get hz
          refine ⟨y, ?_, hvy⟩
          rw [show bs' + off + i = bs' + (off + i) by omega]
          simpa using hy
    · simp at e
  · rename_i s
    simp only [countA, Option.some.injEq] at hc; subst hc
    cases hs : (size == 1) with
    | false => rw [hs] at e; simp at e
    | true =>
      rw [hs, cond_true] at e
      injection e with e; subst e
      have hs' : size = 1 := by simpa using hs
      subst hs'
      cases hx
      refine ⟨rfl, by rw [List.length_map, Array.length_toList, Nat.mul_one]; rfl, ?_, _, rfl, ?_⟩
      · intro z hz
        simp only [List.mem_map] at hz
        obtain ⟨b, _, rfl⟩ := hz
        rfl
      · have : ((s.extract 0 j).data.map fun b => Value.int .u8 b.toNat).toList = (s.data.toList.map fun b => Value.int .u8 b.toNat).take (j * 1) := by
          simp [ByteArray.data_extract, List.extract_eq_take_drop]
        rw [this]
        refine VL.of_plain 0 ?_
        intro z hz
        have := List.mem_of_mem_take hz
        simp only [List.mem_map] at this
        obtain ⟨b, _, rfl⟩ := this
        rfl
  · simp at e

/-- A block takes a new name, what it holds and where it begins. -/
theorem Rel.rename (hr : Rel P w0 m E fr h a w) {w' : World} {b B bs bs' : Nat} {cs cs' : List Value} {C' : Array Value} {el : TypeId} {fz : Nat × Nat} (hb : h.get b = some (.cells cs true)) (hn : m b = some (B, bs)) (hE : ¬ E B)
    (hm : Mod w w' B) (hB : w'.heap[B]? = some (.cells C' el fz)) (hf : Free C' fz) (hv : VAt m (szB w) cs' C' bs') :
    Rel P w0 (fun i => if i = h.next then some (B, bs') else m i) E fr ((h.del b).new (.cells cs' true)) a w' := by
  have hfresh := hr.hr.fresh
  have hle : MLe m (fun i => if i = h.next then some (B, bs') else m i) := by
    intro i x hi
    show (if i = h.next then _ else _) = _
    rw [if_neg (by intro hh; subst hh; rw [hfresh] at hi; simp at hi)]
    exact hi
  have hother : ∀ i y B' bs'', i ≠ b → h.get i = some y → m i = some (B', bs'') → B' ≠ B := by
    intro i y B' bs'' hi hy hmi e
    subst e
    exact hi (hr.hr.inj b i _ y B' bs bs'' hb hy hn hmi rfl).symm
  have hlive : ∀ i y, ((h.del b).new (.cells cs' true)).get i = some y → (i = h.next ∧ y = .cells cs' true) ∨ (i ≠ h.next ∧ i ≠ b ∧ h.get i = some y) := by
    intro i y e
    rw [AHeap.get_new, AHeap.get_del] at e
    have : (h.del b).next = h.next := rfl
    rw [this] at e
    by_cases hi : i = h.next
    · rw [if_pos hi] at e; injection e with e; exact .inl ⟨hi, e.symm⟩
    · rw [if_neg hi] at e
      by_cases hb' : i = b
      · rw [if_pos hb'] at e; simp at e
      · rw [if_neg hb'] at e; exact .inr ⟨hi, hb', e⟩
  constructor
  · refine ⟨(hm.keep hE).below hr.hr.base hr.hr.out, hr.hr.out, fun i hi => by rw [hm.size]; exact hr.hr.ext i hi, fun g hg => hle _ _ (hr.hr.glob g hg), ?_, ?_, ?_, ?_, ?_, fun i t e => (hm.tyAt (hr.hr.ty i t e)).le hle⟩
    · intro i B' bs'' e
      have e' : (if i = h.next then some (B, bs') else m i) = some (B', bs'') := e
      by_cases hi : i = h.next
      · rw [if_pos hi] at e'
        injection e' with e'
        injection e' with e1 e2
        subst e1
        refine ⟨some_lt hB, ?_⟩
        rw [hi]; simp [AHeap.new, AHeap.del]
      · rw [if_neg hi] at e'
        refine ⟨by rw [hm.size]; exact (hr.hr.lt i B' bs'' e').1, ?_⟩
        have := (hr.hr.lt i B' bs'' e').2
        simp only [AHeap.new, AHeap.del]
        omega
    · intro i y e
      simp only [AHeap.new, AHeap.del]
      rcases hlive i _ e with ⟨hi, hy⟩ | ⟨hi, hib, hy⟩
      · omega
      · have := hr.hr.dom i y hy
        omega
    · intro i c rw' e
      rcases hlive i _ e with ⟨hi, hy⟩ | ⟨hi, hib, hy⟩
      · injection hy with h1 h2
        subst h1 h2
        exact .inr ⟨B, bs', C', el, fz, by show (if i = h.next then _ else _) = _; rw [if_pos hi], hB, hv.mono hle hm.slen, fun _ => ⟨hE, hf⟩, by simp⟩
      · rcases hr.hr.cells i c rw' hy with ⟨g1, g2, g3⟩ | ⟨B', bs'', C, el', fz', k1, k2, k3, k4, k5⟩
        · exact .inl ⟨g1, g2, by show (if i = h.next then _ else _) = _; rw [if_neg hi]; exact g3⟩
        exact .inr ⟨B', bs'', C, el', fz', hle _ _ k1, by rw [hm.block B' (hother i _ B' bs'' hib hy k1)]; exact k2, k3.mono hle hm.slen, k4, k5⟩
    · intro i es e
      rcases hlive i _ e with ⟨hi, hy⟩ | ⟨hi, hib, hy⟩
      · simp at hy
      · obtain ⟨B', en, cl, k1, k2, k3, k4, k5⟩ := hr.hr.maps i es hy
        exact ⟨B', en, cl, hle _ _ k1, by rw [hm.block B' (hother i _ B' 0 hib hy k1)]; exact k2, k3, k4.mono hle hm.slen, k5.1.mono hle hm.slen, k5.2⟩
    · intro i j y y' B' b1 b2 e e' n n' hown
      have n1 : (if i = h.next then some (B, bs') else m i) = some (B', b1) := n
      have n2 : (if j = h.next then some (B, bs') else m j) = some (B', b2) := n'
      rcases hlive i _ e with ⟨hi, hy⟩ | ⟨hi, hib, hy⟩
      · rcases hlive j _ e' with ⟨hj, hy'⟩ | ⟨hj, hjb, hy'⟩
        · rw [hi, hj]
        · rw [if_pos hi] at n1; rw [if_neg hj] at n2
          injection n1 with n1; injection n1 with n1 _
          exact absurd n1.symm (hother j y' B' b2 hjb hy' n2)
      · rcases hlive j _ e' with ⟨hj, hy'⟩ | ⟨hj, hjb, hy'⟩
        · rw [if_neg hi] at n1; rw [if_pos hj] at n2
          injection n2 with n2; injection n2 with n2 _
          exact absurd n2.symm (hother i y B' b1 hib hy n1)
        · rw [if_neg hi] at n1; rw [if_neg hj] at n2
          exact hr.hr.inj i j y y' B' b1 b2 hy hy' n1 n2 hown
  · refine hr.fr.move hle hm.slen (fun B' hl => ?_) (fun B' hl i y bs'' e n => ?_)
    · obtain ⟨C, el', fz', _, _, _, h6⟩ := hr.fr.local_some hl
      exact hm.block B' (fun hh => h6 b _ bs hb (by rw [hh]; exact hn))
    · obtain ⟨C, el', fz', _, _, _, h6⟩ := hr.fr.local_some hl
      have n1 : (if i = h.next then some (B, bs') else m i) = some (B', bs'') := n
      rcases hlive i _ e with ⟨hi, hy⟩ | ⟨hi, hib, hy⟩
      · rw [if_pos hi] at n1
        injection n1 with n1; injection n1 with n1 _
        exact h6 b _ bs hb (by rw [← n1]; exact hn)
      · rw [if_neg hi] at n1
        exact h6 i y bs'' hy n1

theorem srcD_or {d : TypeDesc} (h : srcD d = true) : (∃ e, d = .slice e) ∨ d = .string := by
  cases d <;> first | exact .inl ⟨_, rfl⟩ | exact .inr rfl | (simp [srcD] at h)

theorem room_le {n bytes : Nat} (e : room n bytes = true) : n * bytes ≤ 1099511627776 := by simpa [room, Nat.ble_eq] using e

set_option maxHeartbeats 8000000 in
/-- An append that takes nothing. -/
theorem append_nothing {t u ty e : TypeId} {xd : TypeDesc} {size : Nat} (hu : P.underlying t = some (.slice e)) (hx : P.underlying u = some xd) (hnz : srcD xd = true) (hs : sizeT P e = some size)
    {s x : Value} {A : Option Addr} {n c : Nat} (hsl : s = .slice A n c) (hn : n ≤ c) (hlen : (Builtin.lenOf x).run P w = .ok 0 w) {ys : Array Value} (hf : (Builtin.firstCells size 0 x).run P w = .ok ys w) (hys : ys.toList = []) :
    (Builtin.append_ #[t, u] ty #[s, x]).run P w = .ok s w := by
  subst hsl
  have hys' : ys = #[] := by rw [← Array.toList_inj]; simpa using hys
  subst hys'
  rcases srcD_or hnz with ⟨e', rfl⟩ | rfl <;> (cases A <;> simp [Builtin.append_, run_underlying' hu, run_underlying' hx, run_size hs, hlen, hf, hn, storeCells])

set_option maxHeartbeats 8000000 in
/-- An append where there is room. -/
theorem append_room {t u ty e : TypeId} {xd : TypeDesc} {size : Nat} (hu : P.underlying t = some (.slice e)) (hx : P.underlying u = some xd) (hnz : srcD xd = true) (hs : sizeT P e = some size)
    {x : Value} {B o n c k : Nat} (hn : n + k ≤ c) (hlen : (Builtin.lenOf x).run P w = .ok k w) {ys : Array Value} (hf : (Builtin.firstCells size k x).run P w = .ok ys w) (ho : ∀ y ∈ ys.toList, one y = true)
    {C : Array Value} {el : TypeId} {fz : Nat × Nat} (hB : w.heap[B]? = some (.cells C el fz)) (hfree : Free C fz) (hl : o + n * size + ys.size ≤ C.size) :
    (Builtin.append_ #[t, u] ty #[.slice (some ⟨B, o, none⟩) n c, x]).run P w = .ok (.slice (some ⟨B, o, none⟩) (n + k) c) (w.setCells B (o + n * size) ys.toList) := by
  have hc := run_storeCells_cells (P := P) B (o + n * size) ys.toList 0 w
    (fun j hj => by rw [cell_at hB, Nat.add_zero, Array.getElem?_eq_getElem (by simp at hj; omega)]; rfl)
    (fun j hj => by rw [Nat.add_zero]; exact frozen_at hB hfree (by simp at hj; omega))
    (fun v hv' => by rw [one_cell']; exact ho v hv')
  rw [Nat.add_zero] at hc
  rcases srcD_or hnz with ⟨e', rfl⟩ | rfl <;> simp [Builtin.append_, run_underlying' hu, run_underlying' hx, run_size hs, hlen, hf, hn, addr_add, hc]

set_option maxHeartbeats 8000000 in
/-- An append that makes a new row. -/
theorem append_grow {t u ty e : TypeId} {xd : TypeDesc} {i : TypeInfo} {z : Value} (hu : P.underlying t = some (.slice e)) (hx : P.underlying u = some xd) (hnz : srcD xd = true) (hi : P.info? e = some i) (hz : i.zero = some z)
    {x : Value} {A : Option Addr} {n c k : Nat} (hn : c < n + k) (hlen : (Builtin.lenOf x).run P w = .ok k w) {ys os : Array Value} (hf : (Builtin.firstCells i.size k x).run P w.drew = .ok ys w.drew) (hfo : (Builtin.firstCells i.size n (.slice A n c)).run P w.drew = .ok os w.drew)
    (hr : room (n + k) i.bytes = true) (hpos : 0 < i.bytes) :
    ∃ cap, (Builtin.append_ #[t, u] ty #[.slice A n c, x]).run P w = .ok (.slice (some ⟨w.heap.size, 0, none⟩) (n + k) cap)
      { w.drew with heap := w.drew.heap.push (.cells (os ++ ys ++ Builtin.zeroCells z.cells (cap - (n + k))) e) } ∧ n + k ≤ cap := by
  have hroom := room_le hr
  have h48 : Builtin.nextslicecap (n + k) c * i.bytes ≤ 281474976710656 := by
    have h1 := nextslicecap_le (need := n + k) (old := c) hn
    have h2 : Builtin.nextslicecap (n + k) c * i.bytes ≤ 2 * (n + k) * i.bytes := Nat.mul_le_mul_right _ h1
    rw [Nat.mul_assoc] at h2
    omega
  have h48' : ¬ (281474976710656 < Builtin.nextslicecap (n + k) c * i.bytes) := by omega
  have hnc : ¬ (n + k ≤ c) := by omega
  have hb0 : i.bytes ≠ 0 := by omega
  refine ⟨grownCap w (n + k) c e, ?_, ?_⟩
  · rcases srcD_or hnz with ⟨e', rfl⟩ | rfl <;> (simp [Builtin.append_, run_underlying' hu, run_underlying' hx, sizeOf, run_info hi, zeroValue, hz, hlen, hf, hfo, hnc, hb0, h48', Question.forced, newRow, grownCap]; rfl)
  · unfold grownCap
    simp only [Question.cut]
    omega

end Go.Agm
