/- An abstract machine for one goroutine: stores to maps, 'delete', beside the model's. No condition. -/
import Derived.Test.YtadaindmgmielaaDoorA16
import Derived.ChangeMaps4
namespace Go.Agm
open MapKept

variable {P : Program} {w0 : World} {m : MapN} {E : Nat → Prop} {fr : List AV} {h : AHeap} {a : Act} {w : World} {S : Nat → Nat}

open Classical in
noncomputable def upC (k v : Value) (cl : Nat) : List MapEntry → List MapEntry
  | [] => [{ key := k, val := v, born := cl }]
  | e :: r => if e.key = k then { e with key := k, val := v } :: r else e :: upC k v cl r
open Classical in
noncomputable def erC (k : Value) : List MapEntry → List MapEntry
  | [] => []
  | e :: r => if e.key = k then r else e :: erC k r

theorem upC_none {k v : Value} {cl : Nat} : ∀ {l : List MapEntry}, (∀ e ∈ l, e.key ≠ k) → upC k v cl l = l ++ [{ key := k, val := v, born := cl }]
  | [], _ => rfl
  | e :: r, h => by
    have := upC_none (k := k) (v := v) (cl := cl) (l := r) fun x hx => h x (List.mem_cons_of_mem _ hx)
    simp only [upC, if_neg (h e (List.mem_cons_self ..)), this]; rfl
theorem upC_some {k v : Value} {cl : Nat} : ∀ {l : List MapEntry} {j : Nat} {e0 : MapEntry}, (l.map (·.key)).Nodup → l[j]? = some e0 → e0.key = k → upC k v cl l = l.modify j fun e => { e with key := k, val := v }
  | [], j, e0, _, h, _ => by simp at h
  | e :: r, 0, e0, _, h, hk => by simp at h; subst h; simp [upC, hk]
  | e :: r, j + 1, e0, hn, h, hk => by
    simp only [List.map_cons, List.nodup_cons] at hn
    have hne : e.key ≠ k := by
      intro he
      refine hn.1 ?_
      rw [he, ← hk]
      exact List.mem_map_of_mem (List.mem_of_getElem? (by simpa using h))
    simp only [upC, if_neg hne, upC_some hn.2 (by simpa using h) hk, List.modify_succ_cons]
theorem erC_none {k : Value} : ∀ {l : List MapEntry}, (∀ e ∈ l, e.key ≠ k) → erC k l = l
  | [], _ => rfl
  | e :: r, h => by
    have := erC_none (k := k) (l := r) fun x hx => h x (List.mem_cons_of_mem _ hx)
    simp only [erC, if_neg (h e (List.mem_cons_self ..)), this]
theorem erC_some {k : Value} : ∀ {l : List MapEntry} {j : Nat} {e0 : MapEntry}, (l.map (·.key)).Nodup → l[j]? = some e0 → e0.key = k → erC k l = l.eraseIdx j
  | [], j, e0, _, h, _ => by simp at h
  | e :: r, 0, e0, _, h, hk => by simp at h; subst h; simp [erC, hk]
  | e :: r, j + 1, e0, hn, h, hk => by
    simp only [List.map_cons, List.nodup_cons] at hn
    have hne : e.key ≠ k := by
      intro he
      refine hn.1 ?_
      rw [he, ← hk]
      exact List.mem_map_of_mem (List.mem_of_getElem? (by simpa using h))
    simp only [erC, if_neg hne, erC_some hn.2 (by simpa using h) hk, List.eraseIdx_cons_succ]

theorem key_same {kd : IntKind} {q : Int} {e1 e2 : Value} (hv : V m S e1 e2) (hk : isKeyI kd e1 = true) : keyEq (.int kd q) e1 = true ↔ e2 = .int kd q := by
  unfold isKeyI at hk
  split at hk
  · rename_i k n
    cases hv
    simp only [beq_iff_eq] at hk
    subst hk
    simp only [keyEq, beq_iff_eq, Value.int.injEq, true_and]
    exact eq_comm
  · simp at hk

theorem up_rel {kd : IntKind} {q : Int} {y y' : Value} {cl : Nat} (hy : V m S y y') : ∀ {es : List (Value × Value)} {en : List MapEntry}, VL m S (es.map (·.1)) (en.map (·.key)) → VL m S (es.map (·.2)) (en.map (·.val)) → (es.all fun e => isKeyI kd e.1) = true →
    VL m S ((upsert (.int kd q) y es).map (·.1)) ((upC (.int kd q) y' cl en).map (·.key)) ∧ VL m S ((upsert (.int kd q) y es).map (·.2)) ((upC (.int kd q) y' cl en).map (·.val))
  | [], [], _, _, _ => ⟨.cons (.int _ _) .nil, .cons hy .nil⟩
  | [], _ :: _, h, _, _ => by cases h
  | _ :: _, [], h, _, _ => by cases h
  | e :: es, e' :: en, .cons h1 t1, .cons h2 t2, hk => by
    simp only [List.all_cons, Bool.and_eq_true] at hk
    have hkey := key_same (q := q) h1 hk.1
    by_cases hc : e'.key = .int kd q
    · have hkey := hkey.2 hc
      simp only [upsert, hkey, cond_true, upC, if_pos hc]
      exact ⟨.cons (.int _ _) t1, .cons hy t2⟩
    · have hkey : keyEq (.int kd q) e.1 = false := by
        cases hh : keyEq (.int kd q) e.1 with
        | false => rfl
        | true => exact absurd (hkey.1 hh) hc
      simp only [upsert, hkey, cond_false, upC, if_neg hc]
      obtain ⟨k1, k2⟩ := up_rel (q := q) (cl := cl) hy t1 t2 hk.2
      exact ⟨.cons h1 k1, .cons h2 k2⟩
theorem er_rel {kd : IntKind} {q : Int} : ∀ {es : List (Value × Value)} {en : List MapEntry}, VL m S (es.map (·.1)) (en.map (·.key)) → VL m S (es.map (·.2)) (en.map (·.val)) → (es.all fun e => isKeyI kd e.1) = true →
    VL m S ((eraseK (.int kd q) es).map (·.1)) ((erC (.int kd q) en).map (·.key)) ∧ VL m S ((eraseK (.int kd q) es).map (·.2)) ((erC (.int kd q) en).map (·.val))
  | [], [], _, _, _ => ⟨.nil, .nil⟩
  | [], _ :: _, h, _, _ => by cases h
  | _ :: _, [], h, _, _ => by cases h
  | e :: es, e' :: en, .cons h1 t1, .cons h2 t2, hk => by
    simp only [List.all_cons, Bool.and_eq_true] at hk
    have hkey := key_same (q := q) h1 hk.1
    by_cases hc : e'.key = .int kd q
    · have hkey := hkey.2 hc
      simp only [eraseK, hkey, cond_true, erC, if_pos hc]
      exact ⟨t1, t2⟩
    · have hkey : keyEq (.int kd q) e.1 = false := by
        cases hh : keyEq (.int kd q) e.1 with
        | false => rfl
        | true => exact absurd (hkey.1 hh) hc
      simp only [eraseK, hkey, cond_false, erC, if_neg hc]
      obtain ⟨k1, k2⟩ := er_rel (q := q) t1 t2 hk.2
      exact ⟨.cons h1 k1, .cons h2 k2⟩

theorem keys_are {kd : IntKind} : ∀ {es : List (Value × Value)} {en : List MapEntry}, VL m S (es.map (·.1)) (en.map (·.key)) → (es.all fun e => isKeyI kd e.1) = true → ∀ x ∈ en, IsKey (.int kd) x.key
  | [], [], _, _, x, hx => by simp at hx
  | [], _ :: _, h, _, _, _ => by cases h
  | _ :: _, [], h, _, _, _ => by cases h
  | e :: es, e' :: en, .cons h1 t1, hk, x, hx => by
    simp only [List.all_cons, Bool.and_eq_true] at hk
    rcases List.mem_cons.1 hx with rfl | hx
    · have hk1 := hk.1
      unfold isKeyI at hk1
      split at hk1
      · rename_i k n he
        have h1 : V m S e.1 x.key := h1
        rw [he] at h1
        generalize x.key = z at h1
        cases h1
        simpa [IsKey] using hk1
      · simp at hk1
    · exact keys_are t1 hk.2 x hx

theorem mod_setBlock {B : Nat} {en en' : Array MapEntry} {cl cl' : Nat} (hB : w.heap[B]? = some (.map en cl)) : Mod w (ChangeMaps.setBlock w B (.map en' cl')) B := by
  have hlt := some_lt hB
  refine ⟨rfl, rfl, rfl, by simp [ChangeMaps.setBlock], fun i hi => ?_, ?_, ?_⟩
  · simp only [ChangeMaps.setBlock]
    rw [Array.getElem?_setIfInBounds_ne (Ne.symm hi)]
  · unfold szB
    simp only [ChangeMaps.setBlock]
    rw [Array.getElem?_setIfInBounds_self_of_lt hlt, hB]
  · intro C el fz e
    rw [hB] at e
    simp at e

theorem intMap_some {t : TypeId} {x y : Value} {p : Nat × IntKind × List (Value × Value)} (e : intMap P t x y h = some p) :
    ∃ kt et q, P.underlying t = some (.map kt et) ∧ P.underlying kt = some (.int p.2.1) ∧ x = .map (some p.1) ∧ y = .int p.2.1 q ∧ h.get p.1 = some (.map p.2.2) := by
  unfold intMap at e
  split at e
  · rename_i _ _ kt et b kk q hu
    split at e
    · rename_i kd es hk hg
      cases hc : (kk == kd) with
      | false => rw [hc] at e; simp at e
      | true =>
        rw [hc] at e
        simp only [cond_true, Option.some.injEq] at e
        subst e
        simp only [beq_iff_eq] at hc
        subst hc
        exact ⟨kt, et, q, hu, hk, rfl, rfl, hg⟩
    · simp at e
  · simp at e

theorem mapUpdate_sound (hr : Rel P w0 m E fr h a w) {t : TypeId} {x k y x' k' y' : Value} {p : Nat × IntKind × List (Value × Value)} (e : intMap P t x k h = some p) (hk : (p.2.2.all fun e => isKeyI p.2.1 e.1) = true) (hx : V m (szB w) x x') (hkk : V m (szB w) k k') (hy : V m (szB w) y y') :
    ∃ w', (Instr.mapUpdate t x' k' y').run P w = .ok () w' ∧ Rel P w0 m E fr (h.put p.1 (.map (upsert k y p.2.2))) a w' ∧ Keep E w w' := by
  obtain ⟨kt, et, q, hu, hkt, rfl, rfl, hg⟩ := intMap_some e
  obtain ⟨n, kd, es⟩ := p
  simp only at hk hkt hkk hg ⊢
  cases hkk
  obtain ⟨B, en, cl, k1, k2, k3, k4, k5, k6⟩ := hr.hr.maps n es hg
  cases hx with
  | map hm =>
  rw [k1] at hm
  injection hm with hm
  injection hm with hm _
  subst hm
  obtain ⟨r1, r2⟩ := up_rel (q := q) (cl := cl) hy k4 k5 hk
  have hkey : IsKey (.int kd) (.int kd q) := rfl
  rcases findNow_spec hkey en.toList 0 (keys_are k4 hk) with ⟨h1, h2⟩ | ⟨j, e0, h1, h2, h3⟩
  · refine ⟨ChangeMaps.setBlock w B (.map (en.push ⟨.int kd q, y', cl⟩) (cl + 1)), ?_, ?_, (mod_setBlock k2).keep k3⟩
    · simp [Instr.mapUpdate, run_underlying' hu, MapKept.run_getObj_map k2, run_checkKey hkt hkey, run_findKey hkt h1, MapKept.run_setObj_map _ k2, Result.andThen, ChangeMaps.setBlock]
    · refine hr.mod (mod_setBlock k2) hg rfl k1 k3 rfl (fun _ _ hh => by simp at hh) fun es' hh => ?_
      injection hh with hh
      subst hh
      rw [upC_none h2] at r1 r2
      exact ⟨rfl, _, _, by simp only [ChangeMaps.setBlock]; rw [Array.getElem?_setIfInBounds_self_of_lt (some_lt k2)], by simpa using r1, by simpa using r2, stamped_push k6 h2⟩
  · have hj : en[j]? = some e0 := by simpa using h2
    refine ⟨ChangeMaps.setBlock w B (.map (en.modify j fun e => { e with key := .int kd q, val := y' }) cl), ?_, ?_, (mod_setBlock k2).keep k3⟩
    · simp [Instr.mapUpdate, run_underlying' hu, MapKept.run_getObj_map k2, run_checkKey hkt hkey, run_findKey hkt h1, hj, h3, run_keyThatStays hkey, MapKept.run_setObj_map _ k2, Result.andThen, ChangeMaps.setBlock]
    · refine hr.mod (mod_setBlock k2) hg rfl k1 k3 rfl (fun _ _ hh => by simp at hh) fun es' hh => ?_
      injection hh with hh
      subst hh
      have h2' : en.toList[j]? = some e0 := h2
      rw [upC_some k6.2.2 h2' h3] at r1 r2
      refine ⟨rfl, en.modify j (fun e => { e with key := .int kd q, val := y' }), cl, by simp only [ChangeMaps.setBlock]; rw [Array.getElem?_setIfInBounds_self_of_lt (some_lt k2)], by simpa using r1, by simpa using r2, stamped_modify k6 _ _ (fun _ _ => rfl) (fun e' _ he' => ?_)⟩
      rw [hj] at he'
      injection he' with he'
      subst he'
      exact h3.symm

theorem mapDelete_sound (hr : Rel P w0 m E fr h a w) {t t2 ty : TypeId} {x k x' k' : Value} {p : Nat × IntKind × List (Value × Value)} (e : intMap P t x k h = some p) (hk : (p.2.2.all fun e => isKeyI p.2.1 e.1) = true) (hx : V m (szB w) x x') (hkk : V m (szB w) k k') :
    ∃ w', (Builtin.delete_ #[t, t2] ty #[x', k']).run P w = .ok (.tuple #[]) w' ∧ Rel P w0 m E fr (h.put p.1 (.map (eraseK k p.2.2))) a w' ∧ Keep E w w' := by
  obtain ⟨kt, et, q, hu, hkt, rfl, rfl, hg⟩ := intMap_some e
  obtain ⟨n, kd, es⟩ := p
  simp only at hk hkt hkk hg ⊢
  cases hkk
  obtain ⟨B, en, cl, k1, k2, k3, k4, k5, k6⟩ := hr.hr.maps n es hg
  cases hx with
  | map hm =>
  rw [k1] at hm
  injection hm with hm
  injection hm with hm _
  subst hm
  obtain ⟨r1, r2⟩ := er_rel (q := q) k4 k5 hk
  have hkey : IsKey (.int kd) (.int kd q) := rfl
  rcases findNow_spec hkey en.toList 0 (keys_are k4 hk) with ⟨h1, h2⟩ | ⟨j, e0, h1, h2, h3⟩
  · refine ⟨ChangeMaps.setBlock w B (.map en cl), ?_, ?_, (mod_setBlock k2).keep k3⟩
    · simp [Builtin.delete_, run_underlying' hu, MapKept.run_getObj_map k2, run_checkKey hkt hkey, run_findKey hkt h1, MapKept.run_setObj_map _ k2, Result.andThen, ChangeMaps.setBlock]
    · refine hr.mod (mod_setBlock k2) hg rfl k1 k3 rfl (fun _ _ hh => by simp at hh) fun es' hh => ?_
      injection hh with hh
      subst hh
      rw [erC_none h2] at r1 r2
      exact ⟨rfl, _, _, by simp only [ChangeMaps.setBlock]; rw [Array.getElem?_setIfInBounds_self_of_lt (some_lt k2)], r1, r2, k6⟩
  · have hjs : j < en.size := by simpa using (List.getElem?_eq_some_iff.1 h2).1
    have hsub : (en.eraseIdxIfInBounds j).toList = en.toList.eraseIdx j := by
      unfold Array.eraseIdxIfInBounds
      rw [dif_pos hjs]
      simp
    refine ⟨ChangeMaps.setBlock w B (.map (en.eraseIdxIfInBounds j) cl), ?_, ?_, (mod_setBlock k2).keep k3⟩
    · simp [Builtin.delete_, run_underlying' hu, MapKept.run_getObj_map k2, run_checkKey hkt hkey, run_findKey hkt h1, MapKept.run_setObj_map _ k2, Result.andThen, ChangeMaps.setBlock]
    · refine hr.mod (mod_setBlock k2) hg rfl k1 k3 rfl (fun _ _ hh => by simp at hh) fun es' hh => ?_
      injection hh with hh
      subst hh
      rw [erC_some k6.2.2 h2 h3] at r1 r2
      exact ⟨rfl, _, _, by simp only [ChangeMaps.setBlock]; rw [Array.getElem?_setIfInBounds_self_of_lt (some_lt k2)], by rw [hsub]; exact r1, by rw [hsub]; exact r2, stamped_erase k6 j⟩

end Go.Agm
