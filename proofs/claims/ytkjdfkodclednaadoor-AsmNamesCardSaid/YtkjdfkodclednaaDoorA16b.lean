/- An abstract machine for one goroutine: stores to maps, 'delete', beside the model's. No condition. -/
import Derived.Test.YtkjdfkodclednaaDoorA16
import Derived.ChangeMaps4
namespace Go.Agm
open MapKept

variable {P : Program} {w0 : World} {m : MapN} {E : Nat → Prop} {fr : List AV} {h : AHeap} {a : Act} {w : World} {S : Nat → Nat}

open Classical in
noncomputable def upC (k v : Value) (cl : Nat) : List MapEntry → List MapEntry
  | [] => [{ key := k, val := v, born := cl }]
  | e :: r => if e.key = k then { e with key := k, val := v } :: r else e :: upC k v cl r
open Classical in
noncomputable def erC (k : Value) : List MapEntry → List MapEntry
  | [] => []
  | e :: r => if e.key = k then r else e :: erC k r

theorem upC_none {k v : Value} {cl : Nat} : ∀ {l : List MapEntry}, (∀ e ∈ l, e.key ≠ k) → upC k v cl l = l ++ [{ key := k, val := v, born := cl }]
  | [], _ => rfl
  | e :: r, h => by
    have := upC_none (k := k) (v := v) (cl := cl) (l := r) fun x hx => h x (List.mem_cons_of_mem _ hx)
    simp only [upC, if_neg (h e (List.mem_cons_self ..)), this]; rfl
theorem upC_some {k v : Value} {cl : Nat} : ∀ {l : List MapEntry} {j : Nat} {e0 : MapEntry}, (l.map (·.key)).Nodup → l[j]? = some e0 → e0.key = k → upC k v cl l = l.modify j fun e => { e with key := k, val := v }
  | [], j, e0, _, h, _ => by simp at h
  | e :: r, 0, e0, _, h, hk => by simp at h; subst h; simp [upC, hk]
  | e :: r, j + 1, e0, hn, h, hk => by
    simp only [List.map_cons, List.nodup_cons] at hn
    have hne : e.key ≠ k := by
      intro he
      refine hn.1 ?_
      rw [he, ← hk]
      exact List.mem_map_of_mem (List.mem_of_getElem? (by simpa using h))
    simp only [upC, if_neg hne, upC_some hn.2 (by simpa using h) hk, List.modify_succ_cons]
theorem erC_none {k : Value} : ∀ {l : List MapEntry}, (∀ e ∈ l, e.key ≠ k) → erC k l = l
  | [], _ => rfl
  | e :: r, h => by
    have := erC_none (k := k) (l := r) fun x hx => h x (List.mem_cons_of_mem _ hx)
    simp only [erC, if_neg (h e (List.mem_cons_self ..)), this]
theorem erC_some {k : Value} : ∀ {l : List MapEntry} {j : Nat} {e0 : MapEntry}, (l.map (·.key)).Nodup → l[j]? = some e0 → e0.key = k → erC k l = l.eraseIdx j
  | [], j, e0, _, h, _ => by simp at h
  | e :: r, 0, e0, _, h, hk => by simp at h; subst h; simp [erC, hk]
  | e :: r, j + 1, e0, hn, h, hk => by
    simp only [List.map_cons, List.nodup_cons] at hn
    have hne : e.key ≠ k := by
      intro he
      refine hn.1 ?_
      rw [he, ← hk]
      exact List.mem_map_of_mem (List.mem_of_getElem? (by simpa using h))
    simp only [erC, if_neg hne, erC_some hn.2 (by simpa using h) hk, List.eraseIdx_cons_succ]

theorem isKeyD_key {d : TypeDesc} {v : Value} (h : isKeyD d v = true) : IsKey d v := by
  unfold isKeyD at h
  split at h
  · simpa [IsKey] using h
  · trivial
  · simp at h
theorem isKeyD_eq {d : TypeDesc} {k k' : Value} (hk : isKeyD d k = true) (hv : V m S k k') : k' = k := by
  unfold isKeyD at hk
  split at hk
  · cases hv; rfl
  · cases hv; rfl
  · simp at hk
theorem isKeyD_V {d : TypeDesc} {k : Value} (hk : isKeyD d k = true) : V m S k k := by
  unfold isKeyD at hk
  split at hk
  · exact .int _ _
  · exact .str _
  · simp at hk
theorem key_same {d : TypeDesc} {k e1 e2 : Value} (hkk : isKeyD d k = true) (hv : V m S e1 e2) (hk : isKeyD d e1 = true) : keyEq k e1 = true ↔ e2 = k := by
  have he := isKeyD_eq hk hv
  subst he
  cases d with
  | int kd => cases k with
    | int k1 n => cases e2 with
      | int k2 n2 =>
        simp only [isKeyD, beq_iff_eq] at hkk hk
        subst hkk hk
        simp only [keyEq, beq_iff_eq, Value.int.injEq, true_and]
        exact eq_comm
      | _ => simp [isKeyD] at hk
    | _ => simp [isKeyD] at hkk
  | string => cases k with
    | string s1 => cases e2 with
      | string s2 =>
        simp only [keyEq, bytes_beq, Value.string.injEq]
        exact eq_comm
      | _ => simp [isKeyD] at hk
    | _ => simp [isKeyD] at hkk
  | _ => simp [isKeyD] at hkk

theorem up_rel {d : TypeDesc} {q : Value} {y y' : Value} {cl : Nat} (hq : isKeyD d q = true) (hy : V m S y y') : ∀ {es : List (Value × Value)} {en : List MapEntry}, VL m S (es.map (·.1)) (en.map (·.key)) → VL m S (es.map (·.2)) (en.map (·.val)) → (es.all fun e => isKeyD d e.1) = true →
    VL m S ((upsert q y es).map (·.1)) ((upC q y' cl en).map (·.key)) ∧ VL m S ((upsert q y es).map (·.2)) ((upC q y' cl en).map (·.val))
  | [], [], _, _, _ => ⟨.cons (isKeyD_V hq) .nil, .cons hy .nil⟩
  | [], _ :: _, h, _, _ => by cases h
  | _ :: _, [], h, _, _ => by cases h
  | e :: es, e' :: en, .cons h1 t1, .cons h2 t2, hk => by
    simp only [List.all_cons, Bool.and_eq_true] at hk
    have hkey := key_same hq h1 hk.1
    by_cases hc : e'.key = q
    · have hkey := hkey.2 hc
      simp only [upsert, hkey, cond_true, upC, if_pos hc]
      exact ⟨.cons (isKeyD_V hq) t1, .cons hy t2⟩
    · have hkey : keyEq q e.1 = false := by
        cases hh : keyEq q e.1 with
        | false => rfl
        | true => exact absurd (hkey.1 hh) hc
      simp only [upsert, hkey, cond_false, upC, if_neg hc]
      obtain ⟨k1, k2⟩ := up_rel (cl := cl) hq hy t1 t2 hk.2
      exact ⟨.cons h1 k1, .cons h2 k2⟩
theorem er_rel {d : TypeDesc} {q : Value} (hq : isKeyD d q = true) : ∀ {es : List (Value × Value)} {en : List MapEntry}, VL m S (es.map (·.1)) (en.map (·.key)) → VL m S (es.map (·.2)) (en.map (·.val)) → (es.all fun e => isKeyD d e.1) = true →
    VL m S ((eraseK q es).map (·.1)) ((erC q en).map (·.key)) ∧ VL m S ((eraseK q es).map (·.2)) ((erC q en).map (·.val))
  | [], [], _, _, _ => ⟨.nil, .nil⟩
  | [], _ :: _, h, _, _ => by cases h
  | _ :: _, [], h, _, _ => by cases h
  | e :: es, e' :: en, .cons h1 t1, .cons h2 t2, hk => by
    simp only [List.all_cons, Bool.and_eq_true] at hk
    have hkey := key_same hq h1 hk.1
    by_cases hc : e'.key = q
    · have hkey := hkey.2 hc
      simp only [eraseK, hkey, cond_true, erC, if_pos hc]
      exact ⟨t1, t2⟩
    · have hkey : keyEq q e.1 = false := by
        cases hh : keyEq q e.1 with
        | false => rfl
        | true => exact absurd (hkey.1 hh) hc
      simp only [eraseK, hkey, cond_false, erC, if_neg hc]
      obtain ⟨k1, k2⟩ := er_rel hq t1 t2 hk.2
      exact ⟨.cons h1 k1, .cons h2 k2⟩
/-- A search in a map, here and there. -/
theorem find_rel {d : TypeDesc} {q : Value} (hq : isKeyD d q = true) : ∀ {es : List (Value × Value)} {en : List MapEntry} (i : Nat), VL m S (es.map (·.1)) (en.map (·.key)) → VL m S (es.map (·.2)) (en.map (·.val)) → (es.all fun e => isKeyD d e.1) = true →
    (getK q es = none ∧ Instr.findNow d q en i = some none) ∨ ∃ j v v', getK q es = some v ∧ Instr.findNow d q en i = some (some (j, v')) ∧ V m S v v'
  | [], [], _, _, _, _ => .inl ⟨rfl, rfl⟩
  | [], _ :: _, _, h, _, _ => by cases h
  | _ :: _, [], _, h, _, _ => by cases h
  | e :: es, e' :: en, i, .cons h1 t1, .cons h2 t2, hk => by
    simp only [List.all_cons, Bool.and_eq_true] at hk
    have hkey := key_same hq h1 hk.1
    have h1' : V m S e.1 e'.key := h1
    have he : IsKey d e'.key := by rw [isKeyD_eq hk.1 h1']; exact isKeyD_key hk.1
    obtain ⟨r, hr, hiff⟩ := sameNow_of_keys (isKeyD_key hq) he
    cases r with
    | true =>
      have hc : keyEq q e.1 = true := hkey.2 (hiff.1 rfl).symm
      exact .inr ⟨i, e.2, e'.val, by simp only [getK, hc, cond_true], by simp [Instr.findNow, hr], h2⟩
    | false =>
      have hc : keyEq q e.1 = false := by
        cases hh : keyEq q e.1 with
        | false => rfl
        | true => have := hiff.2 (hkey.1 hh).symm; cases this
      rcases find_rel hq (i + 1) t1 t2 hk.2 with ⟨k1, k2⟩ | ⟨j, v, v', k1, k2, k3⟩
      · exact .inl ⟨by simp only [getK, hc, cond_false]; exact k1, by simp [Instr.findNow, hr, k2]⟩
      · exact .inr ⟨j, v, v', by simp only [getK, hc, cond_false]; exact k1, by simp [Instr.findNow, hr, k2], k3⟩

theorem keys_are {d : TypeDesc} : ∀ {es : List (Value × Value)} {en : List MapEntry}, VL m S (es.map (·.1)) (en.map (·.key)) → (es.all fun e => isKeyD d e.1) = true → ∀ x ∈ en, IsKey d x.key
  | [], [], _, _, x, hx => by simp at hx
  | [], _ :: _, h, _, _, _ => by cases h
  | _ :: _, [], h, _, _, _ => by cases h
  | e :: es, e' :: en, .cons h1 t1, hk, x, hx => by
    simp only [List.all_cons, Bool.and_eq_true] at hk
    rcases List.mem_cons.1 hx with rfl | hx
    · have h1 : V m S e.1 x.key := h1
      rw [isKeyD_eq hk.1 h1]; exact isKeyD_key hk.1
    · exact keys_are t1 hk.2 x hx

theorem mod_setBlock {B : Nat} {en en' : Array MapEntry} {cl cl' : Nat} (hB : w.heap[B]? = some (.map en cl)) : Mod w (ChangeMaps.setBlock w B (.map en' cl')) B := by
  have hlt := some_lt hB
  refine ⟨rfl, rfl, rfl, by simp [ChangeMaps.setBlock], fun i hi => ?_, ?_, ?_⟩
  · simp only [ChangeMaps.setBlock]
    rw [Array.getElem?_setIfInBounds_ne (Ne.symm hi)]
  · unfold szB
    simp only [ChangeMaps.setBlock]
    rw [Array.getElem?_setIfInBounds_self_of_lt hlt, hB]
  · intro C el fz e
    rw [hB] at e
    simp at e

theorem keyMap_some {t : TypeId} {x y : Value} {p : Nat × TypeDesc × List (Value × Value)} (e : keyMap P t x y h = some p) :
    ∃ kt et, P.underlying t = some (.map kt et) ∧ P.underlying kt = some p.2.1 ∧ x = .map (some p.1) ∧ isKeyD p.2.1 y = true ∧ h.get p.1 = some (.map p.2.2) := by
  unfold keyMap at e
  split at e
  · rename_i kt et b hu
    split at e
    · rename_i d es hk hg
      cases hc : isKeyD d y with
      | false => rw [hc] at e; simp at e
      | true =>
        rw [hc] at e
        simp only [cond_true, Option.some.injEq] at e
        subst e
        exact ⟨kt, et, hu, hk, rfl, hc, hg⟩
    · simp at e
  · simp at e

theorem mapUpdate_sound (hr : Rel P w0 m E fr h a w) {t : TypeId} {x k y x' k' y' : Value} {p : Nat × TypeDesc × List (Value × Value)} (e : keyMap P t x k h = some p) (hk : (p.2.2.all fun e => isKeyD p.2.1 e.1) = true) (hx : V m (szB w) x x') (hkk : V m (szB w) k k') (hy : V m (szB w) y y') :
    ∃ w', (Instr.mapUpdate t x' k' y').run P w = .ok () w' ∧ Rel P w0 m E fr (h.put p.1 (.map (upsert k y p.2.2))) a w' ∧ Keep E w w' := by
  obtain ⟨kt, et, hu, hkt, rfl, hq, hg⟩ := keyMap_some e
  obtain ⟨n, kd, es⟩ := p
  simp only at hk hkt hkk hq hg ⊢
  have hkeq := isKeyD_eq hq hkk
  subst hkeq
  obtain ⟨B, en, cl, k1, k2, k3, k4, k5, k6⟩ := hr.hr.maps n es hg
  cases hx with
  | map hm =>
  rw [k1] at hm
  injection hm with hm
  injection hm with hm _
  subst hm
  obtain ⟨r1, r2⟩ := up_rel (cl := cl) hq hy k4 k5 hk
  have hkey : IsKey kd k' := isKeyD_key hq
  rcases findNow_spec hkey en.toList 0 (keys_are k4 hk) with ⟨h1, h2⟩ | ⟨j, e0, h1, h2, h3⟩
  · refine ⟨ChangeMaps.setBlock w B (.map (en.push ⟨k', y', cl⟩) (cl + 1)), ?_, ?_, (mod_setBlock k2).keep k3⟩
    · simp [Instr.mapUpdate, run_underlying' hu, MapKept.run_getObj_map k2, run_checkKey hkt hkey, run_findKey hkt h1, MapKept.run_setObj_map _ k2, Result.andThen, ChangeMaps.setBlock]
    · refine hr.mod (mod_setBlock k2) hg rfl k1 k3 rfl (fun _ _ hh => by simp at hh) fun es' hh => ?_
      injection hh with hh
      subst hh
      rw [upC_none h2] at r1 r2
      exact ⟨rfl, _, _, by simp only [ChangeMaps.setBlock]; rw [Array.getElem?_setIfInBounds_self_of_lt (some_lt k2)], by simpa using r1, by simpa using r2, stamped_push k6 h2⟩
  · have hj : en[j]? = some e0 := by simpa using h2
    refine ⟨ChangeMaps.setBlock w B (.map (en.modify j fun e => { e with key := k', val := y' }) cl), ?_, ?_, (mod_setBlock k2).keep k3⟩
    · simp [Instr.mapUpdate, run_underlying' hu, MapKept.run_getObj_map k2, run_checkKey hkt hkey, run_findKey hkt h1, hj, h3, run_keyThatStays hkey, MapKept.run_setObj_map _ k2, Result.andThen, ChangeMaps.setBlock]
    · refine hr.mod (mod_setBlock k2) hg rfl k1 k3 rfl (fun _ _ hh => by simp at hh) fun es' hh => ?_
      injection hh with hh
      subst hh
      have h2' : en.toList[j]? = some e0 := h2
      rw [upC_some k6.2.2 h2' h3] at r1 r2
      refine ⟨rfl, en.modify j (fun e => { e with key := k', val := y' }), cl, by simp only [ChangeMaps.setBlock]; rw [Array.getElem?_setIfInBounds_self_of_lt (some_lt k2)], by simpa using r1, by simpa using r2, stamped_modify k6 _ _ (fun _ _ => rfl) (fun e' _ he' => ?_)⟩
      rw [hj] at he'
      injection he' with he'
      subst he'
      exact h3.symm

theorem mapDelete_sound (hr : Rel P w0 m E fr h a w) {t t2 ty : TypeId} {x k x' k' : Value} {p : Nat × TypeDesc × List (Value × Value)} (e : keyMap P t x k h = some p) (hk : (p.2.2.all fun e => isKeyD p.2.1 e.1) = true) (hx : V m (szB w) x x') (hkk : V m (szB w) k k') :
    ∃ w', (Builtin.delete_ #[t, t2] ty #[x', k']).run P w = .ok (.tuple #[]) w' ∧ Rel P w0 m E fr (h.put p.1 (.map (eraseK k p.2.2))) a w' ∧ Keep E w w' := by
  obtain ⟨kt, et, hu, hkt, rfl, hq, hg⟩ := keyMap_some e
  obtain ⟨n, kd, es⟩ := p
  simp only at hk hkt hkk hq hg ⊢
  have hkeq := isKeyD_eq hq hkk
  subst hkeq
  obtain ⟨B, en, cl, k1, k2, k3, k4, k5, k6⟩ := hr.hr.maps n es hg
  cases hx with
  | map hm =>
  rw [k1] at hm
  injection hm with hm
  injection hm with hm _
  subst hm
  obtain ⟨r1, r2⟩ := er_rel hq k4 k5 hk
  have hkey : IsKey kd k' := isKeyD_key hq
  rcases findNow_spec hkey en.toList 0 (keys_are k4 hk) with ⟨h1, h2⟩ | ⟨j, e0, h1, h2, h3⟩
  · refine ⟨ChangeMaps.setBlock w B (.map en cl), ?_, ?_, (mod_setBlock k2).keep k3⟩
    · simp [Builtin.delete_, run_underlying' hu, MapKept.run_getObj_map k2, run_checkKey hkt hkey, run_findKey hkt h1, MapKept.run_setObj_map _ k2, Result.andThen, ChangeMaps.setBlock]
    · refine hr.mod (mod_setBlock k2) hg rfl k1 k3 rfl (fun _ _ hh => by simp at hh) fun es' hh => ?_
      injection hh with hh
      subst hh
      rw [erC_none h2] at r1 r2
      exact ⟨rfl, _, _, by simp only [ChangeMaps.setBlock]; rw [Array.getElem?_setIfInBounds_self_of_lt (some_lt k2)], r1, r2, k6⟩
  · have hjs : j < en.size := by simpa using (List.getElem?_eq_some_iff.1 h2).1
    have hsub : (en.eraseIdxIfInBounds j).toList = en.toList.eraseIdx j := by
      unfold Array.eraseIdxIfInBounds
      rw [dif_pos hjs]
      simp
    refine ⟨ChangeMaps.setBlock w B (.map (en.eraseIdxIfInBounds j) cl), ?_, ?_, (mod_setBlock k2).keep k3⟩
    · simp [Builtin.delete_, run_underlying' hu, MapKept.run_getObj_map k2, run_checkKey hkt hkey, run_findKey hkt h1, MapKept.run_setObj_map _ k2, Result.andThen, ChangeMaps.setBlock]
    · refine hr.mod (mod_setBlock k2) hg rfl k1 k3 rfl (fun _ _ hh => by simp at hh) fun es' hh => ?_
      injection hh with hh
      subst hh
      rw [erC_some k6.2.2 h2 h3] at r1 r2
      exact ⟨rfl, _, _, by simp only [ChangeMaps.setBlock]; rw [Array.getElem?_setIfInBounds_self_of_lt (some_lt k2)], by rw [hsub]; exact r1, by rw [hsub]; exact r2, stamped_erase k6 j⟩

theorem zeroM_some {t : TypeId} {z : Value} (e : zeroM P t = some z) : ∃ kt et, P.underlying t = some (.map kt et) ∧ (P.info? et).bind (·.zero) = some z ∧ plainD 3 z = true := by
  unfold zeroM at e
  split at e
  · rename_i kt et hu
    split at e
    · rename_i z' hz
      cases hc : plainD 3 z' with
      | false => rw [hc] at e; simp at e
      | true =>
        rw [hc] at e
        simp only [cond_true, Option.some.injEq] at e
        subst e
        exact ⟨kt, et, hu, hz, hc⟩
    · simp at e
  · simp at e
theorem lookup_sound (hr : Rel P w0 m E fr h a w) {t : TypeId} {x k x' k' z : Value} {p : Nat × TypeDesc × List (Value × Value)} (e : keyMap P t x k h = some p) (hk : (p.2.2.all fun e => isKeyD p.2.1 e.1) = true) (hz : zeroM P t = some z) (hx : V m (szB w) x x') (hkk : V m (szB w) k k') (c : Bool) :
    (getK k p.2.2 = none ∧ (Instr.lookup t x' k' c).run P w = .ok (if c then .tuple #[z, .bool false] else z) w ∧ V m (szB w) z z) ∨
    ∃ v v', getK k p.2.2 = some v ∧ (Instr.lookup t x' k' c).run P w = .ok (if c then .tuple #[v', .bool true] else v') w ∧ V m (szB w) v v' := by
  obtain ⟨kt, et, hu, hkt, rfl, hq, hg⟩ := keyMap_some e
  obtain ⟨kt2, et2, hu2, hz1, hz2⟩ := zeroM_some hz
  rw [hu] at hu2
  injection hu2 with hu2
  injection hu2 with hu2 hu3
  subst hu2 hu3
  obtain ⟨n, kd, es⟩ := p
  simp only at hk hkt hkk hq hg ⊢
  have hkeq := isKeyD_eq hq hkk
  subst hkeq
  obtain ⟨B, en, cl, k1, k2, k3, k4, k5, k6⟩ := hr.hr.maps n es hg
  cases hx with
  | map hm =>
  rw [k1] at hm
  injection hm with hm
  injection hm with hm _
  subst hm
  have hkey : IsKey kd k' := isKeyD_key hq
  rcases find_rel hq 0 k4 k5 hk with ⟨h1, h2⟩ | ⟨j, v, v', h1, h2, h3⟩
  · refine .inl ⟨h1, ?_, V.of_plain 3 hz2⟩
    simp [Instr.lookup, run_underlying' hu, MapKept.run_getObj_map k2, run_checkKey hkt hkey, run_findKey hkt h2, run_zero hz1, Result.andThen]
  · refine .inr ⟨v, v', h1, ?_, h3⟩
    simp [Instr.lookup, run_underlying' hu, MapKept.run_getObj_map k2, run_checkKey hkt hkey, run_findKey hkt h2, Result.andThen]

end Go.Agm
