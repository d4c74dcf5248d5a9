/- An abstract machine for one goroutine: neighbours change places; an operation comes to the front. No condition. -/
import Derived.Test.YtkjdfkodclednaaDoorA19d
namespace Go.Agm
variable {P : Program} {fr : List AV} {h : AHeap} {c : Calls1} {loc : Nat → Bool} {ops : Array Oper} {pre : Array Nat} {res : Res} {k : List AV → AHeap → Option Res}

/-- Two operations that are not bound to one another. -/
structure Apart (P : Program) (loc : Nat → Bool) (ops : Array Oper) (pre : Array Nat) (i j : Nat) (a b : Oper) : Prop where
  ne : i ≠ j
  tab : ∀ d, a.dst = some d → d ∉ namesA ops b
  tba : ∀ d, b.dst = some d → d ∉ namesA ops a
  cls : ¬ (2 ≤ clsA P loc a ∧ 2 ≤ clsA P loc b)
  ij : (pre.getD i 0).testBit j = false
  ji : (pre.getD j 0).testBit i = false

/-- What was done looks at nothing that is still to be written. -/
def Done (P : Program) (loc : Nat → Bool) (ops : Array Oper) (D : List Nat) (o : Oper) : Prop :=
  ∀ q ∈ D, ∀ oq, ops[q]? = some oq → clsA P loc oq = 1 → ∀ d, o.dst = some d → d ∉ namesA ops oq

theorem one_keep {D : List Nat} {i : Nat} {o : Oper} {x : AV} {h' : AHeap} (ho : One P loc c ops pre D i o fr h x h') (hc : clsA P loc o < 2) : h' = h := by
  obtain ⟨b, _, h1, h2⟩ := ho
  cases b with
  | false => exact (h2 rfl).2
  | true =>
    have he := (h1 rfl).1
    rcases Nat.lt_or_ge (clsA P loc o) 1 with hh | hh
    · exact (ev0 (by omega) he).1
    · exact (ev1 (by omega) he).1

theorem getF_put_same {d : Nat} {x : AV} (hn : getF (putF fr (some d) x) d ≠ .dead) : getF (putF fr (some d) x) d = x := by
  simp only [putF, getF, List.getD_eq_getElem?_getD, set_get] at hn ⊢
  by_cases hd : d < fr.length
  · simp [hd]
  · simp [hd] at hn

theorem looks_names {o : Oper} {d : Nat} (h : d ∉ namesA ops o) : d ∉ looksA ops o := fun hm => h (List.mem_append_right _ hm)
theorem dst_ne {a b : Oper} (h : ∀ d, a.dst = some d → d ∉ namesA ops b) : ∀ t, a.dst = some t → b.dst ≠ some t := fun t ht hb => h t ht (List.mem_append_left _ (by rw [hb]; simp))

theorem recheck_put {D : List Nat} {i : Nat} {o : Oper} {x : AV} (hd : Done P loc ops D o) (hn : ∀ t, o.dst = some t → noRefs t fr = true) : recheck P loc ops pre i (putF fr o.dst x) h D = recheck P loc ops pre i fr h D := by
  rw [Bool.eq_iff_iff, recheck_iff, recheck_iff]
  constructor
  · intro hh q hq oq ho hc
    rw [← again_put (ops := ops) (d := o.dst) (x := x) fun t ht => ⟨hd q hq oq ho hc t ht, hn t ht⟩]
    exact hh q hq oq ho hc
  · intro hh q hq oq ho hc
    rw [again_put (ops := ops) (d := o.dst) (x := x) fun t ht => ⟨hd q hq oq ho hc t ht, hn t ht⟩]
    exact hh q hq oq ho hc

/-- An operation beside another's slot. -/
theorem ev_put {a b : Oper} {x : AV} (tba : ∀ d, b.dst = some d → d ∉ namesA ops a) (hb : ∀ t, b.dst = some t → noRefs t fr = true) (ha : ∀ t, a.dst = some t → noRefs t fr = true) (hx : ∀ t, a.dst = some t → ∀ off, x ≠ .ref t off) :
    ev P loc c a (putF fr b.dst x) h = ev P loc c a fr h := by
  refine (ev_agree ⟨agree_put (ops := ops) fun t ht => ⟨looks_names (tba t ht), hb t ht⟩, ?_⟩).symm
  intro d hd
  rw [ha d hd, noRefs_put (ha d hd) (hx d hd)]

theorem swap {i j : Nat} {a b : Oper} {D r : List Nat} (ha : ops[i]? = some a) (hb : ops[j]? = some b) (hp : Apart P loc ops pre i j a b) (hS : (isStore a = false ∧ isStore b = false) ∨ (noB fr ∧ nlA loc a = true ∧ nlA loc b = true)) (he : clsA P loc b < 2 ∨ clsA P loc a ≠ 1)
    (fa : freshA fr a = true) (fb : freshA fr b = true) (sb : ∀ d, b.dst = some d → d ∉ looksA ops b) (da : Done P loc ops D a) (db : Done P loc ops D b)
    (e0 : opsC P loc (optM c) ops pre D (j :: i :: r) fr k h = some res) : opsC P loc (optM c) ops pre D (i :: j :: r) fr k h = some res := by
  obtain ⟨xj, hj, oj, e1⟩ := (opsC_one hb (hS.imp (·.2) (·.1))).1 e0
  have sA1 : isStore a = false ∨ noB (putF fr b.dst xj) := hS.imp (·.1) fun hh => noB_put hh.1 (one_noBk oj hh.2.2)
  obtain ⟨xi, hi, oi, e⟩ := (opsC_one ha sA1).1 e1
  have sA : isStore a = false ∨ noB fr := hS.imp (·.1) (·.1)
  have sB : isStore b = false ∨ noB (putF fr a.dst xi) := hS.imp (·.2) fun hh => noB_put hh.1 (one_noBk oi hh.2.1)
  clear e0 e1
  have na : ∀ t, a.dst = some t → noRefs t fr = true := fun t ht => (fresh_get fa ht).1
  have nb : ∀ t, b.dst = some t → noRefs t fr = true := fun t ht => (fresh_get fb ht).1
  have xja : ∀ t, a.dst = some t → ∀ off, xj ≠ .ref t off := fun t ht => one_noRef oj (fresh_get fa ht).1 (fresh_get fa ht).2
  have evA : ∀ h2, ev P loc c a (putF fr b.dst xj) h2 = ev P loc c a fr h2 := fun h2 => ev_put hp.tba nb na xja
  have gA : gdA ops a (putF fr b.dst xj) = gdA ops a fr := gd_put fun t ht => looks_names (hp.tba t ht)
  have xib : ∀ t, b.dst = some t → ∀ off, xi ≠ .ref t off := by
    intro t ht
    obtain ⟨bb, _, k1, k2⟩ := oi
    cases bb with
    | false => rw [(k2 rfl).1]; intro off hh; simp at hh
    | true =>
      have := (k1 rfl).1
      rw [evA] at this
      exact ev_noRef (fresh_get fb ht).1 (fresh_get fb ht).2 _ _ this
  have evB : ∀ h2, ev P loc c b (putF fr a.dst xi) h2 = ev P loc c b fr h2 := fun h2 => ev_put hp.tab na nb xib
  have gB : gdA ops b (putF fr a.dst xi) = gdA ops b fr := gd_put fun t ht => looks_names (hp.tab t ht)
  have hcomm : putF (putF fr b.dst xj) a.dst xi = putF (putF fr a.dst xi) b.dst xj := put_comm (dst_ne hp.tba)
  have nb1 : ∀ t, b.dst = some t → noRefs t (putF fr a.dst xi) = true := fun t ht => noRefs_put (nb t ht) (xib t ht)
  have na1 : ∀ t, a.dst = some t → noRefs t (putF fr b.dst xj) = true := fun t ht => noRefs_put (na t ht) (xja t ht)
  rw [hcomm] at e
  rw [opsC_congr (D := i :: j :: D) (D' := j :: i :: D) (fun q => by simp only [List.mem_cons]; constructor <;> (rintro (h | h | h) <;> simp [h]))] at e
  obtain ⟨bi, gi, i1, i2⟩ := oi
  obtain ⟨bj, gj, j1, j2⟩ := oj
  rw [gA] at gi
  -- does the other one act?
  by_cases hcase : bj = true ∧ 2 ≤ clsA P loc b
  · obtain ⟨rfl, hcb⟩ := hcase
    have hca : clsA P loc a = 0 := by
      have := hp.cls
      omega
    obtain ⟨ej, rj⟩ := j1 rfl
    have hih : hi = hj ∧ (bi = true → ev P loc c a fr h = some (xi, h)) := by
      cases bi with
      | false => exact ⟨(i2 rfl).2, fun hh => by simp at hh⟩
      | true =>
        have h1 := (i1 rfl).1
        rw [evA] at h1
        obtain ⟨h2, h3⟩ := ev0 hca h1
        exact ⟨h2, fun _ => h3 h⟩
    obtain ⟨rfl, hei⟩ := hih
    refine (opsC_one ha sA).2 ⟨xi, h, ⟨bi, gi, fun hh => ⟨hei hh, by simp [hca, Nat.blt]⟩, fun hh => ⟨(i2 hh).1, rfl⟩⟩, ?_⟩
    refine (opsC_one hb sB).2 ⟨xj, hi, ⟨true, by rw [gB]; exact gj, fun _ => ⟨by rw [evB]; exact ej, ?_⟩, fun hh => by simp at hh⟩, e⟩
    have hb2 : Nat.blt (clsA P loc b) 2 = false := by
      cases hh : Nat.blt (clsA P loc b) 2 with
      | false => rfl
      | true => have := Nat.le_of_ble_eq_true hh; omega
    rw [hb2, Bool.false_or] at rj ⊢
    rw [← hcomm]
    rw [recheck_iff]
    intro q hq oq hoq hcq
    rcases List.mem_cons.1 hq with rfl | hq
    · rw [ha] at hoq; injection hoq with hoq; subst hoq; omega
    · rw [← recheck_put (o := a) (x := xi) da na1, recheck_iff] at rj
      exact rj q hq oq hoq hcq
  · have hjh : hj = h := by
      cases bj with
      | false => exact (j2 rfl).2
      | true =>
        refine one_keep ⟨true, gj, j1, j2⟩ ?_
        rcases Nat.lt_or_ge (clsA P loc b) 2 with hh | hh
        · exact hh
        · exact absurd ⟨rfl, hh⟩ hcase
    subst hjh
    refine (opsC_one ha sA).2 ⟨xi, hi, ⟨bi, gi, fun hh => ?_, i2⟩, ?_⟩
    · obtain ⟨ei, ri⟩ := i1 hh
      rw [evA] at ei
      refine ⟨ei, ?_⟩
      simp only [Bool.or_eq_true] at ri ⊢
      refine ri.imp id fun ri => ?_
      rw [recheck_iff] at ri
      have ri2 : recheck P loc ops pre i (putF (putF fr a.dst xi) b.dst xj) hi D = true := by
        rw [recheck_iff, ← hcomm]
        exact fun q hq => ri q (List.mem_cons_of_mem _ hq)
      rwa [recheck_put db nb1] at ri2
    · refine (opsC_one hb sB).2 ⟨xj, hi, ⟨bj, by rw [gB]; exact gj, fun hh => ?_, fun hh => ?_⟩, e⟩
      · have hcb : clsA P loc b < 2 := by
          rcases Nat.lt_or_ge (clsA P loc b) 2 with h3 | h3
          · exact h3
          · exact absurd ⟨hh, h3⟩ hcase
        have hblt : Nat.blt (clsA P loc b) 2 = true := Nat.ble_eq_true_of_le hcb
        refine ⟨?_, by simp [hblt]⟩
        rw [evB]
        have ej := (j1 hh).1
        rcases Nat.lt_or_ge (clsA P loc b) 1 with h3 | h3
        · exact (ev0 (by omega) ej).2 hi
        · have hcb1 : clsA P loc b = 1 := by omega
          obtain ⟨_, v, rfl, h5, h6⟩ := ev1 hcb1 ej
          by_cases hact : bi = true ∧ 2 ≤ clsA P loc a
          · obtain ⟨rfl, h7⟩ := hact
            refine h6 hi ?_
            obtain ⟨ei, ri⟩ := i1 rfl
            have hb2 : Nat.blt (clsA P loc a) 2 = false := by
              cases hh : Nat.blt (clsA P loc a) 2 with
              | false => rfl
              | true => have := Nat.le_of_ble_eq_true hh; omega
            rw [hb2, Bool.false_or, recheck_iff] at ri
            rcases ri j (List.mem_cons_self ..) b hb hcb1 with h8 | h8
            · rw [hp.ij] at h8; simp at h8
            · -- what was read is read again
              have hag : Agree0 P b fr (putF (putF fr b.dst (.v v)) a.dst xi) := by
                have a1 : Agree0 P b fr (putF fr a.dst xi) := agree_put (ops := ops) fun t ht => ⟨looks_names (hp.tab t ht), na t ht⟩
                have a2 : Agree0 P b (putF fr a.dst xi) (putF (putF fr a.dst xi) b.dst (.v v)) := agree_put (ops := ops) fun t ht => ⟨sb t ht, nb1 t ht⟩
                rw [hcomm]
                exact ⟨fun y hy => (a1.op y hy).trans (a2.op y hy), fun y hy s off hh => (a1.ref y hy s off hh).trans (a2.ref y hy s off ((a1.op y hy).symm.trans hh))⟩
              unfold againA at h8
              split at h8
              · rename_i d hd
                split at h8
                · rename_i hgt
                  exfalso
                  rw [hcomm, hd] at hgt
                  have := getF_put_same (by rw [hgt]; simp)
                  rw [hgt] at this
                  simp at this
                · rename_i y hgt
                  rw [hcomm, hd] at hgt
                  have h9 := getF_put_same (by rw [hgt]; simp)
                  rw [hgt] at h9
                  injection h9 with h9
                  subst h9
                  simp only [Bool.or_eq_true] at h8
                  rcases h8 with h8 | h8
                  · right; rw [local_agree hag]; exact h8
                  · left
                    rw [reread_agree hag]
                    split at h8
                    · rename_i z hz
                      rw [hz, veq_eq 4 h8]
                    · simp at h8
                · simp at h8
              · simp at h8
          · have : hi = hj := by
              cases bi with
              | false => exact (i2 rfl).2
              | true =>
                have ei := i1 rfl
                refine one_keep (D := j :: D) ⟨true, by rw [gA]; exact gi, i1, i2⟩ ?_
                rcases Nat.lt_or_ge (clsA P loc a) 2 with h9 | h9
                · exact h9
                · exact absurd ⟨rfl, h9⟩ hact
            subst this
            exact ej
      · obtain ⟨h1, _⟩ := j2 hh
        exact ⟨h1, rfl⟩

end Go.Agm
