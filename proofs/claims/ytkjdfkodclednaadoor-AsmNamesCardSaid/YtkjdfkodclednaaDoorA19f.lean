/- An abstract machine for one goroutine: a region whose order is open stands for the model's, whatever the order. No condition. -/
import Derived.Test.YtkjdfkodclednaaDoorA19e
namespace Go.Agm
variable {P : Program} {w0 : World} {m : MapN} {E : Nat → Prop} {fr : List AV} {h : AHeap} {a : Act} {w : World} {c : Calls1} {loc : Nat → Bool} {ops : Array Oper} {pre : Array Nat} {r : Res} {k : List AV → AHeap → Option Res} {st : Bool}

/-! What is bound to what. -/

inductive Anc (ops : Array Oper) : Nat → Nat → Prop
  | edge {i : Nat} {o : Oper} {e : Edge} : ops[i]? = some o → e ∈ o.after.toList → Region.binds .any e = true → Anc ops i e.on
  | step {i : Nat} {o : Oper} {e : Edge} {q : Nat} : ops[i]? = some o → e ∈ o.after.toList → Region.binds .any e = true → Anc ops e.on q → Anc ops i q

theorem bits_fold (acc : Array Nat) : ∀ (l : List Edge) (s q : Nat), (l.foldl (fun s e => if Region.binds .any e then s ||| 2 ^ e.on ||| acc.getD e.on 0 else s) s).testBit q = true →
    s.testBit q = true ∨ ∃ e ∈ l, Region.binds .any e = true ∧ (q = e.on ∨ (acc.getD e.on 0).testBit q = true)
  | [], s, q, hh => .inl hh
  | e :: l, s, q, hh => by
    rw [List.foldl_cons] at hh
    rcases bits_fold acc l _ q hh with h1 | ⟨e', he', h2⟩
    · by_cases hb : Region.binds .any e = true
      · rw [if_pos hb] at h1
        simp only [Nat.testBit_or, Nat.testBit_two_pow, Bool.or_eq_true, decide_eq_true_eq] at h1
        rcases h1 with (h1 | h1) | h1
        · exact .inl h1
        · exact .inr ⟨e, by simp, hb, .inl h1.symm⟩
        · exact .inr ⟨e, by simp, hb, .inr h1⟩
      · rw [if_neg hb] at h1; exact .inl h1
    · exact .inr ⟨e', by simp [he'], h2⟩

theorem before_fold : ∀ (l p : List Oper) (acc : Array Nat), ops.toList = p ++ l → acc.size = p.length → (∀ x q, (acc.getD x 0).testBit q = true → Anc ops x q) →
    ∀ x q, ((l.foldl (fun acc o => acc.push (o.after.foldl (fun s e => if Region.binds .any e then s ||| 2 ^ e.on ||| acc.getD e.on 0 else s) 0)) acc).getD x 0).testBit q = true → Anc ops x q
  | [], p, acc, _, _, hi, x, q, hh => hi x q hh
  | o :: l, p, acc, hp, hs, hi, x, q, hh => by
    rw [List.foldl_cons] at hh
    refine before_fold l (p ++ [o]) _ (by simp [hp]) (by simp [hs]) ?_ x q hh
    intro x q hb
    have ho : ops[p.length]? = some o := by
      rw [← Array.getElem?_toList, hp]; simp
    rw [Array.getD_eq_getD_getElem?, Array.getElem?_push] at hb
    split at hb
    · rename_i hx
      subst hx
      rw [Option.getD_some, ← Array.foldl_toList] at hb
      rcases bits_fold acc _ _ _ hb with h1 | ⟨e, he, hbd, h2⟩
      · simp at h1
      · rw [hs]
        rcases h2 with rfl | h2
        · exact .edge ho he hbd
        · exact .step ho he hbd (hi _ _ h2)
    · rw [← Array.getD_eq_getD_getElem?] at hb
      exact hi x q hb

theorem before_anc {i q : Nat} (hh : ((Region.before ops).getD i 0).testBit q = true) : Anc ops i q := by
  unfold Region.before at hh
  rw [← Array.foldl_toList] at hh
  refine before_fold ops.toList [] #[] rfl rfl ?_ i q hh
  intro x q hq
  simp at hq

/-- What holds of a region whose order is free. -/
structure Good (st : Bool) (P : Program) (loc : Nat → Bool) (ops : Array Oper) (pre : Array Nat) : Prop where
  pair : ∀ i j, i < j → j < ops.size → pairOk st P loc ops pre i j = true
  keep : ∀ i j, i < ops.size → j < ops.size → keepOk P loc ops pre i j = true
  low : ∀ (i : Nat) (o : Oper) (e : Edge), ops[i]? = some o → e ∈ o.after.toList → Region.binds .any e = true → e.on < i

theorem isStore_cls {o : Oper} (h : isStore o = true) : clsA P loc o = 3 := by
  unfold isStore at h
  split at h
  · rename_i ho; simp [clsA, ho]
  · simp at h

theorem Good.self (g : Good st P loc ops pre) {i : Nat} {o : Oper} (ho : ops[i]? = some o) : ∀ d, o.dst = some d → d ∉ looksA ops o := by
  intro d hd
  have hi := (Array.getElem?_eq_some_iff.1 ho).1
  have := g.keep i i hi hi
  simp only [keepOk, ho, beq_self_eq_true, cond_true, hd, Bool.not_eq_true'] at this
  simpa using this

theorem Good.other (g : Good st P loc ops pre) {i j : Nat} {a b : Oper} (ha : ops[i]? = some a) (hb : ops[j]? = some b) (hne : i ≠ j) :
    (clsA P loc a = 1 → (pre.getD i 0).testBit j = false → ∀ d, b.dst = some d → d ∉ namesA ops a) ∧ ∀ d, a.dst = some d → b.dst ≠ some d := by
  have hi := (Array.getElem?_eq_some_iff.1 ha).1
  have hj := (Array.getElem?_eq_some_iff.1 hb).1
  have := g.keep i j hi hj
  have hne' : (i == j) = false := by simpa using hne
  simp only [keepOk, ha, hb, hne', cond_false, Bool.and_eq_true, Bool.or_eq_true, Bool.not_eq_true'] at this
  refine ⟨fun hc hbit d hd => ?_, fun d hd hh => ?_⟩
  · rcases this.1 with (h1 | h1) | h1
    · simp [hc] at h1
    · simp only [touchA, hd] at h1
      simpa using h1
    · rw [hbit] at h1; simp at h1
  · have h2 := this.2
    rw [hd, hh] at h2
    simp at h2

theorem touch_false {a b : Oper} (h : touchA ops a b = false) : ∀ d, a.dst = some d → d ∉ namesA ops b := by
  intro d hd
  simp only [touchA, hd] at h
  simpa using h

theorem Good.apart (g : Good st P loc ops pre) {i j : Nat} {a b : Oper} (ha : ops[i]? = some a) (hb : ops[j]? = some b) (hne : i ≠ j) (hij : (pre.getD i 0).testBit j = false) (hji : (pre.getD j 0).testBit i = false) : Apart P loc ops pre i j a b ∧ (st = false → isStore a = false ∧ isStore b = false) := by
  have hi := (Array.getElem?_eq_some_iff.1 ha).1
  have hj := (Array.getElem?_eq_some_iff.1 hb).1
  have key : touchA ops a b = false ∧ touchA ops b a = false ∧ ¬ (2 ≤ clsA P loc a ∧ 2 ≤ clsA P loc b) ∧ (st = false → clsA P loc a ≠ 3 ∧ clsA P loc b ≠ 3) := by
    rcases Nat.lt_or_gt_of_ne hne with hlt | hlt
    · have := g.pair i j hlt hj
      simp only [pairOk, ha, hb, hji, hij, Bool.false_or, Bool.and_eq_true, Bool.or_eq_true, Bool.not_eq_true', beq_eq_false_iff_ne] at this
      obtain ⟨⟨⟨h1, h2⟩, h3⟩, h4⟩ := this
      refine ⟨h1, h2, ?_, fun hst => ?_⟩
      · rintro ⟨h6, h7⟩
        rw [Nat.ble_eq_true_of_le h6, Nat.ble_eq_true_of_le h7] at h3
        simp at h3
      · rcases h4 with h4 | h4
        · rw [hst] at h4; simp at h4
        · exact h4
    · have := g.pair j i hlt hi
      simp only [pairOk, ha, hb, hij, hji, Bool.false_or, Bool.and_eq_true, Bool.or_eq_true, Bool.not_eq_true', beq_eq_false_iff_ne] at this
      obtain ⟨⟨⟨h1, h2⟩, h3⟩, h4⟩ := this
      refine ⟨h2, h1, ?_, fun hst => ?_⟩
      · rintro ⟨h6, h7⟩
        rw [Nat.ble_eq_true_of_le h6, Nat.ble_eq_true_of_le h7] at h3
        simp at h3
      · rcases h4 with h4 | h4
        · rw [hst] at h4; simp at h4
        · exact ⟨h4.2, h4.1⟩
  obtain ⟨h1, h2, h3, h4⟩ := key
  refine ⟨⟨hne, touch_false h1, touch_false h2, h3, hij, hji⟩, fun hst => ⟨?_, ?_⟩⟩
  · cases hs : isStore a with
    | false => rfl
    | true => exact absurd (isStore_cls hs) (h4 hst).1
  · cases hs : isStore b with
    | false => rfl
    | true => exact absurd (isStore_cls hs) (h4 hst).2

/-- Of two that stand in an order. -/
def Behind (P : Program) (loc : Nat → Bool) (ops : Array Oper) (pre : Array Nat) (i j : Nat) : Prop :=
  (pre.getD i 0).testBit j = false ∧ i ≠ j ∧ ∀ a b, ops[i]? = some a → ops[j]? = some b → clsA P loc a < 2 ∨ clsA P loc b ≠ 1 ∨ (pre.getD j 0).testBit i = true

theorem behind_all : ∀ {l : List Nat}, orderOk pre l = true → earlyOk P loc ops pre l = true → l.Pairwise (Behind P loc ops pre)
  | [], _, _ => .nil
  | i :: l, h1, h2 => by
    simp only [orderOk, earlyOk, Bool.and_eq_true, List.all_eq_true] at h1 h2
    refine .cons (fun j hj => ?_) (behind_all h1.2 h2.2)
    have h3 := h1.1 j hj
    simp only [Bool.not_eq_true', beq_eq_false_iff_ne] at h3
    refine ⟨h3.1, h3.2, fun a b ha hb => ?_⟩
    have h4 := h2.1
    simp only [ha, Bool.or_eq_true, List.all_eq_true] at h4
    rcases h4 with h4 | h4
    · exact .inl (Nat.le_of_ble_eq_true h4)
    · have := h4 j hj
      simp only [hb, Bool.or_eq_true, Bool.not_eq_true', beq_eq_false_iff_ne] at this
      exact .inr this

def FreshAll (ops : Array Oper) (fr : List AV) (K : List Nat) : Prop := ∀ q ∈ K, ∀ o, ops[q]? = some o → freshA fr o = true

theorem fresh_put {o oq : Oper} {x : AV} (hf : freshA fr oq = true) (hx : ∀ d, oq.dst = some d → ∀ off, x ≠ .ref d off) (hd : ∀ d, oq.dst = some d → o.dst ≠ some d) : freshA (putF fr o.dst x) oq = true := by
  unfold freshA at hf ⊢
  split
  · rename_i d hq
    simp only [hq, Bool.and_eq_true] at hf ⊢
    rw [getF_put (hd d hq)]
    exact ⟨noRefs_put hf.1 (hx d hq), hf.2⟩
  · rfl

theorem front (g : Good st P loc ops pre) (hnl : st = true → ∀ (q : Nat) (o : Oper), ops[q]? = some o → nlA loc o = true) {i : Nat} {K2 : List Nat} : ∀ (K1 : List Nat) {D : List Nat} {fr : List AV} {h : AHeap}, (K1 ++ i :: K2).Pairwise (Behind P loc ops pre) → (∀ x ∈ K1 ++ i :: K2, x < ops.size) → (∀ j ∈ K1, (pre.getD i 0).testBit j = false) →
    (∀ q ∈ D, ∀ x ∈ K1 ++ i :: K2, q ≠ x ∧ (pre.getD q 0).testBit x = false) → FreshAll ops fr (K1 ++ i :: K2) → (st = true → noB fr) → opsC P loc (optM c) ops pre D (K1 ++ i :: K2) fr k h = some r → opsC P loc (optM c) ops pre D (i :: (K1 ++ K2)) fr k h = some r
  | [], D, fr, h, _, _, _, _, _, _, e => e
  | j :: K1, D, fr, h, hp, hsz, hi, hD, hf, hnb, e => by
    rw [List.cons_append] at hp hsz hD hf e
    obtain ⟨hp1, hp2⟩ := List.pairwise_cons.1 hp
    have him : i ∈ K1 ++ i :: K2 := by simp
    have hjs := hsz j (by simp)
    have his := hsz i (List.mem_cons_of_mem _ him)
    obtain ⟨b, hb⟩ : ∃ b, ops[j]? = some b := ⟨ops[j], by simp [hjs]⟩
    obtain ⟨a, ha⟩ : ∃ a, ops[i]? = some a := ⟨ops[i], by simp [his]⟩
    obtain ⟨hb1, hb2, hb3⟩ := hp1 i him
    have hij := hi j (by simp)
    obtain ⟨hap, hst⟩ := g.apart ha hb (Ne.symm hb2) hij hb1
    have hS : (isStore a = false ∧ isStore b = false) ∨ (noB fr ∧ nlA loc a = true ∧ nlA loc b = true) := by
      cases hs : st with
      | false => exact .inl (hst hs)
      | true => exact .inr ⟨hnb hs, hnl hs _ _ ha, hnl hs _ _ hb⟩
    have sB : isStore b = false ∨ noB fr := hS.imp (·.2) (·.1)
    obtain ⟨x, h', ho, e1⟩ := (opsC_one hb sB).1 e
    have hfb := hf j (by simp) b hb
    have hf' : FreshAll ops (putF fr b.dst x) (K1 ++ i :: K2) := by
      intro q hq oq hoq
      have hfq := hf q (List.mem_cons_of_mem _ hq) oq hoq
      refine fresh_put hfq (fun d hd => one_noRef ho (fresh_get hfq hd).1 (fresh_get hfq hd).2) fun d hd => ?_
      exact (g.other hoq hb (Ne.symm (hp1 q hq).2.1)).2 d hd
    have hD' : ∀ q ∈ j :: D, ∀ x ∈ K1 ++ i :: K2, q ≠ x ∧ (pre.getD q 0).testBit x = false := by
      intro q hq x hx
      rcases List.mem_cons.1 hq with rfl | hq
      · exact ⟨(hp1 x hx).2.1, (hp1 x hx).1⟩
      · exact hD q hq x (List.mem_cons_of_mem _ hx)
    have hnb' : st = true → noB (putF fr b.dst x) := fun hs => noB_put (hnb hs) (one_noBk ho (hnl hs _ _ hb))
    have e2 := front g hnl K1 hp2 (fun x hx => hsz x (List.mem_cons_of_mem _ hx)) (fun q hq => hi q (List.mem_cons_of_mem _ hq)) hD' hf' hnb' e1
    have e3 : opsC P loc (optM c) ops pre D (j :: i :: (K1 ++ K2)) fr k h = some r := (opsC_one hb sB).2 ⟨x, h', ho, e2⟩
    have hdone : ∀ {z : Nat} {oz : Oper}, z ∈ j :: (K1 ++ i :: K2) → ops[z]? = some oz → Done P loc ops D oz := by
      intro z oz hz hoz q hq oq hoq hcq
      obtain ⟨h1, h2⟩ := hD q hq z hz
      exact (g.other hoq hoz h1).1 hcq h2
    refine swap ha hb hap hS ?_ (hf i (List.mem_cons_of_mem _ him) a ha) hfb (g.self hb) (hdone (List.mem_cons_of_mem _ him) ha) (hdone (by simp) hb) e3
    rcases hb3 b a hb ha with h1 | h1 | h1
    · exact .inl h1
    · exact .inr h1
    · rw [hij] at h1; simp at h1

/-- What one operation comes to, told so that more may be asked behind it. -/
theorem stepK_to {o : Oper} (e : stepK P loc (optM c) o fr k h = some r) : ∃ fr' h', k fr' h' = some r ∧ (∀ oq, freshA fr oq = true → (∀ d, oq.dst = some d → o.dst ≠ some d) → freshA fr' oq = true) ∧
    ∀ k2, k2 fr' h' = some r → stepK P loc (optM c) o fr k2 h = some r := by
  cases hs : isStore o with
  | false =>
    rw [stepK_ev (.inl hs), Option.bind_eq_some_iff] at e
    obtain ⟨⟨x, h'⟩, h1, h2⟩ := e
    refine ⟨_, h', h2, fun oq hq hd => fresh_put hq (fun d hdq => ev_noRef (fresh_get hq hdq).1 (fresh_get hq hdq).2 _ _ h1) hd, fun k2 h3 => ?_⟩
    rw [stepK_ev (.inl hs), h1]
    exact h3
  | true =>
    unfold isStore at hs
    split at hs
    · rename_i t ad x ho
      unfold stepK at e
      simp only [ho] at e
      split at e
      · rename_i hd
        unfold storeK at e
        obtain ⟨y, hy, e⟩ := on_some e
        split at e
        · rename_i size b off hsz hl
          split at e
          · rename_i cs hg
            obtain ⟨hcond, e⟩ := cond_some e
            refine ⟨_, _, e, fun oq hq _ => hq, fun k2 h3 => ?_⟩
            unfold stepK
            simp only [ho, hd, storeK, hy, Mach.on, hsz, hl, hg, hcond, cond_true]
            exact h3
          · exact no_fail e
        · rename_i size s off hsz hl
          split at e
          · rename_i cs hg
            obtain ⟨hcond, e⟩ := cond_some e
            refine ⟨_, _, e, fun oq hq _ => ?_, fun k2 h3 => ?_⟩
            · unfold freshA at hq ⊢
              split
              · rename_i d hdq
                simp only [hdq, Bool.and_eq_true] at hq ⊢
                have hne : s ≠ d := by
                  intro hh; subst hh
                  rw [hg] at hq; simp at hq
                have := getF_put (fr := fr) (d := some s) (x := .blk (splice cs off y.cells.toList)) (t := d) (fun hh => hne (by injection hh))
                simp only [putF] at this
                rw [this]
                exact ⟨noRefs_put (d := some s) hq.1 (fun off => by simp), hq.2⟩
              · rfl
            · unfold stepK
              simp only [ho, hd, storeK, hy, Mach.on, hsz, hl, hg, hcond, cond_true]
              exact h3
          · exact no_fail e
        · exact no_fail e
      · exact no_fail e
    · simp at hs

theorem gd_wanted (hr : Rel P w0 m E fr h a w) {o : Oper} {b : Bool} (hg : gdA ops o fr = some b) : Region.wanted o (yielded ops a.tmps) = b := by
  unfold gdA at hg
  split at hg
  · rename_i hn
    injection hg with hg
    subst hg
    simp [Region.wanted, hn]
  · rename_i j want hn
    split at hg
    · simp at hg
    · rename_i t ht
      split at hg
      · rename_i hgt
        injection hg with hg
        subst hg
        exact wanted_tup hr.fr hn ht hgt
      · rename_i hgb
        injection hg with hg
        subst hg
        exact wanted_bool hr.fr hn ht hgb
      · simp at hg

/-- How far a region is. -/
structure St (P : Program) (loc : Nat → Bool) (ops : Array Oper) (pre : Array Nat) (listed : Array Bool) (D K : List Nat) (fr : List AV) : Prop where
  size : listed.size = ops.size
  lst : ∀ x, x < ops.size → (listed[x]? = some true ↔ x ∉ K)
  inK : ∀ x ∈ K, x < ops.size
  inD : ∀ q ∈ D, q < ops.size ∧ q ∉ K
  down : ∀ (x : Nat) (o : Oper) (e : Edge), ops[x]? = some o → x ∉ K → e ∈ o.after.toList → Region.binds .any e = true → e.on ∉ K
  ord : K.Pairwise (Behind P loc ops pre)
  fresh : FreshAll ops fr K

end Go.Agm
