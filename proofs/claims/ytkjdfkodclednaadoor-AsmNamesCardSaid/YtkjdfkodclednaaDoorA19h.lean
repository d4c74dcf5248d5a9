/- An abstract machine for one goroutine: a region whose order is open, where what acts may act in more than one order. No condition. -/
import Derived.Test.YtkjdfkodclednaaDoorA19g
namespace Go.Agm
variable {P : Program} {w0 : World} {m : MapN} {E : Nat → Prop} {fr : List AV} {h : AHeap} {a : Act} {w : World} {c : Calls1} {loc : Nat → Bool} {ops : Array Oper} {pre q : Array Nat} {r : Res} {k : List AV → AHeap → Option Res}

theorem lin_cons {n : Nat} {rem : List Nat} {y : Nat} {τ : List Nat} (hy : y ∈ rem) (hm : ∀ z ∈ rem, (pre.getD y 0).testBit z = false) (ht : τ ∈ linA pre n (rem.filter fun z => !(Nat.beq z y))) : y :: τ ∈ linA pre (n + 1) rem := by
  cases rem with
  | nil => simp at hy
  | cons x r =>
    simp only [linA, List.mem_flatMap]
    refine ⟨y, hy, ?_⟩
    have : ((x :: r).all fun z => !(pre.getD y 0).testBit z) = true := by
      rw [List.all_eq_true]
      intro z hz
      rw [hm z hz]; rfl
    rw [this, cond_true]
    exact List.mem_map_of_mem ht

theorem lin_ne : ∀ (n : Nat) {rem : List Nat}, rem.length ≤ n → (∀ y ∈ rem, ∀ z, (pre.getD y 0).testBit z = true → z < y) → ∃ τ, τ ∈ linA pre n rem
  | 0, rem, _, _ => ⟨[], by simp [linA]⟩
  | n + 1, [], _, _ => ⟨[], by simp [linA]⟩
  | n + 1, x :: r, hl, hlow => by
    obtain ⟨y, hy, hmin⟩ : ∃ y ∈ x :: r, ∀ z ∈ x :: r, y ≤ z := by
      clear hlow hl
      induction r generalizing x with
      | nil => exact ⟨x, by simp, by simp⟩
      | cons x' r ih =>
        obtain ⟨y, hy, hm⟩ := ih x'
        rcases Nat.le_total x y with hh | hh
        · exact ⟨x, by simp, fun z hz => by
            rcases List.mem_cons.1 hz with rfl | hz
            · exact Nat.le_refl _
            · exact Nat.le_trans hh (hm z hz)⟩
        · exact ⟨y, List.mem_cons_of_mem _ hy, fun z hz => by
            rcases List.mem_cons.1 hz with rfl | hz
            · exact hh
            · exact hm z hz⟩
    have hlt : ((x :: r).filter fun z => !(Nat.beq z y)).length < (x :: r).length := by
      rw [List.length_filter_lt_length_iff_exists]
      exact ⟨y, hy, by simp [Nat.beq_refl]⟩
    obtain ⟨τ, hτ⟩ := lin_ne n (rem := (x :: r).filter fun z => !(Nat.beq z y)) (by simp only [List.length_cons] at hl hlt; omega) fun z hz => hlow z (List.mem_filter.1 hz).1
    refine ⟨y :: τ, lin_cons hy (fun z hz => ?_) hτ⟩
    cases hb : (pre.getD y 0).testBit z with
    | false => rfl
    | true =>
      have h1 := hlow y hy z hb
      have h2 := hmin z hz
      omega

theorem lin_mem : ∀ (n : Nat) {rem τ : List Nat}, τ ∈ linA pre n rem → ∀ x ∈ τ, x ∈ rem
  | 0, rem, τ, ht, x, hx => by simp [linA] at ht; subst ht; simp at hx
  | n + 1, [], τ, ht, x, hx => by simp [linA] at ht; subst ht; simp at hx
  | n + 1, z :: r, τ, ht, x, hx => by
    simp only [linA, List.mem_flatMap] at ht
    obtain ⟨y, hy, ht⟩ := ht
    cases hb : ((z :: r).all fun z => !(pre.getD y 0).testBit z) with
    | false => rw [hb] at ht; simp at ht
    | true =>
      rw [hb, cond_true, List.mem_map] at ht
      obtain ⟨τ', h1, rfl⟩ := ht
      rcases List.mem_cons.1 hx with rfl | hx
      · exact hy
      · exact (List.mem_filter.1 (lin_mem n h1 x hx)).1

theorem pred_in : ∀ {σ : List Nat} {i a : Nat}, predS σ i = some a → i ∈ σ
  | [], _, _, e => by simp [predS] at e
  | [x], _, _, e => by simp [predS] at e
  | x :: y :: r, i, a, e => by
    rw [show predS (x :: y :: r) i = bif Nat.beq y i then some x else predS (y :: r) i from rfl] at e
    cases hb : Nat.beq y i with
    | true => have := Nat.eq_of_beq_eq_true hb; subst this; simp
    | false => rw [hb, cond_false] at e; exact List.mem_cons_of_mem _ (pred_in e)
theorem pred_done : ∀ {d τ : List Nat} {i a : Nat}, i ∉ d → i ∉ τ → predS (d ++ i :: τ) i = some a → a ∈ d
  | [], τ, i, a, _, ht, e => by
    cases τ with
    | nil => simp [predS] at e
    | cons y r =>
      rw [List.nil_append, show predS (i :: y :: r) i = bif Nat.beq y i then some i else predS (y :: r) i from rfl] at e
      cases hb : Nat.beq y i with
      | true => exact absurd (Nat.eq_of_beq_eq_true hb) (fun hh => ht (by simp [hh]))
      | false =>
        rw [hb, cond_false] at e
        exact absurd (pred_in e) ht
  | [x], τ, i, a, hd, ht, e => by
    simp only [List.cons_append, List.nil_append, predS, Nat.beq_refl, cond_true, Option.some.injEq] at e
    subst e; simp
  | x :: y :: d, τ, i, a, hd, ht, e => by
    rw [List.cons_append, List.cons_append, show predS (x :: y :: (d ++ i :: τ)) i = bif Nat.beq y i then some x else predS (y :: (d ++ i :: τ)) i from rfl] at e
    cases hb : Nat.beq y i with
    | true => exact absurd (Nat.eq_of_beq_eq_true hb) (fun hh => hd (by simp [hh]))
    | false =>
      rw [hb, cond_false] at e
      exact List.mem_cons_of_mem _ (pred_done (d := y :: d) (fun hh => hd (List.mem_cons_of_mem _ hh)) ht e)

/-- One order, as far as it is done. -/
structure Mem (P : Program) (loc : Nat → Bool) (ops : Array Oper) (σ : List Nat) (q : Array Nat) (listed : Array Bool) (D K : List Nat) (fr : List AV) : Prop where
  st : St P loc ops q listed D K fr
  g : Good true P loc ops q
  inv : ∀ x, x < ops.size → x ∉ K → ∀ j ∈ K, (q.getD x 0).testBit j = false
  clo : ∀ i j, i < ops.size → j < ops.size → (q.getD i 0).testBit j = true → (∃ o e, ops[i]? = some o ∧ e ∈ o.after.toList ∧ Region.binds .any e = true ∧ (e.on = j ∨ (q.getD e.on 0).testBit j = true)) ∨ ∃ a, predS σ i = some a ∧ (a = j ∨ (q.getD a 0).testBit j = true)

/-- What may be next in the order has nothing ahead of it that is bound to it. -/
theorem Mem.next {σ : List Nat} {listed : Array Bool} {D K1 K2 : List Nat} {i : Nat} (s : Mem P loc ops σ q listed D (K1 ++ i :: K2) fr) (hr : i ∈ Region.ready .any ops listed) (hp : ∀ a, predS σ i = some a → a < ops.size ∧ a ∉ K1 ++ i :: K2) :
    ∀ j ∈ K1 ++ i :: K2, (q.getD i 0).testBit j = false := by
  intro j hj
  obtain ⟨o, ho, _, hed⟩ := ready_iff.1 hr
  have his := (Array.getElem?_eq_some_iff.1 ho).1
  cases hb : (q.getD i 0).testBit j with
  | false => rfl
  | true =>
    exfalso
    have hjs := s.st.inK j hj
    rcases s.clo i j his hjs hb with ⟨o', e, ho', he, hbd, h1⟩ | ⟨a, ha, h1⟩
    · rw [ho] at ho'; injection ho' with ho'; subst ho'
      have h2 := hed e he hbd
      have hlow := s.g.low i o e ho he hbd
      have hes : e.on < ops.size := by omega
      rw [Array.getD_eq_getD_getElem?, Array.getElem?_eq_getElem (by rw [s.st.size]; exact hes), Option.getD_some] at h2
      have h3 := (s.st.lst e.on hes).1 (by rw [Array.getElem?_eq_getElem (by rw [s.st.size]; exact hes), h2])
      rcases h1 with h1 | h1
      · exact h3 (h1 ▸ hj)
      · have := s.inv e.on hes h3 j hj
        rw [h1] at this; simp at this
    · obtain ⟨h2, h3⟩ := hp a ha
      rcases h1 with h1 | h1
      · exact h3 (h1 ▸ hj)
      · have := s.inv a h2 h3 j hj
        rw [h1] at this; simp at this

def acting (P : Program) (loc : Nat → Bool) (ops : Array Oper) (i : Nat) : Prop := ∃ o, ops[i]? = some o ∧ 2 ≤ clsA P loc o

open Classical in
theorem fam_sound (hc : CallOk P w0 c) (hnl : ∀ (x : Nat) (o : Oper), ops[x]? = some o → nlA loc o = true) (hlow : ∀ i z, ((Region.before ops).getD i 0).testBit z = true → z < i) {Q : Exit → Act → World → Prop} :
    ∀ (n : Nat) {listed : Array Bool} {D dn rem : List Nat} {fuel : Nat} {m : MapN} {fr : List AV} {h : AHeap} {a : Act} {w : World}, noB fr → rem.length ≤ fuel → (∀ x, x ∈ rem ↔ x < ops.size ∧ listed[x]? = some false ∧ acting P loc ops x) →
    (∀ x ∈ dn, x < ops.size ∧ listed[x]? = some true ∧ acting P loc ops x) →
    (∀ τ ∈ linA (Region.before ops) fuel rem, ∃ q K, K.length = n ∧ Mem P loc ops (dn ++ τ) q listed D K fr ∧ opsC P loc (optM c) ops q D K fr k h = some r) →
    Rel P w0 m E fr h a w → Ns P w0 m E w k r (Q .normal) → wpAny P .any ops Q n listed a w := by
  intro n
  induction n with
  | zero =>
    intro listed D dn rem fuel m fr h a w hnb hfl hrem hdn hfam hr hn
    obtain ⟨τ, hτ⟩ := lin_ne (pre := Region.before ops) fuel hfl fun y _ z hz => hlow y z hz
    obtain ⟨q, K, hK, s, e⟩ := hfam τ hτ
    have hK0 : K = [] := List.length_eq_zero_iff.1 hK
    subst hK0
    refine ⟨?_, hn _ _ _ _ (Step.of hr (Keep.refl E w)) e⟩
    cases hrd : Region.ready .any ops listed with
    | nil => rfl
    | cons i l =>
      exfalso
      have hi : i ∈ Region.ready .any ops listed := by rw [hrd]; simp
      obtain ⟨o, ho, hl, _⟩ := ready_iff.1 hi
      have his := (Array.getElem?_eq_some_iff.1 ho).1
      have := (s.st.lst i his).2 (by simp)
      rw [Array.getD_eq_getD_getElem?, this] at hl
      simp at hl
  | succ n ih =>
    intro listed D dn rem fuel m fr h a w hnb hfl hrem hdn hfam hr hn
    obtain ⟨τ0, hτ0⟩ := lin_ne (pre := Region.before ops) fuel hfl fun y _ z hz => hlow y z hz
    obtain ⟨q0, K0, hK0, s0, e0⟩ := hfam τ0 hτ0
    refine ⟨fun hrd => ?_, fun i hi => ?_⟩
    · have := s0.st.empty s0.g hrd
      subst this
      simp at hK0
    · obtain ⟨o, ho, hl, hed⟩ := ready_iff.1 hi
      have his := (Array.getElem?_eq_some_iff.1 ho).1
      have hli : listed[i]? = some false := by
        rw [Array.getD_eq_getD_getElem?] at hl
        have hsz : i < listed.size := by rw [s0.st.size]; exact his
        rw [Array.getElem?_eq_getElem hsz] at hl ⊢
        simp at hl
        rw [hl]
      have hiK : ∀ {σ : List Nat} {q : Array Nat} {K : List Nat}, Mem P loc ops σ q listed D K fr → i ∈ K := by
        intro σ q K s
        apply Decidable.byContradiction
        intro hno
        have := (s.st.lst i his).2 hno
        rw [hli] at this
        simp at this
      -- the orders that go on with it
      obtain ⟨rem', fuel', dn', hfl', hrem', hdn', hsub⟩ : ∃ (rem' : List Nat) (fuel' : Nat) (dn' : List Nat), rem'.length ≤ fuel' ∧ (∀ x, x ∈ rem' ↔ x < ops.size ∧ (listed.setIfInBounds i true)[x]? = some false ∧ acting P loc ops x) ∧
          (∀ x ∈ dn', x < ops.size ∧ (listed.setIfInBounds i true)[x]? = some true ∧ acting P loc ops x) ∧
          ∀ τ' ∈ linA (Region.before ops) fuel' rem', ∃ τ ∈ linA (Region.before ops) fuel rem, dn ++ τ = dn' ++ τ' ∧ ∀ a, predS (dn ++ τ) i = some a → a ∈ dn := by
        have hset : ∀ x, x ≠ i → (listed.setIfInBounds i true)[x]? = listed[x]? := fun x hx => Array.getElem?_setIfInBounds_ne (Ne.symm hx)
        have hseti : (listed.setIfInBounds i true)[i]? = some true := Array.getElem?_setIfInBounds_self_of_lt (by rw [s0.st.size]; exact his)
        by_cases hact : 2 ≤ clsA P loc o
        · have hir : i ∈ rem := (hrem i).2 ⟨his, hli, o, ho, hact⟩
          have hmin : ∀ z ∈ rem, ((Region.before ops).getD i 0).testBit z = false := by
            intro z hz
            cases hb : ((Region.before ops).getD i 0).testBit z with
            | false => rfl
            | true =>
              exfalso
              have hzs := ((hrem z).1 hz)
              have hzK : z ∈ K0 := by
                apply Decidable.byContradiction
                intro hno
                have := (s0.st.lst z hzs.1).2 hno
                rw [hzs.2.1] at this
                simp at this
              have hedge : ∀ {e : Edge}, e ∈ o.after.toList → Region.binds .any e = true → e.on ∉ K0 := by
                intro e he hb hme
                have h1 := hed e he hb
                rw [Array.getD_eq_getD_getElem?] at h1
                have h2 : e.on < ops.size := s0.st.inK _ hme
                rw [Array.getElem?_eq_getElem (by rw [s0.st.size]; exact h2), Option.getD_some] at h1
                exact (s0.st.lst e.on h2).1 (by rw [Array.getElem?_eq_getElem (by rw [s0.st.size]; exact h2), h1]) hme
              have hq := before_anc hb
              have : z ∉ K0 := by
                cases hq with
                | edge ho' he hb2 => rw [ho] at ho'; injection ho' with ho'; subst ho'; exact hedge he hb2
                | step ho' he hb2 hq => rw [ho] at ho'; injection ho' with ho'; subst ho'; exact anc_done s0.st.down hq (hedge he hb2)
              exact this hzK
          have hlt : (rem.filter fun z => !(Nat.beq z i)).length < rem.length := by
            rw [List.length_filter_lt_length_iff_exists]
            exact ⟨i, hir, by simp [Nat.beq_refl]⟩
          obtain ⟨fuel1, rfl⟩ : ∃ f, fuel = f + 1 := ⟨fuel - 1, by omega⟩
          refine ⟨rem.filter fun z => !(Nat.beq z i), fuel1, dn ++ [i], by omega, fun x => ?_, fun x hx => ?_, fun τ' hτ' => ⟨i :: τ', lin_cons hir hmin hτ', by simp, fun a ha => ?_⟩⟩
          · have hbeq : (!(Nat.beq x i)) = true ↔ x ≠ i := by
              rw [Bool.not_eq_true']
              constructor
              · rintro hh rfl
                rw [Nat.beq_refl] at hh; simp at hh
              · intro hh
                cases hb : Nat.beq x i with
                | false => rfl
                | true => exact absurd (Nat.eq_of_beq_eq_true hb) hh
            rw [List.mem_filter, hrem, hbeq]
            constructor
            · rintro ⟨⟨h1, h2, h3⟩, h4⟩; exact ⟨h1, by rw [hset x h4]; exact h2, h3⟩
            · rintro ⟨h1, h2, h3⟩
              have h4 : x ≠ i := by rintro rfl; rw [hseti] at h2; simp at h2
              exact ⟨⟨h1, by rw [← hset x h4]; exact h2, h3⟩, h4⟩
          · rcases List.mem_append.1 hx with hx | hx
            · obtain ⟨h1, h2, h3⟩ := hdn x hx
              have h4 : x ≠ i := by rintro rfl; rw [hli] at h2; simp at h2
              exact ⟨h1, by rw [hset x h4]; exact h2, h3⟩
            · simp only [List.mem_singleton] at hx
              subst hx
              exact ⟨his, hseti, o, ho, hact⟩
          · refine pred_done (fun hh => ?_) (fun hh => ?_) ha
            · have := (hdn i hh).2.1
              rw [hli] at this; simp at this
            · have := (List.mem_filter.1 (lin_mem _ hτ' i hh)).2
              simp [Nat.beq_refl] at this
        · have hna : ¬ acting P loc ops i := by
            rintro ⟨o', ho', h2⟩
            rw [ho] at ho'; injection ho' with ho'; subst ho'
            exact hact h2
          refine ⟨rem, fuel, dn, hfl, fun x => ?_, fun x hx => ?_, fun τ' hτ' => ⟨τ', hτ', rfl, fun a ha => ?_⟩⟩
          · rw [hrem]
            constructor
            · rintro ⟨h1, h2, h3⟩
              have h4 : x ≠ i := by rintro rfl; exact hna h3
              exact ⟨h1, by rw [hset x h4]; exact h2, h3⟩
            · rintro ⟨h1, h2, h3⟩
              have h4 : x ≠ i := by rintro rfl; exact hna h3
              exact ⟨h1, by rw [← hset x h4]; exact h2, h3⟩
          · obtain ⟨h1, h2, h3⟩ := hdn x hx
            have h4 : x ≠ i := by rintro rfl; exact hna h3
            exact ⟨h1, by rw [hset x h4]; exact h2, h3⟩
          · exfalso
            rcases List.mem_append.1 (pred_in ha) with hh | hh
            · exact hna (hdn i hh).2.2
            · exact hna ((hrem i).1 (lin_mem _ hτ' i hh)).2.2
      -- each of them with it in front
      have hfront : ∀ τ' ∈ linA (Region.before ops) fuel' rem', ∃ q K1 K2, (K1 ++ K2).length = n ∧ Mem P loc ops (dn' ++ τ') q listed D (K1 ++ i :: K2) fr ∧ (∀ j ∈ K1 ++ i :: K2, (q.getD i 0).testBit j = false) ∧ opsC P loc (optM c) ops q D (i :: (K1 ++ K2)) fr k h = some r := by
        intro τ' hτ'
        obtain ⟨τ, hτ, heq, hpr⟩ := hsub τ' hτ'
        obtain ⟨q, K, hK, s, e⟩ := hfam τ hτ
        obtain ⟨K1, K2, rfl⟩ := List.append_of_mem (hiK s)
        have hnx := s.next hi fun a ha => by
          obtain ⟨h1, h2, _⟩ := hdn a (hpr a ha)
          exact ⟨h1, (s.st.lst a h1).1 h2⟩
        refine ⟨q, K1, K2, by simp at hK ⊢; omega, by rw [← heq]; exact s, hnx, ?_⟩
        refine front s.g (fun _ => hnl) K1 s.st.ord s.st.inK (fun j hj => hnx j (by simp [hj])) ?_ s.st.fresh (fun _ => hnb) e
        intro x hx y hy
        exact ⟨fun hh => (s.st.inD x hx).2 (hh ▸ hy), s.inv x (s.st.inD x hx).1 (s.st.inD x hx).2 y hy⟩
      obtain ⟨τ1, hτ1⟩ := lin_ne (pre := Region.before ops) fuel' hfl' fun y _ z hz => hlow y z hz
      -- one of them behind the step
      have hmem : ∀ {σ : List Nat} {q : Array Nat} {K1 K2 : List Nat} {x : AV}, Mem P loc ops σ q listed D (K1 ++ i :: K2) fr → (∀ j ∈ K1 ++ i :: K2, (q.getD i 0).testBit j = false) → (∀ oq : Oper, freshA fr oq = true → (∀ d, oq.dst = some d → o.dst ≠ some d) → freshA (putF fr o.dst x) oq = true) → Mem P loc ops σ q (listed.setIfInBounds i true) (i :: D) (K1 ++ K2) (putF fr o.dst x) := by
        intro σ q K1 K2 x s hnx hfx
        have hsubl : (K1 ++ K2).Sublist (K1 ++ i :: K2) := List.Sublist.append (List.Sublist.refl _) (List.sublist_cons_self ..)
        refine ⟨s.st.next hi ?_, s.g, ?_, s.clo⟩
        · intro y hy oy hoy
          refine hfx oy (s.st.fresh y (hsubl.subset hy) oy hoy) fun d hd => ?_
          have hne : y ≠ i := by
            have hnd := s.st.ord
            rw [List.pairwise_append] at hnd
            obtain ⟨_, h2, h3⟩ := hnd
            rcases List.mem_append.1 hy with hm | hm
            · exact (h3 y hm i (by simp)).2.1
            · exact Ne.symm ((List.pairwise_cons.1 h2).1 y hm).2.1
          exact (s.g.other hoy ho hne).2 d hd
        · intro x' hx' hx'K j hj
          by_cases hxi : x' = i
          · subst hxi; exact hnx j (hsubl.subset hj)
          · refine s.inv x' hx' (fun hh => hx'K ?_) j (hsubl.subset hj)
            simp only [List.mem_append, List.mem_cons] at hh ⊢
            rcases hh with hh | hh | hh
            · exact .inl hh
            · exact absurd hh hxi
            · exact .inr hh
      simp only [wpOp, ho]
      cases hg : gdA ops o fr with
      | none =>
        obtain ⟨q, K1, K2, _, _, _, e1⟩ := hfront τ1 hτ1
        rw [opsC_cons ho, hg] at e1; simp at e1
      | some b =>
        rw [gd_wanted hr hg]
        cases b with
        | false =>
          simp only [Bool.false_eq_true, if_false]
          refine ih (D := i :: D) (noB_put hnb (by simp)) hfl' hrem' hdn' (fun τ' hτ' => ?_) (hr.put tup_nil (by simp)) hn
          obtain ⟨q, K1, K2, hlen, s, hnx, e1⟩ := hfront τ' hτ'
          rw [opsC_cons ho, hg] at e1
          exact ⟨q, K1 ++ K2, hlen, hmem s hnx fun oq hq hd => fresh_put hq (fun d _ off => by simp) hd, e1⟩
        | true =>
          simp only [if_true]
          left
          have hev : ∃ x h', ev P loc c o fr h = some (x, h') := by
            obtain ⟨q, K1, K2, _, _, _, e1⟩ := hfront τ1 hτ1
            rw [opsC_cons ho, hg] at e1
            simp only at e1
            rw [stepK_ev (.inr hnb), Option.bind_eq_some_iff] at e1
            obtain ⟨⟨x, h'⟩, h1, _⟩ := e1
            exact ⟨x, h', h1⟩
          obtain ⟨x, h', hev⟩ := hev
          have e2 : stepK P loc (optM c) o fr (fun fr2 h2 => if fr2 = putF fr o.dst x ∧ h2 = h' then some r else none) h = some r := by
            rw [stepK_ev (.inr hnb), hev]
            simp
          refine stepK_sound hr hc ?_ e2
          intro fr2 hh2 a2 w2 hs e3
          obtain ⟨m', s1, s2, s3⟩ := hs
          by_cases hcond : fr2 = putF fr o.dst x ∧ hh2 = h'
          · obtain ⟨rfl, rfl⟩ := hcond
            refine ih (D := i :: D) (noB_put hnb (ev_noBk (hnl i o ho) _ _ hev)) hfl' hrem' hdn' (fun τ' hτ' => ?_) s2 (fun fr3 h3 a3 w3 hs3 e5 => hn _ _ _ _ (Step.trans s1 s3 hs3) e5)
            obtain ⟨q, K1, K2, hlen, s, hnx, e1⟩ := hfront τ' hτ'
            rw [opsC_cons ho, hg] at e1
            simp only at e1
            rw [stepK_ev (.inr hnb), hev] at e1
            simp only [Option.bind_some, afterC] at e1
            obtain ⟨_, e4⟩ := cond_some e1
            exact ⟨q, K1 ++ K2, hlen, hmem s hnx fun oq hq hd => fresh_put hq (fun d hdq => ev_noRef (fresh_get hq hdq).1 (fresh_get hq hdq).2 _ _ hev) hd, e4⟩
          · simp only [if_neg hcond] at e3
            simp at e3

theorem before_low (hlow : ∀ (i : Nat) (o : Oper) (e : Edge), ops[i]? = some o → e ∈ o.after.toList → Region.binds .any e = true → e.on < i) {i z : Nat} (hb : ((Region.before ops).getD i 0).testBit z = true) : z < i := by
  have := before_anc hb
  clear hb
  induction this with
  | edge ho he hb => exact hlow _ _ _ ho he hb
  | step ho he hb _ ih => have := hlow _ _ _ ho he hb; omega

/-- A region whose order is open, by all orders of what acts. -/
theorem drawS_sound (hc : CallOk P w0 c) {ops : Array Oper} {k : List AV → AHeap → Option Res} {Q : Exit → Act → World → Prop} (hr : Rel P w0 m E fr h a w) (hn : Ns P w0 m E w k r (Q .normal)) (hnb : noB fr) (hnl : ops.toList.all (nlA loc) = true) (hfresh : ops.toList.all (freshA fr) = true) (hne : linA (Region.before ops) ops.size (actsA P loc ops) ≠ [])
    (hfam : ∀ σ ∈ linA (Region.before ops) ops.size (actsA P loc ops), memOk P loc ops σ = true ∧ opsC P loc (optM c) ops (preS P loc ops σ) [] (orderS P loc ops σ) fr k h = some r) :
    wpAny P .any ops Q ops.size (Array.replicate ops.size false) a w := by
  have hget : ∀ (x : Nat) (o : Oper), ops[x]? = some o → o ∈ ops.toList := fun x o ho => by
    rw [← Array.getElem?_toList] at ho
    exact List.mem_of_getElem? ho
  rw [List.all_eq_true] at hnl hfresh
  have hlen : (actsA P loc ops).length ≤ ops.size := by
    unfold actsA
    refine Nat.le_trans (List.length_filter_le _ _) ?_
    rw [List.length_range]; exact Nat.le_refl _
  -- what each order's checks say
  have hmem : ∀ σ ∈ linA (Region.before ops) ops.size (actsA P loc ops), (∀ (i : Nat) (o : Oper) (e : Edge), ops[i]? = some o → e ∈ o.after.toList → Region.binds .any e = true → e.on < i) ∧ (orderS P loc ops σ).length = ops.size ∧ Mem P loc ops σ (preS P loc ops σ) (Array.replicate ops.size false) [] (orderS P loc ops σ) fr := by
    intro σ hσ
    obtain ⟨hcond, _⟩ := hfam σ hσ
    simp only [memOk, regionOkG, Bool.and_eq_true, List.all_eq_true, List.mem_range, beq_iff_eq] at hcond
    obtain ⟨⟨⟨⟨⟨⟨⟨hlow, hpair⟩, hkeep⟩, hlen⟩, hord⟩, hearly⟩, hin⟩, hclo⟩ := hcond
    have hin' : ∀ x ∈ orderS P loc ops σ, x < ops.size := fun x hx => Nat.le_of_ble_eq_true (hin x hx)
    have hbe := behind_all hord hearly
    have hnd : (orderS P loc ops σ).Nodup := hbe.imp fun hh => hh.2.1
    have hall : ∀ x, x < ops.size → x ∈ orderS P loc ops σ := by
      intro x hx
      apply Decidable.byContradiction
      intro hno
      have := length_le_of_lt ops.size (x :: orderS P loc ops σ) (List.nodup_cons.2 ⟨hno, hnd⟩) fun y hy => by
        rcases List.mem_cons.1 hy with rfl | hy
        · exact hx
        · exact hin' y hy
      simp only [List.length_cons, hlen] at this; omega
    have hlow' : ∀ (i : Nat) (o : Oper) (e : Edge), ops[i]? = some o → e ∈ o.after.toList → Region.binds .any e = true → e.on < i := fun i o e ho he hb => by
      have hi := (Array.getElem?_eq_some_iff.1 ho).1
      have := hlow i hi
      rw [ho] at this
      simp only [List.all_eq_true] at this
      have h1 := this e he
      rw [hb, Bool.not_true, Bool.false_or] at h1
      exact Nat.le_of_ble_eq_true h1
    refine ⟨hlow', hlen, ⟨⟨by simp, ?_, hin', fun q hq => by simp at hq, ?_, hbe, ?_⟩, ⟨fun i j hij hj => hpair j hj i hij, fun i j hi hj => hkeep j hj i hi, hlow'⟩, ?_, ?_⟩⟩
    · intro x hx
      rw [Array.getElem?_replicate, if_pos hx]
      simp [hall x hx]
    · intro x o e ho hx
      exact absurd (hall x (Array.getElem?_eq_some_iff.1 ho).1) hx
    · intro q _ o ho
      exact hfresh o (hget q o ho)
    · intro x hx hxK
      exact absurd (hall x hx) hxK
    · intro i j hi hj hb
      unfold closedOk at hclo
      simp only [List.all_eq_true, List.mem_range] at hclo
      have := hclo i hi j hj
      rw [hb, Bool.not_true, Bool.false_or, Bool.or_eq_true] at this
      rcases this with h1 | h1
      · left
        split at h1
        · rename_i o ho
          rw [List.any_eq_true] at h1
          obtain ⟨e, he, h2⟩ := h1
          simp only [Bool.and_eq_true, Bool.or_eq_true] at h2
          exact ⟨o, e, ho, he, h2.1, h2.2.imp Nat.eq_of_beq_eq_true id⟩
        · simp at h1
      · right
        split at h1
        · rename_i a ha
          simp only [Bool.or_eq_true] at h1
          exact ⟨a, ha, h1.imp Nat.eq_of_beq_eq_true id⟩
        · simp at h1
  have hacts : ∀ x, x ∈ actsA P loc ops ↔ x < ops.size ∧ (Array.replicate ops.size false)[x]? = some false ∧ acting P loc ops x := by
    intro x
    unfold actsA acting
    rw [List.mem_filter, List.mem_range]
    constructor
    · rintro ⟨h1, h2⟩
      refine ⟨h1, by rw [Array.getElem?_replicate, if_pos h1], ?_⟩
      split at h2
      · rename_i o ho; exact ⟨o, ho, Nat.le_of_ble_eq_true h2⟩
      · simp at h2
    · rintro ⟨h1, _, o, ho, h2⟩
      refine ⟨h1, ?_⟩
      rw [ho]
      exact Nat.ble_eq_true_of_le h2
  obtain ⟨σ0, hσ0⟩ := List.exists_mem_of_ne_nil _ hne
  have hlow := (hmem σ0 hσ0).1
  refine fam_sound (dn := []) (rem := actsA P loc ops) (fuel := ops.size) (D := []) hc (fun x o ho => hnl o (hget x o ho)) (fun i z hz => before_low hlow hz) ops.size hnb hlen hacts (fun x hx => by simp at hx) (fun τ hτ => ?_) hr hn
  obtain ⟨_, h1, h2⟩ := hmem τ hτ
  exact ⟨_, _, h1, by simpa using h2, (hfam τ hτ).2⟩

theorem noBB_iff (e : noBB fr = true) : noB fr := by
  intro t cs hc
  have := getF_some hc (by simp)
  unfold noBB at e
  rw [List.all_eq_true] at e
  have := e _ (List.mem_of_getElem? this)
  simp at this

theorem draw_sound (hc : CallOk P w0 c) {ops : Array Oper} {k : List AV → AHeap → Option Res} {Q : Exit → Act → World → Prop} (hr : Rel P w0 m E fr h a w) (hn : Ns P w0 m E w k r (Q .normal)) (e : drawK P loc (optM c) ops fr k h = some r) :
    wpAny P .any ops Q ops.size (Array.replicate ops.size false) a w := by
  unfold drawK at e
  cases hcond : (regionOk P loc ops (Region.before ops) (orderA P loc ops) && ops.toList.all (freshA fr)) with
  | true => rw [hcond, cond_true] at e; exact draw_sound1 hc hr hn hcond e
  | false =>
    rw [hcond, cond_false] at e
    split at e
    · rename_i σ hσ
      unfold soleOrd at hσ
      cases hm : (noBB fr && ops.toList.all (nlA loc) && ops.toList.all (freshA fr)) with
      | false => rw [hm] at hσ; simp at hσ
      | true =>
        rw [hm, cond_true] at hσ
        simp only [Bool.and_eq_true] at hm
        obtain ⟨⟨h1, h2⟩, h3⟩ := hm
        split at hσ
        · rename_i τ hl
          cases hk : memOk P loc ops τ with
          | false => rw [hk] at hσ; simp at hσ
          | true =>
            rw [hk, cond_true, Option.some.injEq] at hσ
            subst hσ
            refine drawS_sound hc hr hn (noBB_iff h1) h2 h3 (by rw [hl]; simp) fun ρ hρ => ?_
            rw [hl, List.mem_singleton] at hρ
            subst hρ
            exact ⟨hk, e⟩
        · simp at hσ
    · exact no_fail e

end Go.Agm
