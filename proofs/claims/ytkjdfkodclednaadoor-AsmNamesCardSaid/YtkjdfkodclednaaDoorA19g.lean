/- An abstract machine for one goroutine: a region whose order is open stands for the model's, whatever the order; the end. No condition. -/
import Derived.Test.YtkjdfkodclednaaDoorA19f
namespace Go.Agm
variable {P : Program} {w0 : World} {m : MapN} {E : Nat → Prop} {fr : List AV} {h : AHeap} {a : Act} {w : World} {c : Calls1} {loc : Nat → Bool} {ops : Array Oper} {pre : Array Nat} {r : Res} {k : List AV → AHeap → Option Res} {st : Bool}

theorem ready_iff {listed : Array Bool} {i : Nat} : i ∈ Region.ready .any ops listed ↔ ∃ o, ops[i]? = some o ∧ listed.getD i true = false ∧ ∀ e ∈ o.after.toList, Region.binds .any e = true → listed.getD e.on false = true := by
  simp only [Region.ready, List.mem_filter, List.mem_range, Bool.and_eq_true, Bool.not_eq_true']
  constructor
  · rintro ⟨hi, h1, h2⟩
    have ho : ops[i]? = some ops[i] := by simp [hi]
    refine ⟨_, ho, h1, fun e he hb => ?_⟩
    rw [ho] at h2
    simp only [Option.map_some, Option.getD_some, Array.all_eq_true', Bool.or_eq_true, Bool.not_eq_true'] at h2
    rcases h2 e (by simpa using he) with h3 | h3
    · rw [hb] at h3; simp at h3
    · exact h3
  · rintro ⟨o, ho, h1, h2⟩
    refine ⟨(Array.getElem?_eq_some_iff.1 ho).1, h1, ?_⟩
    rw [ho]
    simp only [Option.map_some, Option.getD_some, Array.all_eq_true', Bool.or_eq_true, Bool.not_eq_true']
    intro e he
    cases hb : Region.binds .any e with
    | false => exact .inl rfl
    | true => exact .inr (h2 e (by simpa using he) hb)

theorem anc_done {K : List Nat} (down : ∀ (x : Nat) (o : Oper) (e : Edge), ops[x]? = some o → x ∉ K → e ∈ o.after.toList → Region.binds .any e = true → e.on ∉ K) {i q : Nat} (hq : Anc ops i q) : i ∉ K → q ∉ K := by
  induction hq with
  | edge ho he hb => exact fun hi => down _ _ _ ho hi he hb
  | step ho he hb _ ih => exact fun hi => ih (down _ _ _ ho hi he hb)

theorem St.empty {listed : Array Bool} {D K : List Nat} (s : St P loc ops pre listed D K fr) (g : Good st P loc ops pre) (hr : Region.ready .any ops listed = []) : K = [] := by
  have key : ∀ n i, i < ops.size → i ≤ n → i ∉ K := by
    intro n
    induction n with
    | zero =>
      intro i hi hn hK
      have : i ∈ Region.ready .any ops listed := by
        have ho : ops[i]? = some ops[i] := by simp [hi]
        refine ready_iff.2 ⟨_, ho, ?_, fun e he hb => ?_⟩
        · cases hl : listed.getD i true with
          | false => rfl
          | true =>
            rw [Array.getD_eq_getD_getElem?, Array.getElem?_eq_getElem (by rw [s.size]; exact hi), Option.getD_some] at hl
            exact absurd hK ((s.lst i hi).1 (by rw [Array.getElem?_eq_getElem (by rw [s.size]; exact hi), hl]))
        · have := g.low i _ e ho he hb
          omega
      rw [hr] at this; simp at this
    | succ n ih =>
      intro i hi hn hK
      have : i ∈ Region.ready .any ops listed := by
        have ho : ops[i]? = some ops[i] := by simp [hi]
        refine ready_iff.2 ⟨_, ho, ?_, fun e he hb => ?_⟩
        · cases hl : listed.getD i true with
          | false => rfl
          | true =>
            rw [Array.getD_eq_getD_getElem?, Array.getElem?_eq_getElem (by rw [s.size]; exact hi), Option.getD_some] at hl
            exact absurd hK ((s.lst i hi).1 (by rw [Array.getElem?_eq_getElem (by rw [s.size]; exact hi), hl]))
        · have hlt := g.low i _ e ho he hb
          have := (s.lst e.on (by omega)).2 (ih e.on (by omega) (by omega))
          rw [Array.getD_eq_getD_getElem?, this]; rfl
      rw [hr] at this; simp at this
  cases K with
  | nil => rfl
  | cons x K => exact absurd (List.mem_cons_self ..) (key x x (s.inK x (by simp)) (Nat.le_refl _))

/-- One operation behind, wherever it stood. -/
theorem St.next {listed : Array Bool} {D K1 K2 : List Nat} {i : Nat} {fr' : List AV} (s : St P loc ops pre listed D (K1 ++ i :: K2) fr) (hr : i ∈ Region.ready .any ops listed) (hf : FreshAll ops fr' (K1 ++ K2)) :
    St P loc ops pre (listed.setIfInBounds i true) (i :: D) (K1 ++ K2) fr' := by
  have hnd := s.ord
  have hsub : (K1 ++ K2).Sublist (K1 ++ i :: K2) := List.Sublist.append (List.Sublist.refl _) (List.sublist_cons_self ..)
  have hi : i ∉ K1 ++ K2 := by
    rw [List.pairwise_append] at hnd
    obtain ⟨_, h2, h3⟩ := hnd
    intro hm
    rcases List.mem_append.1 hm with hm | hm
    · exact (h3 i hm i (by simp)).2.1 rfl
    · exact ((List.pairwise_cons.1 h2).1 i hm).2.1 rfl
  have hiff : ∀ x, x ∈ K1 ++ i :: K2 ↔ x = i ∨ x ∈ K1 ++ K2 := by
    intro x; simp only [List.mem_append, List.mem_cons]
    constructor
    · rintro (h | h | h) <;> simp [h]
    · rintro (h | h | h) <;> simp [h]
  obtain ⟨o, ho, hl, he⟩ := ready_iff.1 hr
  have his := (Array.getElem?_eq_some_iff.1 ho).1
  refine ⟨by simp [s.size], ?_, fun x hx => s.inK x (hsub.subset hx), ?_, ?_, hnd.sublist hsub, hf⟩
  · intro x hx
    by_cases hxi : x = i
    · subst hxi
      rw [Array.getElem?_setIfInBounds_self_of_lt (by rw [s.size]; exact hx)]
      simp [hi]
    · rw [Array.getElem?_setIfInBounds_ne (Ne.symm hxi), s.lst x hx, hiff]
      simp [hxi]
  · intro q hq
    rcases List.mem_cons.1 hq with rfl | hq
    · exact ⟨his, hi⟩
    · exact ⟨(s.inD q hq).1, fun hh => (s.inD q hq).2 (hsub.subset hh)⟩
  · intro x o' e hx hxK hee hb hme
    by_cases hxi : x = i
    · subst hxi
      rw [ho] at hx; injection hx with hx; subst hx
      have h1 := he e hee hb
      rw [Array.getD_eq_getD_getElem?] at h1
      have h2 : e.on < ops.size := s.inK _ (hsub.subset hme)
      rw [Array.getElem?_eq_getElem (by rw [s.size]; exact h2), Option.getD_some] at h1
      have h3 := (s.lst e.on h2).1 (by rw [Array.getElem?_eq_getElem (by rw [s.size]; exact h2), h1])
      exact h3 (hsub.subset hme)
    · have := s.down x o' e hx (fun hh => by rcases (hiff x).1 hh with h1 | h1; exact hxi h1; exact hxK h1) hee hb
      exact this (hsub.subset hme)

def freshB (ops : Array Oper) (fr : List AV) (K : List Nat) : Bool := K.all fun q => match ops[q]? with
  | some o => freshA fr o
  | none => true
theorem freshB_iff {K : List Nat} : freshB ops fr K = true ↔ FreshAll ops fr K := by
  simp only [freshB, List.all_eq_true, FreshAll]
  constructor
  · intro h q hq o ho
    have := h q hq
    rwa [ho] at this
  · intro h q hq
    cases ho : ops[q]? with
    | none => rfl
    | some o => exact h q hq o ho

theorem any_sound (hc : CallOk P w0 c) (g : Good false P loc ops (Region.before ops)) {Q : Exit → Act → World → Prop} : ∀ (n : Nat) {listed : Array Bool} {D K : List Nat} {m : MapN} {fr : List AV} {h : AHeap} {a : Act} {w : World}, K.length = n → St P loc ops (Region.before ops) listed D K fr →
    Rel P w0 m E fr h a w → Ns P w0 m E w k r (Q .normal) → opsC P loc (optM c) ops (Region.before ops) D K fr k h = some r → wpAny P .any ops Q n listed a w := by
  intro n
  induction n with
  | zero =>
    intro listed D K m fr h a w hK s hr hn e
    have hK0 : K = [] := List.length_eq_zero_iff.1 hK
    subst hK0
    refine ⟨?_, hn _ _ _ _ (Step.of hr (Keep.refl E w)) e⟩
    cases hrd : Region.ready .any ops listed with
    | nil => rfl
    | cons i l =>
      exfalso
      have hi : i ∈ Region.ready .any ops listed := by rw [hrd]; simp
      obtain ⟨o, ho, hl, _⟩ := ready_iff.1 hi
      have his := (Array.getElem?_eq_some_iff.1 ho).1
      have := (s.lst i his).2 (by simp)
      rw [Array.getD_eq_getD_getElem?, this] at hl
      simp at hl
  | succ n ih =>
    intro listed D K m fr h a w hK s hr hn e
    refine ⟨fun hrd => ?_, fun i hi => ?_⟩
    · have := s.empty g hrd
      subst this
      exact hn _ _ _ _ (Step.of hr (Keep.refl E w)) e
    · obtain ⟨o, ho, hl, hed⟩ := ready_iff.1 hi
      have his := (Array.getElem?_eq_some_iff.1 ho).1
      have hiK : i ∈ K := by
        apply Decidable.byContradiction
        intro hno
        have := (s.lst i his).2 hno
        rw [Array.getD_eq_getD_getElem?, this] at hl
        simp at hl
      obtain ⟨K1, K2, rfl⟩ := List.append_of_mem hiK
      have hsub : (K1 ++ K2).Sublist (K1 ++ i :: K2) := List.Sublist.append (List.Sublist.refl _) (List.sublist_cons_self ..)
      have hdown : ∀ q, Anc ops i q → q ∉ K1 ++ i :: K2 := by
        intro q hq
        have hedge : ∀ {e : Edge}, e ∈ o.after.toList → Region.binds .any e = true → e.on ∉ K1 ++ i :: K2 := by
          intro e he hb hme
          have h1 := hed e he hb
          rw [Array.getD_eq_getD_getElem?] at h1
          have h2 : e.on < ops.size := s.inK _ hme
          rw [Array.getElem?_eq_getElem (by rw [s.size]; exact h2), Option.getD_some] at h1
          exact (s.lst e.on h2).1 (by rw [Array.getElem?_eq_getElem (by rw [s.size]; exact h2), h1]) hme
        cases hq with
        | edge ho' he hb => rw [ho] at ho'; injection ho' with ho'; subst ho'; exact hedge he hb
        | step ho' he hb hq => rw [ho] at ho'; injection ho' with ho'; subst ho'; exact anc_done s.down hq (hedge he hb)
      have e1 : opsC P loc (optM c) ops (Region.before ops) D (i :: (K1 ++ K2)) fr k h = some r := by
        refine front g (fun hh => by simp at hh) K1 s.ord s.inK ?_ ?_ s.fresh (fun hh => by simp at hh) e
        · intro j hj
          cases hb : ((Region.before ops).getD i 0).testBit j with
          | false => rfl
          | true => exact absurd (by simp [hj]) (hdown j (before_anc hb))
        · intro q hq x hx
          refine ⟨fun hh => (s.inD q hq).2 (hh ▸ hx), ?_⟩
          cases hb : ((Region.before ops).getD q 0).testBit x with
          | false => rfl
          | true => exact absurd hx (anc_done s.down (before_anc hb) (s.inD q hq).2)
      have hlen : (K1 ++ K2).length = n := by simp at hK ⊢; omega
      have hoth : ∀ q ∈ K1 ++ K2, ∀ oq, ops[q]? = some oq → ∀ d, oq.dst = some d → o.dst ≠ some d := by
        intro q hq oq hoq d hd
        have hne : q ≠ i := by
          have hnd := s.ord
          rw [List.pairwise_append] at hnd
          obtain ⟨_, h2, h3⟩ := hnd
          rcases List.mem_append.1 hq with hm | hm
          · exact (h3 q hm i (by simp)).2.1
          · exact Ne.symm ((List.pairwise_cons.1 h2).1 q hm).2.1
        exact (g.other hoq ho hne).2 d hd
      rw [opsC_cons ho] at e1
      simp only [wpOp, ho]
      cases hg : gdA ops o fr with
      | none => rw [hg] at e1; simp at e1
      | some b =>
        rw [hg] at e1
        rw [gd_wanted hr hg]
        cases b with
        | false =>
          simp only at e1
          simp only [Bool.false_eq_true, if_false]
          refine ih hlen (s.next hi ?_) (hr.put tup_nil (by simp)) hn e1
          intro q hq oq hoq
          exact fresh_put (s.fresh q (hsub.subset hq) oq hoq) (fun d _ off => by simp) (hoth q hq oq hoq)
        | true =>
          simp only at e1
          simp only [if_true]
          left
          obtain ⟨fr', h', h1, h2, h3⟩ := stepK_to e1
          have hf' : FreshAll ops fr' (K1 ++ K2) := fun q hq oq hoq => h2 oq (s.fresh q (hsub.subset hq) oq hoq) (hoth q hq oq hoq)
          have e2 := h3 (fun fr h => bif freshB ops fr (K1 ++ K2) then afterC P loc (optM c) ops (Region.before ops) D i o (K1 ++ K2) k fr h else none) (by simp only [freshB_iff.2 hf', cond_true]; exact h1)
          refine stepK_sound hr hc ?_ e2
          intro fr2 hh2 a2 w2 hs e3
          obtain ⟨m', s1, s2, s3⟩ := hs
          cases hfb : freshB ops fr2 (K1 ++ K2) with
          | false => simp only [hfb, cond_false] at e3; simp at e3
          | true =>
            simp only [hfb, cond_true, afterC] at e3
            obtain ⟨_, e4⟩ := cond_some e3
            exact ih hlen (s.next hi (freshB_iff.1 hfb)) s2 (fun fr3 h3 a3 w3 hs3 e5 => hn _ _ _ _ (Step.trans s1 s3 hs3) e5) e4

theorem length_le_of_lt : ∀ (n : Nat) (l : List Nat), l.Nodup → (∀ x ∈ l, x < n) → l.length ≤ n
  | 0, l, _, h => by
    cases l with
    | nil => simp
    | cons x l => exact absurd (h x (by simp)) (by omega)
  | n + 1, l, hnd, h => by
    by_cases hm : n ∈ l
    · have := length_le_of_lt n (l.erase n) (hnd.erase n) fun x hx => by
        have h1 := (hnd.mem_erase_iff).1 hx
        have h2 := h x h1.2
        have h3 := h1.1
        omega
      rw [List.length_erase_of_mem hm] at this
      omega
    · have := length_le_of_lt n l hnd fun x hx => by
        have h2 := h x hx
        have h3 : x ≠ n := fun hh => hm (hh ▸ hx)
        omega
      omega

theorem draw_sound1 (hc : CallOk P w0 c) {ops : Array Oper} {k : List AV → AHeap → Option Res} {Q : Exit → Act → World → Prop} (hr : Rel P w0 m E fr h a w) (hn : Ns P w0 m E w k r (Q .normal))
    (hcond : (regionOk P loc ops (Region.before ops) (orderA P loc ops) && ops.toList.all (freshA fr)) = true) (e : opsC P loc (optM c) ops (Region.before ops) [] (orderA P loc ops) fr k h = some r) :
    wpAny P .any ops Q ops.size (Array.replicate ops.size false) a w := by
  simp only [regionOk, regionOkG, Bool.and_eq_true, List.all_eq_true, List.mem_range, beq_iff_eq] at hcond
  obtain ⟨⟨⟨⟨⟨⟨⟨hlow, hpair⟩, hkeep⟩, hlen⟩, hord⟩, hearly⟩, hin⟩, hfresh⟩ := hcond
  have hin' : ∀ x ∈ orderA P loc ops, x < ops.size := fun x hx => Nat.le_of_ble_eq_true (hin x hx)
  have hbe := behind_all hord hearly
  have hnd : (orderA P loc ops).Nodup := hbe.imp fun hh => hh.2.1
  have hall : ∀ x, x < ops.size → x ∈ orderA P loc ops := by
    intro x hx
    apply Decidable.byContradiction
    intro hno
    have := length_le_of_lt ops.size (x :: orderA P loc ops) (List.nodup_cons.2 ⟨hno, hnd⟩) fun y hy => by
      rcases List.mem_cons.1 hy with rfl | hy
      · exact hx
      · exact hin' y hy
    simp only [List.length_cons, hlen] at this; omega
  have g : Good false P loc ops (Region.before ops) := by
    refine ⟨fun i j hij hj => hpair j hj i hij, fun i j hi hj => hkeep j hj i hi, fun i o e ho he hb => ?_⟩
    have hi := (Array.getElem?_eq_some_iff.1 ho).1
    have := hlow i hi
    rw [ho] at this
    simp only [List.all_eq_true] at this
    have h1 := this e he
    rw [hb, Bool.not_true, Bool.false_or] at h1
    exact Nat.le_of_ble_eq_true h1
  refine any_sound hc g ops.size hlen ⟨by simp, ?_, hin', fun q hq => by simp at hq, ?_, hbe, ?_⟩ hr hn e
  · intro x hx
    rw [Array.getElem?_replicate, if_pos hx]
    simp [hall x hx]
  · intro x o e ho hx
    exact absurd (hall x (Array.getElem?_eq_some_iff.1 ho).1) hx
  · intro q _ o ho
    refine hfresh o ?_
    rw [← Array.getElem?_toList] at ho
    exact List.mem_of_getElem? ho

end Go.Agm
