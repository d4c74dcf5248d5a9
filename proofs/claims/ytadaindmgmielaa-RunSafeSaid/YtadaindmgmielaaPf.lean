/- Loops that are within one another, in plain words. No condition. -/
import Derived.Test.YtadaindmgmielaaPd
import Derived.Test.YtadaindmgmielaaPc
namespace Go.Proofs.Ytadaindmgmielaa
open Go.Agm

abbrev opA (l : List Ins) (i : Nat) : Int := (l.getD i insD).op
/-- The Loops that are open ahead of a place. -/
def opn (l : List Ins) : Nat → List Nat
  | 0 => []
  | i + 1 => if opA l i = 17 then opn l i ++ [i] else if opA l i = 18 then (opn l i).dropLast else opn l i
def topN (s : List Nat) : Int := match s.getLast? with
  | some k => k
  | none => -1
theorem opn_loop {l : List Ins} {i : Nat} (h : opA l i = 17) : opn l (i + 1) = opn l i ++ [i] := by rw [opn, if_pos h]
theorem opn_end {l : List Ins} {i : Nat} (h : opA l i = 18) : opn l (i + 1) = (opn l i).dropLast := by rw [opn, if_neg (by omega), if_pos h]
theorem opn_other {l : List Ins} {i : Nat} (h : opA l i ≠ 17) (h' : opA l i ≠ 18) : opn l (i + 1) = opn l i := by rw [opn, if_neg h, if_neg h']
theorem opn_lt {l : List Ins} : ∀ {i k : Nat}, k ∈ opn l i → k < i ∧ opA l k = 17 := by
  intro i
  induction i with
  | zero => intro k h; simp [opn] at h
  | succ i ih =>
    intro k h
    rw [opn] at h
    split at h
    · rename_i e
      rcases List.mem_append.1 h with h | h
      · have := ih h; exact ⟨by omega, this.2⟩
      · simp only [List.mem_singleton] at h; subst h; exact ⟨by omega, e⟩
    · split at h
      · have := ih (List.dropLast_sublist _ |>.subset h); exact ⟨by omega, this.2⟩
      · have := ih h; exact ⟨by omega, this.2⟩
theorem opn_srt {l : List Ins} : ∀ i, (opn l i).Pairwise (· < ·) := by
  intro i
  induction i with
  | zero => exact List.Pairwise.nil
  | succ i ih =>
    rw [opn]
    split
    · rw [List.pairwise_append]
      refine ⟨ih, List.pairwise_singleton .., fun a ha b hb => ?_⟩
      simp only [List.mem_singleton] at hb; subst hb
      exact (opn_lt ha).1
    · split
      · exact ih.sublist (List.dropLast_sublist _)
      · exact ih
theorem opn_pre {l : List Ins} : ∀ {i k : Nat}, k ∈ opn l i → ∃ t, opn l i = opn l k ++ k :: t := by
  intro i
  induction i with
  | zero => intro k h; simp [opn] at h
  | succ i ih =>
    intro k h
    rw [opn] at h ⊢
    split at h
    · rename_i e
      rw [if_pos e]
      rcases List.mem_append.1 h with h | h
      · obtain ⟨t, ht⟩ := ih h
        exact ⟨t ++ [i], by rw [ht]; simp⟩
      · simp only [List.mem_singleton] at h; subst h; exact ⟨[], rfl⟩
    · rename_i e
      rw [if_neg e]
      split at h
      · rename_i e'
        rw [if_pos e']
        obtain ⟨t, ht⟩ := ih (List.dropLast_sublist _ |>.subset h)
        rcases List.eq_nil_or_concat t with rfl | ⟨u, x, rfl⟩
        · exfalso
          rw [ht] at h
          have : k ∈ opn l k := by simpa using h
          exact absurd (opn_lt this).1 (by omega)
        · refine ⟨u, ?_⟩
          rw [ht, show opn l k ++ k :: (u.concat x) = (opn l k ++ k :: u) ++ [x] by simp, List.dropLast_concat]
      · rename_i e'
        rw [if_neg e']
        exact ih h
theorem opn_gone {l : List Ins} {k : Nat} : ∀ {j d : Nat}, k < j → k ∉ opn l j → k ∉ opn l (j + d) := by
  intro j d
  induction d with
  | zero => intro _ h; exact h
  | succ d ih =>
    intro h1 h2 h3
    have := ih h1 h2
    rw [show j + (d + 1) = (j + d) + 1 by omega, opn] at h3
    split at h3
    · rcases List.mem_append.1 h3 with h | h
      · exact this h
      · simp only [List.mem_singleton] at h; omega
    · split at h3
      · exact this (List.dropLast_sublist _ |>.subset h3)
      · exact this h3
theorem opn_self {l : List Ins} {k : Nat} : k ∉ opn l k := fun h => absurd (opn_lt h).1 (by omega)
theorem topN_nil : topN [] = -1 := rfl
theorem topN_snoc (s : List Nat) (k : Nat) : topN (s ++ [k]) = k := by unfold topN; simp
def cN (s : List Nat) : List Int := s.map fun k : Nat => (k : Int)
theorem cN_snoc (s : List Nat) (k : Nat) : cN (s ++ [k]) = cN s ++ [(k : Int)] := by simp [cN]
theorem cN_len (s : List Nat) : (cN s).length = s.length := List.length_map _
theorem topF_map (s : List Nat) : topF (cN s) = topN s := by
  rcases List.eq_nil_or_concat s with rfl | ⟨u, x, rfl⟩
  · rfl
  · rw [List.concat_eq_append, topN_snoc]
    unfold topF
    have : decide (((cN (u ++ [x])).length : Int) > 0) = true := by rw [cN_len]; simp
    rw [this, cond_true, cN_snoc, List.getD_eq_getElem?_getD]
    simp
/-- The stack, by its top. -/
theorem opn_top {l : List Ins} {i : Nat} (h : opn l i ≠ []) : ∃ k, opn l i = opn l k ++ [k] ∧ k < i ∧ opA l k = 17 ∧ topN (opn l i) = k := by
  rcases List.eq_nil_or_concat (opn l i) with e | ⟨u, x, e⟩
  · exact absurd e h
  · rw [List.concat_eq_append] at e
    have hx : x ∈ opn l i := by rw [e]; simp
    obtain ⟨t, ht⟩ := opn_pre hx
    have hlt := opn_lt hx
    have hs := opn_srt (l := l) i
    rcases List.eq_nil_or_concat t with rfl | ⟨u', y, rfl⟩
    · exact ⟨x, ht, hlt.1, hlt.2, by rw [e, topN_snoc]⟩
    · exfalso
      rw [List.concat_eq_append] at ht
      have e2 : u ++ [x] = (opn l x ++ x :: u') ++ [y] := by rw [← e, ht]; simp
      have hy : x = y := by
        have := congrArg List.getLast? e2
        rw [List.getLast?_append, List.getLast?_append] at this
        simpa using this
      rw [ht, List.pairwise_append] at hs
      have h3 := (List.pairwise_cons.1 hs.2.1).1 y (by simp)
      omega
/-- A Loop's End. -/
def EnAt (l : List Ins) (en : List Int) (k : Nat) : Prop := ∃ e : Nat, en.getD k 0 = (e : Int) ∧ k < e ∧ e < l.length ∧ opA l e = 18 ∧ opn l e = opn l k ++ [k]
/-- Loops that are right. -/
structure LpR (l : List Ins) (lp en : List Int) : Prop where
  in3 : ∀ i, i < l.length → opA l i = 17 → (opn l i).length < 3
  pos : ∀ i, i < l.length → opA l i = 18 → opn l i ≠ []
  fin : opn l l.length = []
  lp : ∀ i, i < l.length → lp.getD i 0 = topN (opn l i)
  en : ∀ k, k < l.length → opA l k = 17 → EnAt l en k
theorem opn_endAt {l : List Ins} {i : Nat} (h : opA l i = 18) {k : Nat} (e : opn l i = opn l k ++ [k]) : opn l (i + 1) = opn l k := by rw [opn_end h, e, List.dropLast_concat]
theorem loopF_opn (l : List Ins) : ∀ (f i : Nat) (lp en : List Int), l.length - i < f → i ≤ l.length → lp.length = l.length → en.length = l.length → (opn l i).length ≤ 3 →
    (∀ k, k < i → lp.getD k 0 = topN (opn l k)) → (∀ k, k < i → opA l k = 17 → k ∈ opn l i ∨ EnAt l en k) → (∀ k, k < i → opA l k = 17 → (opn l k).length < 3) → (∀ k, k < i → opA l k = 18 → opn l k ≠ []) →
    (loopF l f i (cN (opn l i)) lp en).1 = -1 → LpR l (loopF l f i (cN (opn l i)) lp en).2.1 (loopF l f i (cN (opn l i)) lp en).2.2 := by
  intro f
  induction f with
  | zero => intro i lp en h1; omega
  | succ f ih =>
    intro i lp en h1 h2 h3 h4 h9 h5 h6 h7 h8 hr
    rw [loopF] at hr ⊢
    by_cases hi : i < l.length
    · rw [decide_eq_true hi, cond_true] at hr ⊢
      have hlp : ∀ k, k < i + 1 → (lp.set i (topF (cN (opn l i)))).getD k 0 = topN (opn l k) := by
        intro k hk
        rw [getD_set (by omega)]
        split
        · rename_i e; subst e; exact topF_map _
        · exact h5 k (by omega)
      by_cases c1 : opA l i = 17
      · have e1 : ((l.getD i insD).op == 17) = true := by rw [beq_iff_eq]; exact c1
        rw [e1, cond_true] at hr ⊢
        cases m3 : (((cN (opn l i)).length : Int) == 3) with
        | true => rw [m3, cond_true] at hr; simp only at hr; omega
        | false =>
          rw [m3, cond_false] at hr
          rw [cond_false]
          have hne : (opn l i).length < 3 := by
            have := beq_eq_false_iff_ne.mp m3
            rw [cN_len] at this; omega
          rw [← cN_snoc, ← opn_loop c1] at hr ⊢
          refine ih (i + 1) _ en (by omega) (by omega) (by rw [List.length_set]; exact h3) h4 (by rw [opn_loop c1, List.length_append]; simp; omega) hlp (fun k hk hop => ?_) (fun k hk hop => ?_) (fun k hk hop => ?_) hr
          · rw [opn_loop c1]
            rcases Nat.lt_succ_iff_lt_or_eq.1 hk with hk | rfl
            · rcases h6 k hk hop with h | h
              · exact .inl (List.mem_append_left _ h)
              · exact .inr h
            · exact .inl (by simp)
          · rcases Nat.lt_succ_iff_lt_or_eq.1 hk with hk | rfl
            · exact h7 k hk hop
            · exact hne
          · rcases Nat.lt_succ_iff_lt_or_eq.1 hk with hk | rfl
            · exact h8 k hk hop
            · omega
      · have e1 : ((l.getD i insD).op == 17) = false := by rw [beq_eq_false_iff_ne]; exact c1
        rw [e1, cond_false] at hr ⊢
        by_cases c2 : opA l i = 18
        · have e2 : ((l.getD i insD).op == 18) = true := by rw [beq_iff_eq]; exact c2
          rw [e2, cond_true] at hr ⊢
          cases m0 : (((cN (opn l i)).length : Int) == 0) with
          | true => rw [m0, cond_true] at hr; simp only at hr; omega
          | false =>
            rw [m0, cond_false] at hr
            rw [cond_false]
            have hne : opn l i ≠ [] := by
              intro e
              have := beq_eq_false_iff_ne.mp m0
              rw [e] at this; exact this rfl
            obtain ⟨k, k1, k2, k3, k4⟩ := opn_top hne
            have ht : (cN (opn l i)).take ((cN (opn l i)).length - 1) = cN (opn l (i + 1)) := by
              rw [opn_endAt c2 k1, k1, cN_snoc]; simp
            have htop : (topF (cN (opn l i))).toNat = k := by rw [topF_map, k4]; simp
            rw [ht, htop] at hr ⊢
            have hen : EnAt l (en.set k i) k := ⟨i, by rw [getD_set (by omega), if_pos rfl], k2, hi, c2, k1⟩
            refine ih (i + 1) _ _ (by omega) (by omega) (by rw [List.length_set]; exact h3) (by rw [List.length_set]; exact h4) (by rw [opn_end c2, List.length_dropLast]; omega) hlp (fun q hq hop => ?_) (fun q hq hop => ?_) (fun q hq hop => ?_) hr
            · by_cases hqk : q = k
              · subst hqk; exact .inr hen
              · rcases Nat.lt_succ_iff_lt_or_eq.1 hq with hq | rfl
                · rcases h6 q hq hop with h | h
                  · rw [opn_endAt c2 k1]
                    rw [k1] at h
                    rcases List.mem_append.1 h with h | h
                    · exact .inl h
                    · simp only [List.mem_singleton] at h; exact absurd h hqk
                  · obtain ⟨e, a1, a2⟩ := h
                    exact .inr ⟨e, by rw [getD_set (by omega), if_neg (by omega)]; exact a1, a2⟩
                · omega
            · rcases Nat.lt_succ_iff_lt_or_eq.1 hq with hq | rfl
              · exact h7 q hq hop
              · omega
            · rcases Nat.lt_succ_iff_lt_or_eq.1 hq with hq | rfl
              · exact h8 q hq hop
              · exact hne
        · have e2 : ((l.getD i insD).op == 18) = false := by rw [beq_eq_false_iff_ne]; exact c2
          rw [e2, cond_false] at hr ⊢
          rw [← opn_other c1 c2] at hr ⊢
          rw [show topF (cN (opn l (i + 1))) = topF (cN (opn l i)) by rw [opn_other c1 c2]] at hr ⊢
          refine ih (i + 1) _ en (by omega) (by omega) (by rw [List.length_set]; exact h3) h4 (by rw [opn_other c1 c2]; exact h9) hlp (fun q hq hop => ?_) (fun q hq hop => ?_) (fun q hq hop => ?_) hr
          · rw [opn_other c1 c2]
            rcases Nat.lt_succ_iff_lt_or_eq.1 hq with hq | rfl
            · exact h6 q hq hop
            · omega
          · rcases Nat.lt_succ_iff_lt_or_eq.1 hq with hq | rfl
            · exact h7 q hq hop
            · omega
          · rcases Nat.lt_succ_iff_lt_or_eq.1 hq with hq | rfl
            · exact h8 q hq hop
            · omega
    · rw [decide_eq_false hi, cond_false] at hr ⊢
      have hi' : i = l.length := by omega
      subst hi'
      have hnil : opn l l.length = [] := by
        cases hp : decide (((cN (opn l l.length)).length : Int) > 0) with
        | true =>
          rw [hp, cond_true] at hr
          exfalso
          cases hs : opn l l.length with
          | nil => rw [hs] at hp; simp [cN] at hp
          | cons a r => rw [hs] at hr; simp [cN] at hr
        | false =>
          rw [cN_len] at hp
          simp only [decide_eq_false_iff_not] at hp
          exact List.eq_nil_of_length_eq_zero (by omega)
      refine ⟨fun k hk ho => h7 k hk ho, fun k hk ho => h8 k hk ho, hnil, h5, fun k hk ho => ?_⟩
      rcases h6 k hk ho with h | h
      · rw [hnil] at h; simp at h
      · exact h
/-- The checker's Loops. -/
theorem lo0_right {l : List Ins} (h : (lo0 l).1 = -1) : LpR l (lo0 l).2.1 (lo0 l).2.2 :=
  loopF_opn l (l.length + 1) 0 (nul l.length) (nul l.length) (by omega) (by omega) (nul_len _) (nul_len _) (by simp [opn]) (fun k hk => by omega) (fun k hk => by omega) (fun k hk => by omega) (fun k hk => by omega) h

section
variable {l : List Ins} {lp en : List Int}
/-- Where a Loop is open. -/
theorem LpR.mem (h : LpR l lp en) {k i : Nat} (hk : k < l.length) (ho : opA l k = 17) : k ∈ opn l i ↔ k < i ∧ (i : Int) ≤ en.getD k 0 := by
  obtain ⟨e, e1, e2, e3, e4, e5⟩ := h.en k hk ho
  rw [e1]
  constructor
  · intro hm
    refine ⟨(opn_lt hm).1, ?_⟩
    refine Classical.byContradiction fun hn => ?_
    have hg : k ∉ opn l (e + 1) := by rw [opn_endAt e4 e5]; exact opn_self
    have := opn_gone (d := i - (e + 1)) (by omega) hg
    rw [show e + 1 + (i - (e + 1)) = i by omega] at this
    exact this hm
  · intro hm
    refine Classical.byContradiction fun hn => ?_
    have := opn_gone (d := e - i) hm.1 hn
    rw [show i + (e - i) = e by omega, e5] at this
    exact this (by simp)
theorem LpR.within (h : LpR l lp en) {i : Nat} : ∀ (f j : Nat), j ≤ l.length → withinF lp en (i : Int) f (topN (opn l j)) = true → ∀ k ∈ opn l j, k ∈ opn l i := by
  intro f
  induction f with
  | zero => intro j _ hw; cases hw
  | succ f ih =>
    intro j hj hw k hk
    have hne : opn l j ≠ [] := List.ne_nil_of_mem hk
    obtain ⟨q, q1, q2, q3, q4⟩ := opn_top hne
    rw [q4, withinF] at hw
    have c0 : decide ((q : Int) ≥ 0) = true := by simp
    rw [c0, cond_true] at hw
    cases c1 : decide ((i : Int) ≤ (q : Int)) with
    | true => rw [c1] at hw; cases hw
    | false =>
      rw [c1, cond_false] at hw
      cases c2 : decide ((i : Int) > en.getD (q : Int).toNat 0) with
      | true => rw [c2] at hw; cases hw
      | false =>
        rw [c2, cond_false] at hw
        simp only [decide_eq_false_iff_not, Int.toNat_natCast] at c1 c2 hw
        have hq : q < l.length := by omega
        rw [q1] at hk
        rcases List.mem_append.1 hk with hk | hk
        · rw [h.lp q hq] at hw
          exact ih q (by omega) hw k hk
        · simp only [List.mem_singleton] at hk; subst hk
          exact (h.mem hq q3).2 ⟨by omega, by omega⟩
end
/-- One that is open here and there. -/
theorem opn_prefix {l : List Ins} {i t : Nat} (h : ∀ k ∈ opn l t, k ∈ opn l i) : ∃ r, opn l i = opn l t ++ r := by
  by_cases hne : opn l t = []
  · exact ⟨opn l i, by rw [hne]; rfl⟩
  · obtain ⟨q, q1, _⟩ := opn_top hne
    obtain ⟨r, hr⟩ := opn_pre (h q (by rw [q1]; simp))
    exact ⟨r, by rw [hr, q1]; simp⟩
theorem inL_opn {l : List Ins} {k t : Nat} (ht : t ≤ l.length) : ∀ (d j : Nat) (r : List Nat), t - j = d → j ≤ t → k < j → opn l j = opn l k ++ k :: r → (inL ((l.take t).drop j) r.length = true ↔ k ∈ opn l t) := by
  intro d
  induction d with
  | zero =>
    intro j r h1 h2 h3 h4
    have : j = t := by omega
    subst this
    rw [List.drop_eq_nil_of_le (by rw [List.length_take]; omega), h4]
    simp [inL]
  | succ d ih =>
    intro j r h1 h2 h3 h4
    have hj : j < (l.take t).length := by rw [List.length_take]; omega
    rw [List.drop_eq_getElem_cons hj, inL]
    have he : (l.take t)[j] = l.getD j insD := by rw [List.getElem_take, List.getD_eq_getElem?_getD, List.getElem?_eq_getElem (by omega)]; rfl
    rw [he]
    by_cases c1 : opA l j = 17
    · have e1 : ((l.getD j insD).op == 17) = true := by rw [beq_iff_eq]; exact c1
      rw [e1, cond_true]
      have := ih (j + 1) (r ++ [j]) (by omega) (by omega) (by omega) (by rw [opn_loop c1, h4]; simp)
      rw [List.length_append] at this
      exact this
    · have e1 : ((l.getD j insD).op == 17) = false := by rw [beq_eq_false_iff_ne]; exact c1
      rw [e1, cond_false]
      by_cases c2 : opA l j = 18
      · have e2 : ((l.getD j insD).op == 18) = true := by rw [beq_iff_eq]; exact c2
        rw [e2, cond_true]
        rcases List.eq_nil_or_concat r with rfl | ⟨u, x, rfl⟩
        · have hg : k ∉ opn l (j + 1) := by rw [opn_endAt c2 h4]; exact opn_self
          have := opn_gone (d := t - (j + 1)) (by omega) hg
          rw [show j + 1 + (t - (j + 1)) = t by omega] at this
          simp [this]
        · have := ih (j + 1) u (by omega) (by omega) (by omega) (by rw [opn_end c2, h4, show opn l k ++ k :: (u.concat x) = (opn l k ++ k :: u) ++ [x] by simp, List.dropLast_concat])
          rw [← this]
          simp
      · have e2 : ((l.getD j insD).op == 18) = false := by rw [beq_eq_false_iff_ne]; exact c2
        rw [e2, cond_false]
        exact ih (j + 1) r (by omega) (by omega) (by omega) (by rw [opn_other c1 c2, h4])
theorem inM_opn {l : List Ins} {k t : Nat} (ht : t ≤ l.length) (hk : opA l k = 17) (hlt : k < t) : inM l (k : Int) (t : Int) = true ↔ k ∈ opn l t := by
  unfold inM
  rw [Int.toNat_natCast, Int.toNat_natCast]
  exact inL_opn ht _ (k + 1) [] rfl (by omega) (by omega) (by rw [opn_loop hk])
/-- The loops that a jump leaves. -/
theorem leave_opn {l : List Ins} {i t : Nat} (ht : t ≤ l.length) (hit : i < t) (hpre : ∀ k ∈ opn l t, k ∈ opn l i) : ∀ (f : Nat) (lo : List (Int × Int)) (m : Nat), lo.map (·.1) = cN ((opn l i).take m) → (opn l t).length ≤ m → lo.length < f →
    leaveL l (t : Int) f lo = lo.take (opn l t).length := by
  obtain ⟨r, hr⟩ := opn_prefix hpre
  intro f
  induction f with
  | zero => intro lo m _ _ h; omega
  | succ f ih =>
    intro lo m h1 h2 h3
    have hlen : lo.length = ((opn l i).take m).length := by have := congrArg List.length h1; rwa [List.length_map, cN_len] at this
    rw [leaveL]
    by_cases h0 : lo = []
    · subst h0; simp
    · have hl0 : 0 < lo.length := List.length_pos_iff.2 h0
      rw [decide_eq_true (show (lo.length : Int) > 0 by omega), cond_true]
      have hil : lo.length - 1 < (opn l i).length := by rw [List.length_take] at hlen; omega
      have htop : (topL lo).1 = (((opn l i)[lo.length - 1] : Nat) : Int) := by
        have h4 : (lo.map (·.1))[lo.length - 1]? = some (topL lo).1 := by
          unfold topL
          rw [List.getElem?_map, List.getD_eq_getElem?_getD, List.getElem?_eq_getElem (by omega)]; rfl
        rw [h1] at h4
        unfold cN at h4
        rw [List.getElem?_map, List.getElem?_take_of_lt (by rw [List.length_take] at hlen; omega), List.getElem?_eq_getElem hil] at h4
        exact (Option.some.inj h4).symm
      have hmem : (opn l i)[lo.length - 1] ∈ opn l i := List.getElem_mem _
      obtain ⟨a1, a2⟩ := opn_lt hmem
      have hin := inM_opn (l := l) (t := t) ht a2 (by omega)
      rw [← htop] at hin
      by_cases hle : lo.length ≤ (opn l t).length
      · have : (opn l i)[lo.length - 1] ∈ opn l t := by
          have e : (opn l i)[lo.length - 1] = (opn l t)[lo.length - 1] := by
            have : (opn l i)[lo.length - 1]? = (opn l t)[lo.length - 1]? := by rw [hr, List.getElem?_append_left (by omega)]
            rw [List.getElem?_eq_getElem hil, List.getElem?_eq_getElem (by omega)] at this
            exact Option.some.inj this
          rw [e]; exact List.getElem_mem _
        rw [hin.2 this, Bool.not_true, cond_false, List.take_of_length_le hle]
      · have hno : (opn l i)[lo.length - 1] ∉ opn l t := by
          intro hc
          obtain ⟨q, hq, e⟩ := List.getElem_of_mem hc
          have e2 : (opn l i)[q]'(by rw [hr, List.length_append]; omega) = (opn l t)[q] := by
            have : (opn l i)[q]? = (opn l t)[q]? := by rw [hr, List.getElem?_append_left hq]
            rw [List.getElem?_eq_getElem (by rw [hr, List.length_append]; omega), List.getElem?_eq_getElem hq] at this
            exact Option.some.inj this
          have := List.pairwise_iff_getElem.1 (opn_srt (l := l) i) q (lo.length - 1) (by rw [hr, List.length_append]; omega) hil (by omega)
          omega
        have hf : inM l (topL lo).1 (t : Int) = false := by
          cases hc : inM l (topL lo).1 (t : Int) with
          | true => exact absurd (hin.1 hc) hno
          | false => rfl
        rw [hf, Bool.not_false, cond_true, ih (lo.take (lo.length - 1)) (lo.length - 1) ?_ (by omega) (by rw [List.length_take]; omega), List.take_take, Nat.min_eq_left (by omega)]
        rw [List.map_take, h1]
        unfold cN
        rw [← List.map_take, List.take_take, Nat.min_eq_left (by rw [List.length_take] at hlen; omega)]

def knA (cs : List Value) (off r : Nat) : Bool := boolO (nth cs (off + 1 + r))
def loA (cs : List Value) (off r : Nat) : Int := intO (nth cs (off + 9 + r * 2 + 0))
def hiA (cs : List Value) (off r : Nat) : Int := intO (nth cs (off + 9 + r * 2 + 1))
def coA (cs : List Value) (off : Nat) : Bool := boolO (nth cs off)
/-- A state that tells less than another one. -/
def Cov (a : List Value) (oa : Nat) (b : List Value) (ob : Nat) : Prop := ∀ r, r < 8 → knA a oa r = true → knA b ob r = true ∧ loA a oa r ≤ loA b ob r ∧ hiA b ob r ≤ hiA a oa r
/-- Registers that are as a state tells. -/
def Fits (cs : List Value) (off : Nat) (rs : List Int) : Prop := ∀ r, r < 8 → knA cs off r = true → loA cs off r ≤ rg rs r ∧ rg rs r ≤ hiA cs off r
theorem Fits.cov {a b : List Value} {oa ob : Nat} {rs : List Int} (h : Cov a oa b ob) (hf : Fits b ob rs) : Fits a oa rs := by
  intro r hr hk
  obtain ⟨h1, h2, h3⟩ := h r hr hk
  have := hf r hr h1
  omega
theorem Cov.refl (a : List Value) (oa : Nat) : Cov a oa a oa := fun _ _ h => ⟨h, Int.le_refl _, Int.le_refl _⟩
theorem Cov.trans {a b c : List Value} {oa ob oc : Nat} (h1 : Cov a oa b ob) (h2 : Cov b ob c oc) : Cov a oa c oc := by
  intro r hr hk
  obtain ⟨a1, a2, a3⟩ := h1 r hr hk
  obtain ⟨b1, b2, b3⟩ := h2 r hr a1
  exact ⟨b1, by omega, by omega⟩
theorem Cov.same {a b : List Value} {oa ob : Nat} (h : ∀ j, j < 25 → nth a (oa + j) = nth b (ob + j)) : Cov a oa b ob := by
  intro r hr hk
  have e1 : nth a (oa + 1 + r) = nth b (ob + 1 + r) := by rw [Nat.add_assoc, Nat.add_assoc]; exact h _ (by omega)
  have e2 : nth a (oa + 9 + r * 2 + 0) = nth b (ob + 9 + r * 2 + 0) := by rw [show oa + 9 + r * 2 + 0 = oa + (9 + r * 2) by omega, show ob + 9 + r * 2 + 0 = ob + (9 + r * 2) by omega]; exact h _ (by omega)
  have e3 : nth a (oa + 9 + r * 2 + 1) = nth b (ob + 9 + r * 2 + 1) := by rw [show oa + 9 + r * 2 + 1 = oa + (9 + r * 2 + 1) by omega, show ob + 9 + r * 2 + 1 = ob + (9 + r * 2 + 1) by omega]; exact h _ (by omega)
  unfold knA loA hiA at *
  rw [e1] at hk
  exact ⟨hk, by rw [e2]; exact Int.le_refl _, by rw [e3]; exact Int.le_refl _⟩
section
variable {os cs : List Value} {off i : Nat}
theorem jn_else (h : off + 25 ≤ cs.length) (hi : i < 8) {j : Nat} (h1 : j ≠ off + 1 + i) (h2 : j < off + 9 + i * 2 ∨ off + 9 + i * 2 + 2 ≤ j) : nth (jn os off i cs) j = nth cs j := by
  unfold jn
  generalize (boolO (nth cs (off + 1 + i)) && boolO (nth os (1 + i))) = b
  have l1 : off + 1 + i + [B b].length ≤ cs.length := by simp; omega
  have key : ∀ u v : Int, nth (splice (splice cs (off + 1 + i) [B b]) (off + 9 + i * 2) [I u, I v]) j = nth cs j := by
    intro u v
    rw [nth_splice_out (by rw [splice_len l1]; simp; omega) (by simp; omega), nth_splice_out l1 (by simp; omega)]
  cases b with
  | true => exact key _ _
  | false => exact key _ _
theorem jn_len (h : off + 25 ≤ cs.length) (hi : i < 8) : (jn os off i cs).length = cs.length := (jn_out (j := off) h hi (.inl (Nat.le_refl _))).1
theorem jn_here (h : off + 25 ≤ cs.length) (hi : i < 8) (hk : knA (jn os off i cs) off i = true) :
    knA cs off i = true ∧ knA os 0 i = true ∧ loA (jn os off i cs) off i ≤ loA cs off i ∧ loA (jn os off i cs) off i ≤ loA os 0 i ∧ hiA cs off i ≤ hiA (jn os off i cs) off i ∧ hiA os 0 i ≤ hiA (jn os off i cs) off i := by
  have e1 : nth os (0 + 1 + i) = nth os (1 + i) := by rw [Nat.zero_add]
  have e2 : nth os (0 + 9 + i * 2 + 0) = nth os (9 + i * 2 + 0) := by rw [Nat.zero_add]
  have e3 : nth os (0 + 9 + i * 2 + 1) = nth os (9 + i * 2 + 1) := by rw [Nat.zero_add]
  unfold knA loA hiA at *
  rw [e1, e2, e3]
  unfold jn at hk ⊢
  cases hb : (boolO (nth cs (off + 1 + i)) && boolO (nth os (1 + i))) with
  | false =>
    exfalso
    rw [hb] at hk
    have l1 : off + 1 + i + [B false].length ≤ cs.length := by simp; omega
    rw [nth_splice_out (by rw [splice_len l1]; simp; omega) (by simp; omega), nth_splice_at _ (by omega)] at hk
    exact absurd hk (by decide)
  | true =>
    have l1 : off + 1 + i + [B true].length ≤ cs.length := by simp; omega
    simp only [cond_true]
    generalize hu : r72b (intO (nth cs (off + 9 + i * 2 + 0))) (intO (nth cs (off + 9 + i * 2 + 1))) (intO (nth os (9 + i * 2 + 0))) (intO (nth os (9 + i * 2 + 1))) = u
    generalize hv : r72c (intO (nth cs (off + 9 + i * 2 + 0))) (intO (nth cs (off + 9 + i * 2 + 1))) (intO (nth os (9 + i * 2 + 0))) (intO (nth os (9 + i * 2 + 1))) = v
    have l2 : off + 9 + i * 2 + [I u, I v].length ≤ (splice cs (off + 1 + i) [B true]).length := by rw [splice_len l1]; simp; omega
    rw [nth_splice_in (k := 0) l2 (by simp), nth_splice_in (k := 1) l2 (by simp)]
    simp only [Bool.and_eq_true] at hb
    refine ⟨hb.1, hb.2, ?_, ?_, ?_, ?_⟩
    · show u ≤ _
      rw [← hu]; unfold r72b; split <;> omega
    · show u ≤ _
      rw [← hu]; unfold r72b; split <;> omega
    · show _ ≤ v
      rw [← hv]; unfold r72c; split <;> omega
    · show _ ≤ v
      rw [← hv]; unfold r72c; split <;> omega
end
theorem three_same {a b : List Value} {off r : Nat} (h : ∀ j, j = off + 1 + r ∨ j = off + 9 + r * 2 + 0 ∨ j = off + 9 + r * 2 + 1 → nth a j = nth b j) : knA a off r = knA b off r ∧ loA a off r = loA b off r ∧ hiA a off r = hiA b off r := by
  unfold knA loA hiA
  rw [h _ (.inl rfl), h _ (.inr (.inl rfl)), h _ (.inr (.inr rfl))]
  exact ⟨rfl, rfl, rfl⟩
theorem jn_other {os cs : List Value} {off i r : Nat} (h : off + 25 ≤ cs.length) (hi : i < 8) (hr : r < 8) (hne : r ≠ i) : knA (jn os off i cs) off r = knA cs off r ∧ loA (jn os off i cs) off r = loA cs off r ∧ hiA (jn os off i cs) off r = hiA cs off r :=
  three_same fun j hj => jn_else h hi (by omega) (by omega)
theorem joinFrom_at {os : List Value} {off : Nat} : ∀ (m i : Nat) (cs : List Value), i + m ≤ 8 → off + 25 ≤ cs.length → ∀ r, r < 8 →
    ((r < i ∨ i + m ≤ r) → knA (joinFrom os off m i cs) off r = knA cs off r ∧ loA (joinFrom os off m i cs) off r = loA cs off r ∧ hiA (joinFrom os off m i cs) off r = hiA cs off r) ∧
    (i ≤ r → r < i + m → knA (joinFrom os off m i cs) off r = true → knA cs off r = true ∧ knA os 0 r = true ∧ loA (joinFrom os off m i cs) off r ≤ loA cs off r ∧ loA (joinFrom os off m i cs) off r ≤ loA os 0 r ∧ hiA cs off r ≤ hiA (joinFrom os off m i cs) off r ∧ hiA os 0 r ≤ hiA (joinFrom os off m i cs) off r) := by
  intro m
  induction m with
  | zero => intro i cs h1 h2 r hr; exact ⟨fun _ => ⟨rfl, rfl, rfl⟩, fun a b => by omega⟩
  | succ m ih =>
    intro i cs h1 h2 r hr
    have hl := jn_len (os := os) h2 (i := i) (by omega)
    obtain ⟨a1, a2⟩ := ih (i + 1) (jn os off i cs) (by omega) (by rw [hl]; exact h2) r hr
    rw [joinFrom]
    refine ⟨fun h => ?_, fun h h' hk => ?_⟩
    · obtain ⟨b1, b2, b3⟩ := a1 (by omega)
      obtain ⟨c1, c2, c3⟩ := jn_other (os := os) h2 (i := i) (by omega) hr (by omega)
      exact ⟨b1.trans c1, b2.trans c2, b3.trans c3⟩
    · by_cases e : r = i
      · subst e
        obtain ⟨b1, b2, b3⟩ := a1 (by omega)
        rw [b1] at hk
        rw [b2, b3]
        exact jn_here h2 hr hk
      · obtain ⟨c1, c2, c3⟩ := jn_other (os := os) h2 (i := i) (by omega) hr e
        have := a2 (by omega) (by omega) hk
        rw [c1, c2, c3] at this
        exact this
section
variable {cs os : List Value} {n k : Nat}
/-- A state that is joined with another covers it. -/
theorem join_new (h : StsOk cs n) (hk : k < n) (ho : IsSt os) : Cov (join48 cs (k * 25) os) (k * 25) os 0 := by
  have hl := (h.st k hk).len
  unfold join48
  cases hc : boolO (nth cs (k * 25)) with
  | true =>
    intro r hr hkn
    obtain ⟨_, h2, h3, h4, h5, h6⟩ := (joinFrom_at 8 0 cs (by omega) hl r hr).2 (by omega) (by omega) hkn
    exact ⟨h2, h4, h6⟩
  | false =>
    have h25 := isSt_len ho
    refine Cov.same fun j hj => ?_
    rw [cond_false, nth_splice_in (by omega) (by omega), Nat.zero_add]
theorem join_old (h : StsOk cs n) (hk : k < n) (hc : coA cs (k * 25) = true) : Cov (join48 cs (k * 25) os) (k * 25) cs (k * 25) := by
  have hl := (h.st k hk).len
  unfold coA at hc
  unfold join48
  rw [hc]
  intro r hr hkn
  obtain ⟨h1, h2, h3, h4, h5, h6⟩ := (joinFrom_at 8 0 cs (by omega) hl r hr).2 (by omega) (by omega) hkn
  exact ⟨h1, h3, h5⟩
theorem join_come (h : StsOk cs n) (hk : k < n) (ho : IsSt os) (h0 : coA os 0 = true) : coA (join48 cs (k * 25) os) (k * 25) = true := by
  have hl := (h.st k hk).len
  unfold coA at *
  unfold join48
  cases hc : boolO (nth cs (k * 25)) with
  | true =>
    rw [cond_true, (joinFrom_out (j := k * 25) (.inl (Nat.le_refl _)) 8 0 cs (by omega) hl).2]; exact hc
  | false =>
    have h25 := isSt_len ho
    have := nth_splice_in (cs := cs) (xs := os) (n := k * 25) (k := 0) (by omega) (by omega)
    rw [Nat.add_zero] at this
    rw [cond_false, this]; exact h0
theorem join_else (h : StsOk cs n) (hk : k < n) (ho : IsSt os) {q j : Nat} (hq : q ≠ k) (hj : j < 25) : nth (join48 cs (k * 25) os) (q * 25 + j) = nth cs (q * 25 + j) := by
  have hl := (h.st k hk).len
  have hh : q * 25 + j < k * 25 ∨ k * 25 + 25 ≤ q * 25 + j := by rcases Nat.lt_or_gt_of_ne hq with h | h <;> omega
  unfold join48
  cases hc : boolO (nth cs (k * 25)) with
  | true => rw [cond_true, (joinFrom_out (j := q * 25 + j) (by omega) 8 0 cs (by omega) hl).2]
  | false =>
    have h25 := isSt_len ho
    rw [cond_false, nth_splice_out (by omega) (by omega)]
end

theorem setA_zero {cs : List Value} (h : cs.length = 25) {r : Int} (h0 : 0 ≤ r) (h8 : r < 8) (a b : Int) : nth (setA cs 0 r a b) 0 = nth cs 0 := by
  unfold setA
  have l1 : 0 + 1 + r.toNat * 1 + [B true].length ≤ cs.length := by simp; omega
  rw [nth_splice_out (by rw [splice_len l1]; simp; omega) (.inl (by omega)), nth_splice_out l1 (.inl (by omega))]
theorem bif_zero {c : Bool} {x y : List Value} {o : Option Value} (hx : nth x 0 = o) (hy : nth y 0 = o) : nth (bif c then x else y) 0 = o := by
  cases c
  · exact hy
  · exact hx
theorem c46_zero {cs : List Value} (h : IsSt cs) {op d s imm : Int} (hr : RegP d s) : nth (c46 cs op d s imm) 0 = nth cs 0 := by
  obtain ⟨⟨d0, d1⟩, _, _⟩ := hr
  have hl := isSt_len h
  unfold c46 c70 c85
  repeat' (first | exact rfl | exact setA_zero hl d0 d1 _ _ | exact setA_zero hl (by omega) (by omega) _ _ | refine bif_zero ?_ ?_)
theorem bifP2 {c : Bool} {x y : List Value} {o : Option Value} (hx : c = true → nth x 0 = o) (hy : c = false → nth y 0 = o) : nth (bif c then x else y) 0 = o := by
  cases c
  · exact hy rfl
  · exact hx rfl
theorem widenL_zero : ∀ {l : List Ins} {ss : List Value}, (∀ x ∈ l, right x = true) → IsSt ss → nth (widenL l ss) 0 = nth ss 0
  | [], _, _, _ => rfl
  | x :: r, ss, hl, h => by
    have hx := hl x (List.mem_cons_self ..)
    rw [widenL, widenL_zero (fun y hy => hl y (List.mem_cons_of_mem _ hy)) (wide1_st hx h)]
    unfold wide1
    have h25 := isSt_len h
    refine bifP2 (fun hd => ?_) (fun _ => rfl)
    have := (wrI_le hx).2
    refine bif_zero ?_ rfl
    rw [nth_splice_out (by simp; omega) (.inl (by omega))]
/-- What an instruction makes of a state. -/
def postS (l : List Ins) (en : List Int) (C : List Value) (i : Nat) : List Value :=
  wid25 l en i (l.getD i insD).op (c46 (stAt C i) (l.getD i insD).op (l.getD i insD).d (l.getD i insD).s (l.getD i insD).imm)
theorem getD_mem {l : List Ins} {i : Nat} (h : i < l.length) : l.getD i insD ∈ l := by
  rw [List.getD_eq_getElem?_getD, List.getElem?_eq_getElem h]
  exact List.getElem_mem _
theorem stAt_zero {C : List Value} {i : Nat} : nth (stAt C i) 0 = nth C (i * 25) := by
  rw [stAt, nth_eq, nth_eq, List.getElem?_take_of_lt (by omega), List.getElem?_drop, Nat.add_zero]
theorem postS_st {l : List Ins} {en : List Int} {C : List Value} {i : Nat} (hl : ∀ x ∈ l, right x = true) (h : StsOk C l.length) (hi : i < l.length) : IsSt (postS l en C i) ∧ coA (postS l en C i) 0 = coA C (i * 25) := by
  obtain ⟨_, _, s3⟩ := sta_eq h hi
  have hr := right_regs (hl _ (getD_mem hi))
  have s4 := c46_st (op := (l.getD i insD).op) (imm := (l.getD i insD).imm) s3 hr
  refine ⟨wid25_st hl s4, ?_⟩
  unfold coA
  rw [← stAt_zero, ← c46_zero (op := (l.getD i insD).op) (imm := (l.getD i insD).imm) s3 hr]
  unfold postS wid25
  cases (l.getD i insD).op == 17 with
  | false => rfl
  | true => rw [cond_true, widenL_zero (fun x hx => hl x (List.mem_of_mem_drop (List.mem_of_mem_take hx))) s4]
/-- A place that is right, behind the walk. -/
structure Good (l : List Ins) (lp en : List Int) (C : List Value) (i : Nat) : Prop where
  bad : bad25 l.length lp en (i : Int) (l.getD i insD).op (l.getD i insD).imm = false
  ok : coA C (i * 25) = true → r46 (stAt C i) (l.getD i insD).op (l.getD i insD).d (l.getD i insD).s (l.getD i insD).imm = true
  jmp : coA C (i * 25) = true → r44 (l.getD i insD).op = true → coA C ((l.getD i insD).imm.toNat * 25) = true ∧ Cov C ((l.getD i insD).imm.toNat * 25) (postS l en C i) 0
  nxt : coA C (i * 25) = true → (l.getD i insD).op ≠ 12 → (l.getD i insD).op ≠ 20 → i + 1 < l.length ∧ coA C ((i + 1) * 25) = true ∧ Cov C ((i + 1) * 25) (postS l en C i) 0
theorem join_mono {cs os : List Value} {n k q : Nat} (h : StsOk cs n) (hk : k < n) (ho : IsSt os) (h0 : coA os 0 = true) (hq : coA cs (q * 25) = true) : coA (join48 cs (k * 25) os) (q * 25) = true ∧ Cov (join48 cs (k * 25) os) (q * 25) cs (q * 25) := by
  by_cases e : q = k
  · subst e; exact ⟨join_come h hk ho h0, join_old h hk hq⟩
  · refine ⟨?_, Cov.same fun j hj => join_else h hk ho e hj⟩
    have := join_else h hk ho (os := os) e (j := 0) (by omega)
    unfold coA at *
    rw [Nat.add_zero] at this
    rw [this]; exact hq
theorem stAt_ext {a b : List Value} {i : Nat} (h : ∀ j, j < 25 → nth a (i * 25 + j) = nth b (i * 25 + j)) : stAt a i = stAt b i := by
  apply List.ext_getElem?
  intro j
  by_cases hj : j < 25
  · have := h j hj
    rw [nth_eq, nth_eq] at this
    rw [stAt, stAt, List.getElem?_take_of_lt hj, List.getElem?_take_of_lt hj, List.getElem?_drop, List.getElem?_drop, this]
  · rw [stAt, stAt, List.getElem?_eq_none (by simp; omega), List.getElem?_eq_none (by simp; omega)]
set_option maxHeartbeats 1000000 in
theorem walk_good {l : List Ins} {lp en : List Int} (hl : ∀ x ∈ l, right x = true) : ∀ (f i : Nat) (cst : List Value), l.length - i < f → i ≤ l.length → StsOk cst l.length → PlainL cst → (walkF l lp en f i cst).1 = -1 →
    StsOk (walkF l lp en f i cst).2 l.length ∧ (∀ k, k < i → ∀ j, j < 25 → nth (walkF l lp en f i cst).2 (k * 25 + j) = nth cst (k * 25 + j)) ∧
    (∀ k, k < l.length → coA cst (k * 25) = true → coA (walkF l lp en f i cst).2 (k * 25) = true ∧ Cov (walkF l lp en f i cst).2 (k * 25) cst (k * 25)) ∧
    (∀ k, i ≤ k → k < l.length → Good l lp en (walkF l lp en f i cst).2 k) := by
  intro f
  induction f with
  | zero => intro i cst h1; omega
  | succ f ih =>
    intro i cst h1 h2 h3 h4 hr
    rw [walkF] at hr ⊢
    by_cases hi : i < l.length
    · rw [decide_eq_true hi, cond_true] at hr ⊢
      cases hb : (stepF l lp en i cst).1 with
      | false => rw [hb] at hr; simp only [Bool.not_false, cond_true] at hr; omega
      | true =>
        rw [hb, Bool.not_true, cond_false] at hr
        rw [Bool.not_true, cond_false]
        obtain ⟨s1, s2⟩ := stepF_sts (lp := lp) (en := en) hl hi h3 h4
        obtain ⟨i1, i2, i3, i4⟩ := ih (i + 1) (stepF l lp en i cst).2 (by omega) (by omega) s1 s2 hr
        generalize hC : (walkF l lp en f (i + 1) (stepF l lp en i cst).2).2 = C at i1 i2 i3 i4
        -- the step
        have key : (∀ q, q ≤ i → ∀ j, j < 25 → nth (stepF l lp en i cst).2 (q * 25 + j) = nth cst (q * 25 + j)) ∧
            (∀ q, coA cst (q * 25) = true → coA (stepF l lp en i cst).2 (q * 25) = true ∧ Cov (stepF l lp en i cst).2 (q * 25) cst (q * 25)) ∧
            bad25 l.length lp en (i : Int) (l.getD i insD).op (l.getD i insD).imm = false ∧
            (coA cst (i * 25) = true → r46 (stAt cst i) (l.getD i insD).op (l.getD i insD).d (l.getD i insD).s (l.getD i insD).imm = true ∧
              (r44 (l.getD i insD).op = true → (l.getD i insD).imm.toNat < l.length ∧ coA (stepF l lp en i cst).2 ((l.getD i insD).imm.toNat * 25) = true ∧ Cov (stepF l lp en i cst).2 ((l.getD i insD).imm.toNat * 25) (postS l en cst i) 0) ∧
              ((l.getD i insD).op ≠ 12 → (l.getD i insD).op ≠ 20 → i + 1 < l.length ∧ coA (stepF l lp en i cst).2 ((i + 1) * 25) = true ∧ Cov (stepF l lp en i cst).2 ((i + 1) * 25) (postS l en cst i) 0)) := by
          obtain ⟨p1, p2⟩ := postS_st (en := en) hl h3 hi
          have hs : (stepF l lp en i cst) = bif bad25 l.length lp en i (l.getD i insD).op (l.getD i insD).imm then (false, cst) else
              bif !boolO (nth cst (i * 25)) then (true, cst) else
              bif !r46 (stAt cst i) (l.getD i insD).op (l.getD i insD).d (l.getD i insD).s (l.getD i insD).imm then (false, cst) else
              fin25 (l.getD i insD).op l.length i (jmp25 (l.getD i insD).op (l.getD i insD).imm cst (postS l en cst i)) (postS l en cst i) := rfl
          rw [hs] at hb ⊢
          clear hs
          generalize postS l en cst i = S at *
          cases c1 : bad25 l.length lp en i (l.getD i insD).op (l.getD i insD).imm with
          | true => rw [c1] at hb; cases hb
          | false =>
            rw [c1, cond_false] at hb
            rw [cond_false]
            cases c2 : boolO (nth cst (i * 25)) with
            | false =>
              refine ⟨fun q _ j _ => rfl, fun q hq => ⟨hq, Cov.refl _ _⟩, rfl, fun hc => ?_⟩
              unfold coA at hc
              rw [c2] at hc; cases hc
            | true =>
              have hS : coA S 0 = true := by rw [p2]; exact c2
              rw [c2, Bool.not_true, cond_false] at hb
              rw [Bool.not_true, cond_false]
              cases c3 : r46 (stAt cst i) (l.getD i insD).op (l.getD i insD).d (l.getD i insD).s (l.getD i insD).imm with
              | false => rw [c3] at hb; cases hb
              | true =>
                rw [c3, Bool.not_true, cond_false] at hb
                rw [Bool.not_true, cond_false]
                -- the jump
                have hJ : StsOk (jmp25 (l.getD i insD).op (l.getD i insD).imm cst S) l.length ∧ (∀ q, q ≤ i → ∀ j, j < 25 → nth (jmp25 (l.getD i insD).op (l.getD i insD).imm cst S) (q * 25 + j) = nth cst (q * 25 + j)) ∧
                    (∀ q, coA cst (q * 25) = true → coA (jmp25 (l.getD i insD).op (l.getD i insD).imm cst S) (q * 25) = true ∧ Cov (jmp25 (l.getD i insD).op (l.getD i insD).imm cst S) (q * 25) cst (q * 25)) ∧
                    (r44 (l.getD i insD).op = true → (l.getD i insD).imm.toNat < l.length ∧ coA (jmp25 (l.getD i insD).op (l.getD i insD).imm cst S) ((l.getD i insD).imm.toNat * 25) = true ∧ Cov (jmp25 (l.getD i insD).op (l.getD i insD).imm cst S) ((l.getD i insD).imm.toNat * 25) S 0) := by
                  unfold jmp25
                  cases c4 : r44 (l.getD i insD).op with
                  | false => exact ⟨h3, fun q _ j _ => rfl, fun q hq => ⟨hq, Cov.refl _ _⟩, fun h => by cases h⟩
                  | true =>
                    obtain ⟨q1, q2, q3⟩ := jump_imm c1 c4 (by omega)
                    have hgt : i < (l.getD i insD).imm.toNat := by
                      unfold bad25 at c1
                      rw [c4, cond_true] at c1
                      cases c5 : decide ((l.getD i insD).imm ≤ (i : Int)) with
                      | true => rw [c5] at c1; cases c1
                      | false => simp only [decide_eq_false_iff_not] at c5; omega
                    rw [cond_true]
                    exact ⟨join48_sts h3 q3 p1, fun q hq j hj => join_else h3 q3 p1 (by omega) hj, fun q hq => join_mono h3 q3 p1 hS hq, fun _ => ⟨q3, join_come h3 q3 p1 hS, join_new h3 q3 p1⟩⟩
                generalize jmp25 (l.getD i insD).op (l.getD i insD).imm cst S = J at hJ hb ⊢
                obtain ⟨j1, j2, j3, j4⟩ := hJ
                unfold fin25 at hb ⊢
                cases c5 : (l.getD i insD).op == 12 with
                | true =>
                  have e := beq_iff_eq.1 c5
                  exact ⟨j2, j3, rfl, fun _ => ⟨rfl, j4, fun h => absurd e h⟩⟩
                | false =>
                  rw [c5, cond_false] at hb
                  rw [cond_false]
                  cases c6 : (l.getD i insD).op == 20 with
                  | true =>
                    have e := beq_iff_eq.1 c6
                    exact ⟨j2, j3, rfl, fun _ => ⟨rfl, j4, fun _ h => absurd e h⟩⟩
                  | false =>
                    rw [c6, cond_false] at hb
                    rw [cond_false]
                    cases c7 : ((i + 1 : Nat) : Int) == (l.length : Int) with
                    | true => rw [c7] at hb; cases hb
                    | false =>
                      have hlt : i + 1 < l.length := by
                        have := beq_eq_false_iff_ne.mp c7
                        omega
                      rw [cond_false]
                      refine ⟨fun q hq j hj => (join_else j1 hlt p1 (by omega) hj).trans (j2 q hq j hj), fun q hq => ?_, rfl, fun _ => ⟨rfl, fun h => ?_, fun _ _ => ⟨hlt, join_come j1 hlt p1 hS, join_new j1 hlt p1⟩⟩⟩
                      · obtain ⟨a1, a2⟩ := j3 q hq
                        obtain ⟨b1, b2⟩ := join_mono j1 hlt p1 hS a1
                        exact ⟨b1, b2.trans a2⟩
                      · obtain ⟨a1, a2, a3⟩ := j4 h
                        obtain ⟨b1, b2⟩ := join_mono j1 hlt p1 hS a2
                        exact ⟨a1, b1, b2.trans a3⟩
        obtain ⟨k1, k2, k3, k4⟩ := key
        have hst : stAt C i = stAt cst i := stAt_ext fun j hj => (i2 i (by omega) j hj).trans (k1 i (Nat.le_refl _) j hj)
        have hco : coA C (i * 25) = coA cst (i * 25) := by
          have := (i2 i (by omega) 0 (by omega)).trans (k1 i (Nat.le_refl _) 0 (by omega))
          rw [Nat.add_zero] at this
          unfold coA; rw [this]
        have hpo : postS l en C i = postS l en cst i := by unfold postS; rw [hst]
        refine ⟨i1, fun k hk j hj => (i2 k (by omega) j hj).trans (k1 k (by omega) j hj), fun k hk hc => ?_, fun k hk hkn => ?_⟩
        · obtain ⟨a1, a2⟩ := k2 k hc
          obtain ⟨b1, b2⟩ := i3 k hk a1
          exact ⟨b1, b2.trans a2⟩
        · by_cases e : k = i
          · subst e
            refine ⟨k3, fun hc => ?_, fun hc hj => ?_, fun hc h12 h20 => ?_⟩
            · rw [hst]; exact (k4 (hco ▸ hc)).1
            · obtain ⟨a0, a1, a2⟩ := (k4 (hco ▸ hc)).2.1 hj
              obtain ⟨b1, b2⟩ := i3 _ a0 a1
              rw [hpo]
              exact ⟨b1, b2.trans a2⟩
            · obtain ⟨a0, a1, a2⟩ := (k4 (hco ▸ hc)).2.2 h12 h20
              obtain ⟨b1, b2⟩ := i3 _ a0 a1
              rw [hpo]
              exact ⟨a0, b1, b2.trans a2⟩
          · exact i4 k (by omega) hkn
    · rw [decide_eq_false hi, cond_false]
      exact ⟨h3, fun k _ j _ => rfl, fun k _ hc => ⟨hc, Cov.refl _ _⟩, fun k hk hkn => by omega⟩

/-- A number that a register may have. -/
abbrev In40 (a : Int) : Prop := -1099511627776 ≤ a ∧ a ≤ 1099511627776
theorem r28_in (a : Int) : In40 (r28 a) := by unfold r28 In40; split <;> split <;> omega
theorem r28_id {a : Int} (h : In40 a) : r28 a = a := by unfold r28; unfold In40 at h; split <;> split <;> omega
theorem r28_mono {a b : Int} (h : a ≤ b) : r28 a ≤ r28 b := by
  unfold r28
  repeat' split
  all_goals omega
theorem mul_bd {a b : Int} {A B : Nat} (ha : a.natAbs ≤ A) (hb : b.natAbs ≤ B) : (a * b).natAbs ≤ A * B := by
  rw [Int.natAbs_mul]; exact Nat.mul_le_mul ha hb
theorem mul_ge {a b : Int} {A B : Nat} (ha : A ≤ a.natAbs) (hb : B ≤ b.natAbs) : A * B ≤ (a * b).natAbs := by
  rw [Int.natAbs_mul]; exact Nat.mul_le_mul ha hb
/-- Times, in plain words. -/
theorem r77_eq {a b : Int} (ha : In40 a) (hb : -2147483648 ≤ b ∧ b < 2147483648) : r77 a b = r28 (a * b) := by
  unfold In40 at ha
  have small : (a.natAbs ≤ 1073741824 ∨ b.natAbs ≤ 1048576) → r28 (w (a * b)) = r28 (a * b) := by
    intro h
    have : (a * b).natAbs ≤ 2305843009213693952 := by
      rcases h with h | h
      · exact Nat.le_trans (mul_bd h (show b.natAbs ≤ 2147483648 by omega)) (by decide)
      · exact Nat.le_trans (mul_bd (show a.natAbs ≤ 1099511627776 by omega) h) (by decide)
    rw [w_id (by omega) (by omega)]
  have big : 1073741824 ≤ a.natAbs → 1048576 ≤ b.natAbs → 1125899906842624 ≤ (a * b).natAbs := fun h1 h2 => mul_ge h1 h2
  have sat : ∀ x : Int, 1099511627776 ≤ x → r28 x = 1099511627776 := by intro x hx; unfold r28; split <;> split <;> omega
  have sat' : ∀ x : Int, x ≤ -1099511627776 → r28 x = -1099511627776 := by intro x hx; unfold r28; split <;> split <;> omega
  unfold r77
  by_cases b0 : b = 0
  · subst b0; rw [Int.mul_zero]; rfl
  · by_cases a0 : a = 0
    · subst a0
      rw [Int.zero_mul]
      simp; rfl
    · rw [beq_eq_false_iff_ne.2 b0, beq_eq_false_iff_ne.2 a0]
      simp only [cond_false]
      by_cases c1 : a > 1073741824
      · simp only [c1, decide_true, cond_true]
        by_cases c2 : b > 1048576
        · have := big (by omega) (by omega)
          have hp : 0 ≤ a * b := Int.mul_nonneg (by omega) (by omega)
          simp only [c2, decide_true, cond_true, show a > 0 by omega, show b > 0 by omega, beq_self_eq_true]
          rw [sat _ (by omega)]
        · simp only [c2, decide_false, cond_false]
          by_cases c3 : b < -1048576
          · have := big (by omega) (by omega)
            have hp : a * b ≤ 0 := Int.mul_nonpos_of_nonneg_of_nonpos (by omega) (by omega)
            simp only [c3, decide_true, cond_true, show a > 0 by omega, show ¬ b > 0 by omega, decide_false]
            rw [sat' _ (by omega)]; rfl
          · simp only [c3, decide_false, cond_false]
            exact small (.inr (by omega))
      · simp only [c1, decide_false, cond_false]
        by_cases c1' : a < -1073741824
        · simp only [c1', decide_true, cond_true]
          by_cases c2 : b > 1048576
          · have := big (by omega) (by omega)
            have hp : a * b ≤ 0 := Int.mul_nonpos_of_nonpos_of_nonneg (by omega) (by omega)
            simp only [c2, decide_true, cond_true, show ¬ a > 0 by omega, show b > 0 by omega, decide_false]
            rw [sat' _ (by omega)]; rfl
          · simp only [c2, decide_false, cond_false]
            by_cases c3 : b < -1048576
            · have := big (by omega) (by omega)
              have hp : 0 ≤ a * b := Int.mul_nonneg_of_nonpos_of_nonpos (by omega) (by omega)
              simp only [c3, decide_true, cond_true, show ¬ a > 0 by omega, show ¬ b > 0 by omega, decide_false, beq_self_eq_true]
              rw [sat _ (by omega)]
            · simp only [c3, decide_false, cond_false]
              exact small (.inr (by omega))
        · simp only [c1', decide_false, cond_false]
          exact small (.inl (by omega))
/-- A product's ends. -/
theorem times_in {a b v c : Int} (ha : In40 a) (hb : In40 b) (hc : -2147483648 ≤ c ∧ c < 2147483648) (h1 : a ≤ v) (h2 : v ≤ b) : r52b a b c ≤ r77 v c ∧ r77 v c ≤ r52c a b c := by
  have hv : In40 v := by unfold In40 at *; omega
  unfold r52b r52c
  rw [r77_eq ha hc, r77_eq hb hc, r77_eq hv hc]
  rcases Int.le_total 0 c with h | h
  · have e1 := r28_mono (Int.mul_le_mul_of_nonneg_right h1 h)
    have e2 := r28_mono (Int.mul_le_mul_of_nonneg_right h2 h)
    split <;> split <;> omega
  · have e1 := r28_mono (Int.mul_le_mul_of_nonpos_right h1 h)
    have e2 := r28_mono (Int.mul_le_mul_of_nonpos_right h2 h)
    split <;> split <;> omega
theorem r77_in {a b : Int} (ha : In40 a) (hb : -2147483648 ≤ b ∧ b < 2147483648) : In40 (r77 a b) := by rw [r77_eq ha hb]; exact r28_in _
theorem right_r51 {x : Ins} (h : right x = true) : r51 x.op x.d x.s x.imm = true := by
  unfold right r29 at h
  cases h1 : r50 x.d <;> simp only [h1, Bool.not_true, Bool.not_false, cond_true, cond_false] at h
  · simp at h
  cases h2 : r50 x.s <;> simp only [h2, Bool.not_true, Bool.not_false, cond_true, cond_false] at h
  · simp at h
  cases h3 : decide (x.imm < -2147483648) <;> simp only [h3, cond_true, cond_false] at h
  · cases h4 : decide (x.imm ≥ 2147483648) <;> simp only [h4, cond_true, cond_false] at h
    · cases h5 : r51 x.op x.d x.s x.imm with
      | true => rfl
      | false => rw [h5] at h; simp at h
    · simp at h
  · simp at h
/-! A state in which a register is told. -/
section
variable {cs : List Value} {d : Nat} {a b : Int}
theorem setA_at (h : cs.length = 25) (hd : d < 8) : knA (setA cs 0 (d : Int) a b) 0 d = true ∧ loA (setA cs 0 (d : Int) a b) 0 d = a ∧ hiA (setA cs 0 (d : Int) a b) 0 d = b := by
  unfold setA knA loA hiA
  rw [Int.toNat_natCast, Nat.mul_one]
  have l1 : 0 + 1 + d + [B true].length ≤ cs.length := by simp; omega
  have l2 : 0 + 9 + d * 2 + [I a, I b].length ≤ (splice cs (0 + 1 + d) [B true]).length := by rw [splice_len l1]; simp; omega
  refine ⟨?_, ?_, ?_⟩
  · rw [nth_splice_out l2 (.inl (by omega)), nth_splice_at _ (by omega)]; rfl
  · rw [nth_splice_in (k := 0) l2 (by simp)]; rfl
  · rw [nth_splice_in (k := 1) l2 (by simp)]; rfl
theorem setA_else (h : cs.length = 25) (hd : d < 8) {r : Nat} (hr : r < 8) (hne : r ≠ d) : knA (setA cs 0 (d : Int) a b) 0 r = knA cs 0 r ∧ loA (setA cs 0 (d : Int) a b) 0 r = loA cs 0 r ∧ hiA (setA cs 0 (d : Int) a b) 0 r = hiA cs 0 r := by
  refine three_same fun j hj => ?_
  unfold setA
  rw [Int.toNat_natCast, Nat.mul_one]
  have l1 : 0 + 1 + d + [B true].length ≤ cs.length := by simp; omega
  have l2 : 0 + 9 + d * 2 + [I a, I b].length ≤ (splice cs (0 + 1 + d) [B true]).length := by rw [splice_len l1]; simp; omega
  rw [nth_splice_out l2 (by simp; omega), nth_splice_out l1 (by simp; omega)]
theorem rg_set {rs : List Int} (h : rs.length = 8) (hd : d < 8) {r : Nat} (v : Int) : rg (rs.set d v) r = if r = d then v else rg rs r := by
  unfold rg
  rw [List.getD_eq_getElem?_getD, List.getD_eq_getElem?_getD, List.getElem?_set]
  by_cases e : d = r
  · subst e; simp [h, hd]
  · rw [if_neg e, if_neg (by omega)]
theorem fits_setA {rs : List Int} {v : Int} (h : cs.length = 25) (h8 : rs.length = 8) (hd : d < 8) (hf : Fits cs 0 rs) (h1 : a ≤ v) (h2 : v ≤ b) : Fits (setA cs 0 (d : Int) a b) 0 (rs.set d v) := by
  intro r hr hk
  rw [rg_set h8 hd]
  by_cases e : r = d
  · subst e
    obtain ⟨_, e2, e3⟩ := setA_at (a := a) (b := b) h hd
    rw [e2, e3, if_pos rfl]; exact ⟨h1, h2⟩
  · obtain ⟨e1, e2, e3⟩ := setA_else (a := a) (b := b) h hd hr e
    rw [e1] at hk
    rw [e2, e3, if_neg e]
    exact hf r hr hk
end
/-- Registers that have numbers that they may have. -/
def Bd (rs : List Int) : Prop := ∀ r, r < 8 → In40 (rg rs r)
theorem Bd.set {rs : List Int} (h8 : rs.length = 8) (h : Bd rs) {d : Nat} (hd : d < 8) {v : Int} (hv : In40 v) : Bd (rs.set d v) := by
  intro r hr
  rw [rg_set h8 hd]
  split
  · exact hv
  · exact h r hr
/-- Spans that a register may have. -/
def SpB (cs : List Value) (off : Nat) : Prop := ∀ r, r < 8 → In40 (loA cs off r) ∧ In40 (hiA cs off r)
theorem SpB.setA {cs : List Value} {d : Nat} {a b : Int} (h : cs.length = 25) (hd : d < 8) (hs : SpB cs 0) (h1 : In40 a) (h2 : In40 b) : SpB (setA cs 0 (d : Int) a b) 0 := by
  intro r hr
  by_cases e : r = d
  · subst e
    obtain ⟨_, e2, e3⟩ := setA_at (a := a) (b := b) h hd
    rw [e2, e3]; exact ⟨h1, h2⟩
  · obtain ⟨_, e2, e3⟩ := setA_else (a := a) (b := b) h hd hr e
    rw [e2, e3]; exact hs r hr

theorem raw1_val (b : UInt8) : raw1 b = (b.toNat : Int) := by
  have hb : b.toNat < 256 := b.toNat_lt
  have h1 : w (b.toNat : Int) = (b.toNat : Int) := w_id (by omega) (by omega)
  unfold raw1
  rw [h1]
  have h2 : (BitVec.ofInt 64 0).or (BitVec.ofInt 64 (b.toNat : Int)) = BitVec.ofInt 64 (b.toNat : Int) := by
    show (BitVec.ofInt 64 0) ||| (BitVec.ofInt 64 (b.toNat : Int)) = _
    simp
  rw [h2]
  have h3 : (BitVec.ofInt 64 (b.toNat : Int)).toNat = b.toNat := by
    rw [BitVec.ofInt_natCast, BitVec.toNat_ofNat]
    omega
  rw [h3, h1]
theorem raw2_val (a b : UInt8) : raw2 a b = ((a.toNat + 256 * b.toNat : Nat) : Int) := by
  have ha : a.toNat < 256 := a.toNat_lt
  have hb : b.toNat < 256 := b.toNat_lt
  have h1 : w (a.toNat : Int) = (a.toNat : Int) := w_id (by omega) (by omega)
  unfold raw2
  rw [h1, raw1_val]
  have h2 : w ((b.toNat : Int) * 256) = ((b.toNat * 256 : Nat) : Int) := by rw [w_id (by omega) (by omega)]; omega
  rw [h2, BitVec.ofInt_natCast, BitVec.ofInt_natCast]
  have h3 : ((BitVec.ofNat 64 (b.toNat * 256)).or (BitVec.ofNat 64 a.toNat)).toNat = a.toNat + 256 * b.toNat := by
    show ((BitVec.ofNat 64 (b.toNat * 256)) ||| (BitVec.ofNat 64 a.toNat)).toNat = _
    rw [BitVec.toNat_or, BitVec.toNat_ofNat, BitVec.toNat_ofNat, Nat.mod_eq_of_lt (by omega), Nat.mod_eq_of_lt (by omega)]
    have := Nat.two_pow_add_eq_or_of_lt (i := 8) (b := a.toNat) (by omega) b.toNat
    rw [show b.toNat * 256 = 2 ^ 8 * b.toNat by omega, ← this]
    omega
  rw [h3, w_id (by omega) (by omega)]
theorem r80_in1 {s : ByteArray} (h : s.size = 1) : 0 ≤ r80 s ∧ r80 s ≤ 255 := by
  have hl : s.data.toList.length = 1 := h
  unfold r80
  match hs : s.data.toList, hl with
  | [a], _ =>
    show 0 ≤ raw1 a ∧ raw1 a ≤ 255
    rw [raw1_val]
    have := a.toNat_lt
    omega
theorem r80_in2 {s : ByteArray} (h : s.size = 2) : 0 ≤ r80 s ∧ r80 s ≤ 65535 := by
  have hl : s.data.toList.length = 2 := h
  unfold r80
  match hs : s.data.toList, hl with
  | [a, b], _ =>
    show 0 ≤ raw2 a b ∧ raw2 a b ≤ 65535
    rw [raw2_val]
    have := a.toNat_lt
    have := b.toNat_lt
    omega
theorem cmp_in (a b : List UInt8) : -1 ≤ Lib.compareBytes a b ∧ Lib.compareBytes a b ≤ 1 := by
  induction a generalizing b with
  | nil => cases b <;> simp [Lib.compareBytes]
  | cons x a ih =>
    cases b with
    | nil => simp [Lib.compareBytes]
    | cons y b =>
      rw [Lib.compareBytes]
      split
      · omega
      · split
        · omega
        · exact ih b
/-- Bytes that are there. -/
theorem r79b_ok {s : ByteArray} {a n : Int} (hs : s.size ≤ 1000000000) (h0 : 0 ≤ a) (h1 : 0 ≤ n) (h2 : a + n ≤ (s.size : Int)) : r79b s a n = true := by
  unfold r79b
  rw [decide_eq_false (by omega), decide_eq_false (by omega), decide_eq_false (by omega), w_id (by omega) (by omega), decide_eq_false (by omega)]
  rfl
section
variable {cs : List Value} {rs : List Int}
theorem kI_eq (d : Nat) : kI cs (d : Int) = knA cs 0 d := by unfold knA kI; rw [Int.toNat_natCast, Nat.mul_one, Nat.zero_add]
theorem lI_eq (d : Nat) : lI cs (d : Int) = loA cs 0 d := by unfold loA lI; rw [Int.toNat_natCast, Nat.zero_add]
theorem hI_eq (d : Nat) : hI cs (d : Int) = hiA cs 0 d := by unfold hiA hI; rw [Int.toNat_natCast, Nat.zero_add]
theorem kO_eq (d : Nat) : kO cs d = knA cs 0 d := by unfold knA kO; rw [Nat.zero_add]
theorem lO_eq (d : Nat) : lO cs d = loA cs 0 d := by unfold loA lO; rw [Nat.zero_add, Nat.mul_comm, Nat.add_zero]
theorem hO_eq (d : Nat) : hO cs d = hiA cs 0 d := by unfold hiA hO; rw [show 10 + 2 * d = 0 + 9 + d * 2 + 1 by omega]
theorem r84_ok {a b c d f : Int} (ha : In40 a) (hb : In40 b) (hc : -2147483648 ≤ c ∧ c < 2147483648) (hd : 0 ≤ d ∧ d ≤ 1000) (h : r84 a b c d f = true) : 0 ≤ a + c ∧ b + c + d ≤ f := by
  unfold In40 at ha hb
  unfold r84 at h
  rw [show IntKind.i64.wrap (a + c) = a + c from w_id (by omega) (by omega), show IntKind.i64.wrap (b + c) = b + c from w_id (by omega) (by omega), show IntKind.i64.wrap (b + c + d) = b + c + d from w_id (by omega) (by omega)] at h
  cases e : decide (a + c ≥ 0) with
  | false => rw [e] at h; cases h
  | true =>
    rw [e, cond_true] at h
    simp only [decide_eq_true_eq] at e h
    omega
/-- Instructions that reckon. -/
theorem num_sound {op : Int} {d s : Nat} {imm : Int} (hs : IsSt cs) (h8 : rs.length = 8) (hd : d < 8) (hsr : s < 8) (hi : -2147483648 ≤ imm ∧ imm < 2147483648) (hf : Fits cs 0 rs) (hb : Bd rs) (hsp : SpB cs 0)
    (hn : isNum op = true) (hr : r46 cs op d s imm = true) : Fits (c46 cs op d s imm) 0 (numR rs op d s imm) ∧ Bd (numR rs op d s imm) ∧ SpB (c46 cs op d s imm) 0 := by
  have h25 := isSt_len hs
  have himm : In40 imm := by unfold In40; omega
  have hset : ∀ {a b v : Int}, In40 a → In40 b → a ≤ v → v ≤ b → Fits (setA cs 0 (d : Int) a b) 0 (rs.set d v) ∧ Bd (rs.set d v) ∧ SpB (setA cs 0 (d : Int) a b) 0 := by
    intro a b v ha hbb h1 h2
    exact ⟨fits_setA h25 h8 hd hf h1 h2, hb.set h8 hd (by unfold In40 at *; omega), hsp.setA h25 hd ha hbb⟩
  have e7 : numR rs op d s imm = rs.set d (numV rs op d s imm) := by unfold numR; rw [hn, cond_true]
  have hop : op = 0 ∨ op = 1 ∨ op = 2 ∨ op = 3 ∨ op = 4 ∨ op = 5 ∨ op = 6 := by
    unfold isNum at hn
    simp only [Bool.or_eq_true, beq_iff_eq] at hn
    omega
  have D := hb d hd
  have S := hb s hsr
  obtain ⟨D1, D2⟩ := hsp d hd
  obtain ⟨S1, S2⟩ := hsp s hsr
  rw [e7]
  rcases hop with rfl | rfl | rfl | rfl | rfl | rfl | rfl
  · have e : c46 cs 0 d s imm = setA cs 0 d (r28 imm) (r28 imm) := rfl
    rw [e, r28_id himm]
    exact hset himm himm (Int.le_refl _) (Int.le_refl _)
  · have hk : kI cs (s : Int) = true := hr
    have e : c46 cs 1 d s imm = bif kI cs (s : Int) then setA cs 0 d (lI cs s) (hI cs s) else cs := rfl
    rw [e, hk, cond_true, lI_eq, hI_eq]
    rw [kI_eq] at hk
    obtain ⟨a1, a2⟩ := hf s hsr hk
    exact hset S1 S2 a1 a2
  · have hk : (kI cs (d : Int) && kI cs (s : Int)) = true := hr
    have e : c46 cs 2 d s imm = bif kI cs (d : Int) && kI cs (s : Int) then setA cs 0 d (r28 (w (lI cs d + lI cs s))) (r28 (w (hI cs d + hI cs s))) else cs := rfl
    rw [e, hk, cond_true, lI_eq, hI_eq, lI_eq, hI_eq]
    simp only [Bool.and_eq_true, kI_eq] at hk
    obtain ⟨a1, a2⟩ := hf s hsr hk.2
    obtain ⟨b1, b2⟩ := hf d hd hk.1
    unfold In40 at *
    refine hset (r28_in _) (r28_in _) ?_ ?_
    · show _ ≤ r28 (w (rg rs d + rg rs s))
      rw [w_id (by omega) (by omega), w_id (by omega) (by omega)]
      exact r28_mono (by omega)
    · show r28 (w (rg rs d + rg rs s)) ≤ _
      rw [w_id (by omega) (by omega), w_id (by omega) (by omega)]
      exact r28_mono (by omega)
  · have hk : (kI cs (d : Int) && kI cs (s : Int)) = true := hr
    have e : c46 cs 3 d s imm = bif kI cs (d : Int) && kI cs (s : Int) then setA cs 0 d (r28 (w (lI cs d - hI cs s))) (r28 (w (hI cs d - lI cs s))) else cs := rfl
    rw [e, hk, cond_true, lI_eq, hI_eq, lI_eq, hI_eq]
    simp only [Bool.and_eq_true, kI_eq] at hk
    obtain ⟨a1, a2⟩ := hf s hsr hk.2
    obtain ⟨b1, b2⟩ := hf d hd hk.1
    unfold In40 at *
    refine hset (r28_in _) (r28_in _) ?_ ?_
    · show _ ≤ r28 (w (rg rs d - rg rs s))
      rw [w_id (by omega) (by omega), w_id (by omega) (by omega)]
      exact r28_mono (by omega)
    · show r28 (w (rg rs d - rg rs s)) ≤ _
      rw [w_id (by omega) (by omega), w_id (by omega) (by omega)]
      exact r28_mono (by omega)
  · have hk : kI cs (d : Int) = true := hr
    have e : c46 cs 4 d s imm = bif kI cs (d : Int) then setA cs 0 d (r28 (w (lI cs d + r28 imm))) (r28 (w (hI cs d + r28 imm))) else cs := rfl
    rw [e, hk, cond_true, lI_eq, hI_eq, r28_id himm]
    rw [kI_eq] at hk
    obtain ⟨b1, b2⟩ := hf d hd hk
    unfold In40 at *
    refine hset (r28_in _) (r28_in _) ?_ ?_
    · show _ ≤ r28 (w (rg rs d + imm))
      rw [w_id (by omega) (by omega), w_id (by omega) (by omega)]
      exact r28_mono (by omega)
    · show r28 (w (rg rs d + imm)) ≤ _
      rw [w_id (by omega) (by omega), w_id (by omega) (by omega)]
      exact r28_mono (by omega)
  · have hk : kI cs (d : Int) = true := hr
    have e : c46 cs 5 d s imm = bif kI cs (d : Int) then setA cs 0 d (r52b (lI cs d) (hI cs d) imm) (r52c (lI cs d) (hI cs d) imm) else cs := rfl
    rw [e, hk, cond_true, lI_eq, hI_eq]
    rw [kI_eq] at hk
    obtain ⟨b1, b2⟩ := hf d hd hk
    obtain ⟨t1, t2⟩ := times_in D1 D2 hi b1 b2
    have hv : numV rs 5 d s imm = r77 (rg rs d) imm := by
      show r52b (r28 (rg rs d)) (r28 (rg rs d)) imm = _
      rw [r28_id D]; unfold r52b; split <;> rfl
    rw [hv]
    have i1 : In40 (r52b (loA cs 0 d) (hiA cs 0 d) imm) := by unfold r52b; split <;> first | exact r77_in D1 hi | exact r77_in D2 hi
    have i2 : In40 (r52c (loA cs 0 d) (hiA cs 0 d) imm) := by unfold r52c; split <;> first | exact r77_in D1 hi | exact r77_in D2 hi
    exact hset i1 i2 t1 t2
  · have hk : kI cs (d : Int) = true := hr
    have e : c46 cs 6 d s imm = bif kI cs (d : Int) then setA cs 0 d (r69b (lI cs d) (hI cs d) imm) (r69c (lI cs d) (hI cs d) imm) else cs := rfl
    rw [e, hk, cond_true, lI_eq, hI_eq]
    rw [kI_eq] at hk
    obtain ⟨b1, b2⟩ := hf d hd hk
    have hv : numV rs 6 d s imm = r69b (rg rs d) 0 imm := rfl
    rw [hv]
    unfold In40 at *
    have i1 : In40 (r69b (loA cs 0 d) (hiA cs 0 d) imm) := by
      unfold r69b In40
      repeat' split
      all_goals omega
    have i2 : In40 (r69c (loA cs 0 d) (hiA cs 0 d) imm) := by
      unfold r69c In40
      repeat' split
      all_goals omega
    refine hset i1 i2 ?_ ?_
    · unfold r69b
      repeat' split
      all_goals omega
    · unfold r69b r69c
      repeat' split
      all_goals omega
end

section
variable {cs : List Value} {M : Mc}
/-- What stands in a machine of a program that may be run. -/
structure Mok (M : Mc) : Prop where
  rs : M.rs.length = 8
  pg : M.pg.size = 512
  ky : M.ky.size ≤ 16
  sc : M.sc.length = 64
theorem src_size (h : Mok M) {op : Int} : (srcM M op).size = if op = 9 then 16 else if op = 10 then 64 else 512 := by
  unfold srcM
  by_cases c1 : op = 9
  · subst c1; rw [if_pos rfl]; exact kyF_size h.ky
  · rw [beq_eq_false_iff_ne.2 c1, cond_false, if_neg c1]
    by_cases c2 : op = 10
    · subst c2; rw [if_pos rfl]
      show (ByteArray.mk M.sc.toArray).size = 64
      rw [← h.sc]; exact List.size_toArray
    · rw [beq_eq_false_iff_ne.2 c2, cond_false, if_neg c2]; exact h.pg
theorem lk_fits {s : Nat} {imm size bound : Int} (hs : s < 8) (hi : -2147483648 ≤ imm ∧ imm < 2147483648) (hz : 0 ≤ size ∧ size ≤ 1000) (hsp : SpB cs 0) (hf : Fits cs 0 M.rs) (hb : Bd M.rs) (h : lkB cs (s : Int) imm size bound = true) :
    0 ≤ w (rg M.rs s + imm) ∧ w (rg M.rs s + imm) + size ≤ bound := by
  unfold lkB at h
  cases hk : kI cs (s : Int) with
  | false => rw [hk] at h; cases h
  | true =>
    rw [hk, Bool.not_true, cond_false, lI_eq, hI_eq] at h
    rw [kI_eq] at hk
    obtain ⟨a1, a2⟩ := hf s hs hk
    obtain ⟨s1, s2⟩ := hsp s hs
    obtain ⟨b1, b2⟩ := r84_ok s1 s2 hi hz h
    have := hb s hs
    unfold In40 at *
    rw [w_id (by omega) (by omega)]
    omega
theorem look_sound {op : Int} {d s : Nat} {imm : Int} (hM : Mok M) (hst : IsSt cs) (hd : d < 8) (hs : s < 8) (hi : -2147483648 ≤ imm ∧ imm < 2147483648) (hop : op = 7 ∨ op = 8 ∨ op = 9 ∨ op = 10) (hsp : SpB cs 0) (hf : Fits cs 0 M.rs) (hb : Bd M.rs)
    (h : r46 cs op d s imm = true) : (lookM M op d s imm).1 = true ∧ Fits (c46 cs op d s imm) 0 (lookM M op d s imm).2.rs ∧ Bd (lookM M op d s imm).2.rs := by
  have h25 := isSt_len hst
  have hsz := src_size hM (op := op)
  have done : ∀ {size bound hi' : Int}, szM op = size → ((srcM M op).size : Int) = bound → (size = 1 ∧ hi' = 255 ∨ size = 2 ∧ hi' = 65535) → lkB cs (s : Int) imm size bound = true → c46 cs op d s imm = setA cs 0 d 0 hi' →
      (lookM M op d s imm).1 = true ∧ Fits (c46 cs op d s imm) 0 (lookM M op d s imm).2.rs ∧ Bd (lookM M op d s imm).2.rs := by
    intro size bound hi' e1 e2 e3 e4 e5
    obtain ⟨b1, b2⟩ := lk_fits hs hi (by omega) hsp hf hb e4
    have hle : (srcM M op).size ≤ 1000000000 := by
      rw [hsz]
      repeat' split
      all_goals omega
    have hok : r79b (srcM M op) (w (rg M.rs s + imm)) (szM op) = true := r79b_ok hle b1 (by omega) (by omega)
    have hsize := r79_size hle hok
    have hv : 0 ≤ r80 (r79a (srcM M op) (w (rg M.rs s + imm)) (szM op)) ∧ r80 (r79a (srcM M op) (w (rg M.rs s + imm)) (szM op)) ≤ hi' := by
      rcases e3 with ⟨x1, x2⟩ | ⟨x1, x2⟩
      · rw [x2]; exact r80_in1 (by rw [hsize, e1, x1]; rfl)
      · rw [x2]; exact r80_in2 (by rw [hsize, e1, x1]; rfl)
    unfold lookM
    rw [hok, cond_true, e5]
    exact ⟨rfl, fits_setA h25 hM.rs hd hf hv.1 hv.2, hb.set hM.rs hd (by unfold In40; omega)⟩
  rcases hop with rfl | rfl | rfl | rfl
  · have hk : lkB cs (s : Int) imm 1 512 = true := h
    exact done (size := 1) (bound := 512) (hi' := 255) rfl (by rw [hsz]; rfl) (.inl ⟨rfl, rfl⟩) hk (by show (bif lkB cs (s : Int) imm 1 512 then _ else _) = _; rw [hk]; rfl)
  · have hk : lkB cs (s : Int) imm 2 512 = true := h
    exact done (size := 2) (bound := 512) (hi' := 65535) rfl (by rw [hsz]; rfl) (.inr ⟨rfl, rfl⟩) hk (by show (bif lkB cs (s : Int) imm 2 512 then _ else _) = _; rw [hk]; rfl)
  · have hk : lkB cs (s : Int) imm 1 16 = true := h
    exact done (size := 1) (bound := 16) (hi' := 255) rfl (by rw [hsz]; rfl) (.inl ⟨rfl, rfl⟩) hk (by show (bif lkB cs (s : Int) imm 1 16 then _ else _) = _; rw [hk]; rfl)
  · have hk : lkB cs (s : Int) imm 1 64 = true := h
    exact done (size := 1) (bound := 64) (hi' := 255) rfl (by rw [hsz]; rfl) (.inl ⟨rfl, rfl⟩) hk (by show (bif lkB cs (s : Int) imm 1 64 then _ else _) = _; rw [hk]; rfl)
theorem store_sound {x : Ins} {d : Nat} (hd : d < 8) (hx : x.d = (d : Int)) (hop : x.op = 11) (hi : -2147483648 ≤ x.imm ∧ x.imm < 2147483648) (hsp : SpB cs 0) (hf : Fits cs 0 M.rs) (hb : Bd M.rs)
    (h : r46 cs x.op x.d x.s x.imm = true) : (storeM M x).1 = true ∧ (storeM M x).2.rs = M.rs := by
  have hk : (bif kI cs x.d && kI cs x.s then r84 (lI cs x.d) (hI cs x.d) x.imm 1 64 else false) = true := by
    have e : r46 cs 11 x.d x.s x.imm = (bif kI cs x.d && kI cs x.s then r84 (lI cs x.d) (hI cs x.d) x.imm 1 64 else false) := rfl
    rw [hop] at h
    rw [← e]; exact h
  cases hq : (kI cs x.d && kI cs x.s) with
  | false => rw [hq] at hk; cases hk
  | true =>
    rw [hq, cond_true, hx, lI_eq, hI_eq] at hk
    simp only [Bool.and_eq_true] at hq
    have hq1 := hq.1
    rw [hx, kI_eq] at hq1
    obtain ⟨a1, a2⟩ := hf d hd hq1
    obtain ⟨s1, s2⟩ := hsp d hd
    obtain ⟨b1, b2⟩ := r84_ok s1 s2 hi (by omega) hk
    have := hb d hd
    unfold In40 at *
    unfold storeM
    rw [hx, Int.toNat_natCast, w_id (n := rg M.rs d + x.imm) (by omega) (by omega), decide_eq_false (by omega), decide_eq_false (by omega)]
    exact ⟨rfl, rfl⟩
theorem r95_ok {a : Int} (hsp : SpB cs 0) (hf : Fits cs 0 M.rs) (ha : a ≤ 100) (h : r95 cs a = true) : 0 ≤ rg M.rs 3 ∧ rg M.rs 3 ≤ a ∧ 0 ≤ rg M.rs 2 ∧ rg M.rs 2 + rg M.rs 3 ≤ 512 := by
  unfold r95 r95v at h
  rw [kO_eq, kO_eq, lO_eq, hO_eq, lO_eq, hO_eq] at h
  cases h2 : knA cs 0 2 with
  | false => rw [h2] at h; cases h
  | true =>
    cases h3 : knA cs 0 3 with
    | false => rw [h2, h3] at h; cases h
    | true =>
      rw [h2, h3] at h
      simp only [Bool.not_true, cond_false] at h
      cases c1 : decide (loA cs 0 3 ≥ 0) with
      | false => rw [c1] at h; cases h
      | true =>
        rw [c1, cond_true] at h
        cases c2 : decide (hiA cs 0 3 ≤ a) with
        | false => rw [c2] at h; cases h
        | true =>
          rw [c2, cond_true] at h
          simp only [decide_eq_true_eq] at c1 c2
          obtain ⟨a1, a2⟩ := hf 2 (by omega) h2
          obtain ⟨b1, b2⟩ := hf 3 (by omega) h3
          obtain ⟨s1, s2⟩ := hsp 2 (by omega)
          obtain ⟨d1, d2⟩ := r84_ok s1 s2 (by omega) (by omega) h
          omega
theorem call_sound {x : Ins} (hr : right x = true) (hM : Mok M) (hst : IsSt cs) (hop : x.op = 19) (hsp : SpB cs 0) (hf : Fits cs 0 M.rs) (hb : Bd M.rs)
    (h : r46 cs x.op x.d x.s x.imm = true) : (callM M x.imm).1 = true ∧ Fits (c46 cs x.op x.d x.s x.imm) 0 (callM M x.imm).2.rs ∧ Bd (callM M x.imm).2.rs := by
  have h25 := isSt_len hst
  have h51 := right_r51 hr
  have himm : x.imm = 1 ∨ x.imm = 2 ∨ x.imm = 3 := by
    rw [hop] at h51
    have e : r51 19 x.d x.s x.imm = bif decide (x.imm ≥ 1) then decide (x.imm ≤ 3) else false := rfl
    rw [e] at h51
    cases c : decide (x.imm ≥ 1) with
    | false => rw [c] at h51; cases h51
    | true => rw [c, cond_true] at h51; simp only [decide_eq_true_eq] at c h51; omega
  have hpg : M.pg.size ≤ 1000000000 := by rw [hM.pg]; omega
  rw [hop] at h ⊢
  have e85 : r46 cs 19 x.d x.s x.imm = r85 cs x.imm := rfl
  have ec : c46 cs 19 x.d x.s x.imm = c85 cs x.imm := rfl
  rw [e85] at h
  rw [ec]
  have bytes : ∀ {a : Int}, a ≤ 100 → r95 cs a = true → r79b M.pg (rg M.rs 2) (rg M.rs 3) = true ∧ ((r79a M.pg (rg M.rs 2) (rg M.rs 3)).size : Int) ≤ a := by
    intro a ha h95
    obtain ⟨a1, a2, a3, a4⟩ := r95_ok hsp hf ha h95
    have hok := r79b_ok hpg a3 a1 (by rw [hM.pg]; exact a4)
    refine ⟨hok, ?_⟩
    rw [r79_size hpg hok]
    omega
  unfold callM
  rcases himm with e | e | e
  · rw [e] at h ⊢
    have h95 : r95 cs 16 = true := h
    obtain ⟨b1, b2⟩ := bytes (by omega) h95
    have ec2 : c85 cs 1 = bif r95 cs 16 then setA cs 0 ((0 : Nat) : Int) (-1) 1 else cs := rfl
    rw [b1, ec2, h95]
    have e3 : decide (((r79a M.pg (rg M.rs 2) (rg M.rs 3)).size : Int) > bif (1 : Int) == 2 then 24 else 16) = false := decide_eq_false (by show ¬ ((r79a M.pg (rg M.rs 2) (rg M.rs 3)).size : Int) > 16; omega)
    rw [e3]
    have hc := cmp_in M.ky.data.toList (r79a M.pg (rg M.rs 2) (rg M.rs 3)).data.toList
    refine ⟨rfl, ?_, ?_⟩
    · exact fits_setA h25 hM.rs (by omega) hf hc.1 hc.2
    · exact hb.set hM.rs (by omega) (by unfold In40 cmpS; omega)
  · rw [e] at h ⊢
    have h95 : r95 cs 24 = true := h
    obtain ⟨b1, b2⟩ := bytes (by omega) h95
    rw [b1]
    have e3 : decide (((r79a M.pg (rg M.rs 2) (rg M.rs 3)).size : Int) > bif (2 : Int) == 2 then 24 else 16) = false := decide_eq_false (by show ¬ ((r79a M.pg (rg M.rs 2) (rg M.rs 3)).size : Int) > 24; omega)
    rw [e3]
    exact ⟨rfl, hf, hb⟩
  · rw [e]
    exact ⟨rfl, hf, hb⟩
end

theorem SpB.ext {a b : List Value} {oa ob : Nat} (h : ∀ j, 9 ≤ j → j < 25 → nth a (oa + j) = nth b (ob + j)) (hs : SpB b ob) : SpB a oa := by
  intro r hr
  have e2 : nth a (oa + 9 + r * 2 + 0) = nth b (ob + 9 + r * 2 + 0) := by rw [show oa + 9 + r * 2 + 0 = oa + (9 + r * 2) by omega, show ob + 9 + r * 2 + 0 = ob + (9 + r * 2) by omega]; exact h _ (by omega) (by omega)
  have e3 : nth a (oa + 9 + r * 2 + 1) = nth b (ob + 9 + r * 2 + 1) := by rw [show oa + 9 + r * 2 + 1 = oa + (9 + r * 2 + 1) by omega, show ob + 9 + r * 2 + 1 = ob + (9 + r * 2 + 1) by omega]; exact h _ (by omega) (by omega)
  have := hs r hr
  unfold loA hiA at *
  rw [e2, e3]; exact this
theorem jn_spb {os cs : List Value} {off i : Nat} (h : off + 25 ≤ cs.length) (hi : i < 8) (h1 : SpB cs off) (h2 : SpB os 0) : SpB (jn os off i cs) off := by
  intro r hr
  by_cases e : r = i
  · subst e
    have a1 := h1 r hr
    have a2 := h2 r hr
    have e2 : nth os (0 + 9 + r * 2 + 0) = nth os (9 + r * 2 + 0) := by rw [Nat.zero_add]
    have e3 : nth os (0 + 9 + r * 2 + 1) = nth os (9 + r * 2 + 1) := by rw [Nat.zero_add]
    unfold loA hiA In40 at a1 a2 ⊢
    rw [e2, e3] at a2
    unfold jn
    generalize hb : (boolO (nth cs (off + 1 + r)) && boolO (nth os (1 + r))) = b
    have l1 : off + 1 + r + [B b].length ≤ cs.length := by simp; omega
    have key : ∀ u v : Int, (-1099511627776 ≤ u ∧ u ≤ 1099511627776) → (-1099511627776 ≤ v ∧ v ≤ 1099511627776) →
        (-1099511627776 ≤ intO (nth (splice (splice cs (off + 1 + r) [B b]) (off + 9 + r * 2) [I u, I v]) (off + 9 + r * 2 + 0)) ∧ intO (nth (splice (splice cs (off + 1 + r) [B b]) (off + 9 + r * 2) [I u, I v]) (off + 9 + r * 2 + 0)) ≤ 1099511627776) ∧
        -1099511627776 ≤ intO (nth (splice (splice cs (off + 1 + r) [B b]) (off + 9 + r * 2) [I u, I v]) (off + 9 + r * 2 + 1)) ∧ intO (nth (splice (splice cs (off + 1 + r) [B b]) (off + 9 + r * 2) [I u, I v]) (off + 9 + r * 2 + 1)) ≤ 1099511627776 := by
      intro u v hu hv
      have l2 : off + 9 + r * 2 + [I u, I v].length ≤ (splice cs (off + 1 + r) [B b]).length := by rw [splice_len l1]; simp; omega
      rw [nth_splice_in (k := 0) l2 (by simp), nth_splice_in (k := 1) l2 (by simp)]
      exact ⟨hu, hv⟩
    cases b with
    | true =>
      refine key _ _ ?_ ?_
      · unfold r72b; split <;> omega
      · unfold r72c; split <;> omega
    | false => exact key 0 0 (by omega) (by omega)
  · obtain ⟨_, c2, c3⟩ := jn_other (os := os) h hi hr e
    rw [c2, c3]; exact h1 r hr
theorem joinFrom_spb {os : List Value} {off : Nat} (h2 : SpB os 0) : ∀ (m i : Nat) (cs : List Value), i + m ≤ 8 → off + 25 ≤ cs.length → SpB cs off → SpB (joinFrom os off m i cs) off
  | 0, _, _, _, _, h => h
  | m + 1, i, cs, hi, hl, h => joinFrom_spb h2 m (i + 1) _ (by omega) (by rw [jn_len hl (by omega)]; exact hl) (jn_spb hl (by omega) h h2)
/-- All spans of so many states. -/
def SpAll (cs : List Value) (n : Nat) : Prop := ∀ k, k < n → SpB cs (k * 25)
theorem join_spb {cs os : List Value} {n k : Nat} (h : StsOk cs n) (hk : k < n) (ho : IsSt os) (h1 : SpAll cs n) (h2 : SpB os 0) : SpAll (join48 cs (k * 25) os) n := by
  intro q hq
  by_cases e : q = k
  · subst e
    have hl := (h.st q hk).len
    unfold join48
    cases hc : boolO (nth cs (q * 25)) with
    | true => exact joinFrom_spb h2 8 0 cs (by omega) hl (h1 q hq)
    | false =>
      have h25 := isSt_len ho
      refine SpB.ext (b := os) (ob := 0) (fun j _ hj => ?_) h2
      rw [cond_false, nth_splice_in (by omega) (by omega), Nat.zero_add]
  · exact (h1 q hq).ext fun j _ hj => join_else h hk ho e hj
theorem wide1_at {x : Ins} {ss : List Value} (hx : right x = true) (h : IsSt ss) {r : Nat} (hr : r < 8) : knA (wide1 x ss) 0 r = knA ss 0 r ∧
    (if wrI x = (r : Int) ∧ knA ss 0 r = true then loA (wide1 x ss) 0 r = -1099511627776 ∧ hiA (wide1 x ss) 0 r = 1099511627776 else loA (wide1 x ss) 0 r = loA ss 0 r ∧ hiA (wide1 x ss) 0 r = hiA ss 0 r) := by
  have h25 := isSt_len h
  obtain ⟨w1, w2⟩ := wrI_le hx
  unfold wide1
  cases hd : decide (wrI x ≥ 0) with
  | false =>
    simp only [decide_eq_false_iff_not] at hd
    rw [cond_false, if_neg (by omega)]
    exact ⟨rfl, rfl, rfl⟩
  | true =>
    simp only [decide_eq_true_eq] at hd
    obtain ⟨q, hq⟩ := Int.eq_ofNat_of_zero_le hd
    rw [hq] at w2
    have hq8 : q < 8 := by omega
    rw [cond_true, hq, kI_eq]
    cases hk : knA ss 0 q with
    | false =>
      rw [cond_false]
      refine ⟨rfl, ?_⟩
      rw [if_neg]
      · exact ⟨rfl, rfl⟩
      · rintro ⟨e1, e2⟩
        have : q = r := by omega
        subst this
        rw [hk] at e2; cases e2
    | true =>
      rw [cond_true, Int.toNat_natCast]
      have l2 : 9 + q * 2 + [I (-1099511627776), I 1099511627776].length ≤ ss.length := by simp; omega
      refine ⟨?_, ?_⟩
      · unfold knA
        rw [nth_splice_out l2 (by simp; omega)]
      · by_cases e : q = r
        · subst e
          rw [if_pos ⟨rfl, hk⟩]
          unfold loA hiA
          rw [Nat.zero_add, nth_splice_in (k := 0) l2 (by simp), nth_splice_in (k := 1) l2 (by simp)]
          exact ⟨rfl, rfl⟩
        · rw [if_neg (by omega)]
          unfold loA hiA
          rw [Nat.zero_add, nth_splice_out l2 (by simp; omega), nth_splice_out l2 (by simp; omega)]
          exact ⟨rfl, rfl⟩
/-- Registers that are written in a body may have any number; the others are as they were. -/
theorem widenL_at : ∀ {b : List Ins} {ss : List Value}, (∀ x ∈ b, right x = true) → IsSt ss → ∀ {r : Nat}, r < 8 → knA (widenL b ss) 0 r = knA ss 0 r ∧
    (knA ss 0 r = true → (∃ x ∈ b, wrI x = (r : Int)) → loA (widenL b ss) 0 r = -1099511627776 ∧ hiA (widenL b ss) 0 r = 1099511627776) ∧
    ((loA (widenL b ss) 0 r = loA ss 0 r ∧ hiA (widenL b ss) 0 r = hiA ss 0 r) ∨ (loA (widenL b ss) 0 r = -1099511627776 ∧ hiA (widenL b ss) 0 r = 1099511627776))
  | [], ss, _, _, r, _ => ⟨rfl, fun _ h => by obtain ⟨x, h1, _⟩ := h; simp at h1, .inl ⟨rfl, rfl⟩⟩
  | x :: b, ss, hl, h, r, hr => by
    have hx := hl x (List.mem_cons_self ..)
    obtain ⟨a1, a2⟩ := wide1_at hx h hr
    obtain ⟨b1, b2, b3⟩ := widenL_at (b := b) (fun y hy => hl y (List.mem_cons_of_mem _ hy)) (wide1_st hx h) hr
    rw [widenL]
    refine ⟨b1.trans a1, fun hk hw => ?_, ?_⟩
    · by_cases c : wrI x = (r : Int)
      · rw [if_pos ⟨c, hk⟩] at a2
        rcases b3 with ⟨c1, c2⟩ | c1
        · rw [c1, c2]; exact a2
        · exact c1
      · refine b2 (a1.trans hk) ?_
        obtain ⟨y, hy, e⟩ := hw
        rcases List.mem_cons.1 hy with rfl | hy
        · exact absurd e c
        · exact ⟨y, hy, e⟩
    · rcases b3 with ⟨c1, c2⟩ | c1
      · split at a2
        · exact .inr ⟨c1.trans a2.1, c2.trans a2.2⟩
        · exact .inl ⟨c1.trans a2.1, c2.trans a2.2⟩
      · exact .inr c1
theorem widenL_fits {b : List Ins} {ss : List Value} {rs : List Int} (hl : ∀ x ∈ b, right x = true) (h : IsSt ss) (hf : Fits ss 0 rs) (hb : Bd rs) : Fits (widenL b ss) 0 rs := by
  intro r hr hk
  obtain ⟨a1, _, a3⟩ := widenL_at hl h hr
  rw [a1] at hk
  have := hf r hr hk
  have := hb r hr
  unfold In40 at this
  rcases a3 with ⟨c1, c2⟩ | ⟨c1, c2⟩ <;> rw [c1, c2] <;> omega
theorem widenL_spb {b : List Ins} {ss : List Value} (hl : ∀ x ∈ b, right x = true) (h : IsSt ss) (hs : SpB ss 0) : SpB (widenL b ss) 0 := by
  intro r hr
  obtain ⟨_, _, a3⟩ := widenL_at hl h hr
  have := hs r hr
  unfold In40 at *
  rcases a3 with ⟨c1, c2⟩ | ⟨c1, c2⟩ <;> rw [c1, c2] <;> omega
theorem bif_spb {c : Bool} {x y : List Value} (hx : SpB x 0) (hy : SpB y 0) : SpB (bif c then x else y) 0 := by
  cases c
  · exact hy
  · exact hx
theorem bifP_spb {c : Bool} {x y : List Value} (hx : c = true → SpB x 0) (hy : c = false → SpB y 0) : SpB (bif c then x else y) 0 := by
  cases c
  · exact hy rfl
  · exact hx rfl
theorem c46_spb {cs : List Value} {x : Ins} (hr : right x = true) (h : IsSt cs) (hs : SpB cs 0) : SpB (c46 cs x.op x.d x.s x.imm) 0 := by
  obtain ⟨⟨d0, d1⟩, s0, s1⟩ := right_regs hr
  have hi := right_imm hr
  have h25 := isSt_len h
  obtain ⟨d, hd⟩ := Int.eq_ofNat_of_zero_le d0
  obtain ⟨s, hss⟩ := Int.eq_ofNat_of_zero_le s0
  rw [hd, hss]
  rw [hd] at d1
  rw [hss] at s1
  obtain ⟨D1, D2⟩ := hs d (by omega)
  obtain ⟨S1, S2⟩ := hs s (by omega)
  have set : ∀ {a b : Int}, In40 a → In40 b → SpB (setA cs 0 (d : Int) a b) 0 := fun ha hb => hs.setA h25 (by omega) ha hb
  unfold c46
  refine bif_spb (set (r28_in _) (r28_in _)) ?_
  refine bif_spb (bif_spb (set (by rw [lI_eq]; exact S1) (by rw [hI_eq]; exact S2)) hs) ?_
  refine bif_spb (bif_spb (set (r28_in _) (r28_in _)) hs) ?_
  refine bif_spb (bif_spb (set (r28_in _) (r28_in _)) hs) ?_
  refine bif_spb (bif_spb (set (r28_in _) (r28_in _)) hs) ?_
  refine bif_spb (bif_spb (set ?_ ?_) hs) ?_
  · rw [lI_eq, hI_eq]; unfold r52b; split <;> first | exact r77_in D1 hi | exact r77_in D2 hi
  · rw [lI_eq, hI_eq]; unfold r52c; split <;> first | exact r77_in D1 hi | exact r77_in D2 hi
  refine bif_spb (bif_spb (set ?_ ?_) hs) ?_
  · rw [lI_eq, hI_eq]
    unfold r69b
    unfold In40 at *
    repeat' split
    all_goals omega
  · rw [lI_eq, hI_eq]
    unfold r69c
    unfold In40 at *
    repeat' split
    all_goals omega
  unfold c70
  refine bif_spb (bif_spb (set (by decide) (by decide)) hs) ?_
  refine bif_spb (bif_spb (set (by decide) (by decide)) hs) ?_
  refine bif_spb (bif_spb (set (by decide) (by decide)) hs) ?_
  refine bif_spb (bif_spb (set (by decide) (by decide)) hs) ?_
  refine bif_spb hs (bif_spb hs (bif_spb hs (bif_spb hs (bif_spb hs (bif_spb ?_ hs)))))
  unfold c85
  exact bif_spb (bif_spb (hs.setA (d := 0) h25 (by omega) (by decide) (by decide)) hs) hs
theorem stAt_spb {C : List Value} {i : Nat} (h : SpB C (i * 25)) : SpB (stAt C i) 0 := by
  refine h.ext fun j _ hj => ?_
  rw [stAt, nth_eq, nth_eq, Nat.zero_add, List.getElem?_take_of_lt hj, List.getElem?_drop]
theorem postS_spb {l : List Ins} {en : List Int} {C : List Value} {i : Nat} (hl : ∀ x ∈ l, right x = true) (h : StsOk C l.length) (hi : i < l.length) (hs : SpAll C l.length) : SpB (postS l en C i) 0 := by
  obtain ⟨_, _, s3⟩ := sta_eq h hi
  have hx := hl _ (getD_mem hi)
  have s4 := c46_spb hx s3 (stAt_spb (hs i hi))
  have s5 := c46_st (op := (l.getD i insD).op) (imm := (l.getD i insD).imm) s3 (right_regs hx)
  unfold postS wid25
  exact bif_spb (widenL_spb (fun x hx => hl x (List.mem_of_mem_drop (List.mem_of_mem_take hx))) s5 s4) s4
theorem bif_spa {c : Bool} {x y : Bool × List Value} {n : Nat} (hx : c = true → SpAll x.2 n) (hy : c = false → SpAll y.2 n) : SpAll (bif c then x else y).2 n := by
  cases c
  · exact hy rfl
  · exact hx rfl
theorem stepF_spb {l : List Ins} {lp en : List Int} {i : Nat} {cst : List Value} (hl : ∀ x ∈ l, right x = true) (hi : i < l.length) (hsts : StsOk cst l.length) (hs : SpAll cst l.length) : SpAll (stepF l lp en i cst).2 l.length := by
  obtain ⟨p1, _⟩ := postS_st (en := en) hl hsts hi
  have p2 := postS_spb (en := en) hl hsts hi hs
  have e : (stepF l lp en i cst) = bif bad25 l.length lp en i (l.getD i insD).op (l.getD i insD).imm then (false, cst) else
      bif !boolO (nth cst (i * 25)) then (true, cst) else
      bif !r46 (stAt cst i) (l.getD i insD).op (l.getD i insD).d (l.getD i insD).s (l.getD i insD).imm then (false, cst) else
      fin25 (l.getD i insD).op l.length i (jmp25 (l.getD i insD).op (l.getD i insD).imm cst (postS l en cst i)) (postS l en cst i) := rfl
  rw [e]
  clear e
  generalize postS l en cst i = S at *
  refine bif_spa (fun _ => hs) fun c1 => ?_
  refine bif_spa (fun _ => hs) fun _ => ?_
  refine bif_spa (fun _ => hs) fun _ => ?_
  have hJ : StsOk (jmp25 (l.getD i insD).op (l.getD i insD).imm cst S) l.length ∧ SpAll (jmp25 (l.getD i insD).op (l.getD i insD).imm cst S) l.length := by
    unfold jmp25
    cases c4 : r44 (l.getD i insD).op with
    | false => exact ⟨hsts, hs⟩
    | true =>
      obtain ⟨_, _, q3⟩ := jump_imm c1 c4 (by omega)
      exact ⟨join48_sts hsts q3 p1, join_spb hsts q3 p1 hs p2⟩
  unfold fin25
  refine bif_spa (fun _ => hJ.2) fun _ => ?_
  refine bif_spa (fun _ => hJ.2) fun _ => ?_
  refine bif_spa (fun _ => hJ.2) fun c7 => ?_
  have hlt : i + 1 < l.length := by
    have := beq_eq_false_iff_ne.mp c7
    omega
  exact join_spb hJ.1 hlt p1 hJ.2 p2
theorem walk_spb {l : List Ins} {lp en : List Int} (hl : ∀ x ∈ l, right x = true) : ∀ (f i : Nat) (cst : List Value), StsOk cst l.length → PlainL cst → SpAll cst l.length → SpAll (walkF l lp en f i cst).2 l.length := by
  intro f
  induction f with
  | zero => intro i cst _ _ h; exact h
  | succ f ih =>
    intro i cst h1 h2 h3
    rw [walkF]
    by_cases hi : i < l.length
    · rw [decide_eq_true hi, cond_true]
      obtain ⟨s1, s2⟩ := stepF_sts (lp := lp) (en := en) hl hi h1 h2
      cases (stepF l lp en i cst).1 with
      | false => exact h3
      | true => exact ih (i + 1) _ s1 s2 (stepF_spb hl hi h1 h3)
    · rw [decide_eq_false hi]; exact h3

def immN (l : List Ins) (k : Nat) : Nat := (l.getD k insD).imm.toNat
/-- How often what is in some Loops is done. -/
def prodL (l : List Ins) : List Nat → Nat
  | [] => 1
  | k :: r => immN l k * prodL l r
theorem prodL_app (l : List Ins) : ∀ a b : List Nat, prodL l (a ++ b) = prodL l a * prodL l b
  | [], b => by simp [prodL]
  | k :: a, b => by rw [List.cons_append, prodL, prodL, prodL_app l a b, Nat.mul_assoc]
def sumTo (f : Nat → Nat) : Nat → Nat
  | 0 => 0
  | n + 1 => sumTo f n + f n
theorem sumTo_le {f g : Nat → Nat} : ∀ n, (∀ i, i < n → f i ≤ g i) → sumTo f n ≤ sumTo g n
  | 0, _ => Nat.le_refl _
  | n + 1, h => Nat.add_le_add (sumTo_le n fun i hi => h i (by omega)) (h n (by omega))
theorem sumTo_lt {f g : Nat → Nat} {k : Nat} : ∀ n, (∀ i, i < n → f i ≤ g i) → k < n → f k < g k → sumTo f n < sumTo g n
  | 0, _, h, _ => by omega
  | n + 1, h, hk, hlt => by
    rw [sumTo, sumTo]
    have h1 := h n (by omega)
    by_cases e : k = n
    · subst e
      have := sumTo_le k fun i hi => h i (by omega)
      omega
    · have := sumTo_lt n (fun i hi => h i (by omega)) (by omega : k < n) hlt
      omega
/-- Loops from a place on. -/
def from' (s : List Nat) (p : Nat) : List Nat := s.filter fun k => decide (p ≤ k)
/-- What the open loops still come to, at a place. -/
def extra (l : List Ins) (i : Nat) : List (Int × Int) → Nat
  | [] => 0
  | o :: r => (if o.1.toNat ∈ opn l i then (o.2.toNat - 1) * prodL l (from' (opn l i) (o.1.toNat + 1)) else 0) + extra l i r
/-- How often an instruction is still to be done. -/
def term (l : List Ins) (p : Nat) (lo : List (Int × Int)) (i : Nat) : Nat := (if p ≤ i then prodL l (from' (opn l i) p) else 0) + extra l i lo
def rem (l : List Ins) (p : Nat) (lo : List (Int × Int)) : Nat := sumTo (term l p lo) l.length
theorem extra_app (l : List Ins) (i : Nat) : ∀ a b : List (Int × Int), extra l i (a ++ b) = extra l i a + extra l i b
  | [], b => by simp [extra]
  | o :: a, b => by rw [List.cons_append, extra, extra, extra_app l i a b]; omega
theorem extra_take (l : List Ins) (i m : Nat) (lo : List (Int × Int)) : extra l i (lo.take m) ≤ extra l i lo := by
  conv => rhs; rw [← List.take_append_drop m lo, extra_app]
  omega
theorem from_self {l : List Ins} {p : Nat} : from' (opn l p) p = [] := by
  unfold from'
  rw [List.filter_eq_nil_iff]
  intro k hk
  have := (opn_lt hk).1
  simp; omega
theorem from_eq {s : List Nat} {p q : Nat} (h : ∀ k ∈ s, p ≤ k ↔ q ≤ k) : from' s p = from' s q := by
  unfold from'
  refine List.filter_congr fun k hk => ?_
  have := h k hk
  simp [this]
theorem from_all {s : List Nat} {p : Nat} (h : ∀ k ∈ s, p ≤ k) : from' s p = s := by
  unfold from'
  rw [List.filter_eq_self]
  intro k hk
  simpa using h k hk
/-- A Loop that is open, and what is in it. -/
theorem from_in {l : List Ins} {k i : Nat} (h : k ∈ opn l i) : from' (opn l i) k = k :: from' (opn l i) (k + 1) := by
  obtain ⟨t, ht⟩ := opn_pre h
  have hs := opn_srt (l := l) i
  rw [ht] at hs ⊢
  rw [List.pairwise_append] at hs
  obtain ⟨_, s2, _⟩ := hs
  rw [List.pairwise_cons] at s2
  unfold from'
  rw [List.filter_append, List.filter_append]
  have e1 : (opn l k).filter (fun q => decide (k ≤ q)) = [] := by
    rw [List.filter_eq_nil_iff]; intro q hq; have := (opn_lt hq).1; simp; omega
  have e2 : (opn l k).filter (fun q => decide (k + 1 ≤ q)) = [] := by
    rw [List.filter_eq_nil_iff]; intro q hq; have := (opn_lt hq).1; simp; omega
  have e3 : t.filter (fun q => decide (k ≤ q)) = t := by
    rw [List.filter_eq_self]; intro q hq; have := s2.1 q hq; simp; omega
  have e4 : t.filter (fun q => decide (k + 1 ≤ q)) = t := by
    rw [List.filter_eq_self]; intro q hq; have := s2.1 q hq; simp; omega
  rw [e1, e2, List.filter_cons, List.filter_cons, e3, e4]
  simp
section
variable {l : List Ins} {p : Nat} {lo : List (Int × Int)}
/-- On to the next instruction. -/
theorem rem_next (hp : p < l.length) (h17 : opA l p ≠ 17) : rem l (p + 1) lo < rem l p lo := by
  have same : ∀ i, i ≠ p → from' (opn l i) (p + 1) = from' (opn l i) p := by
    intro i _
    refine from_eq fun k hk => ?_
    have : k ≠ p := by rintro rfl; exact h17 (opn_lt hk).2
    omega
  refine sumTo_lt (k := p) _ (fun i _ => ?_) hp ?_
  · unfold term
    by_cases e : i = p
    · subst e
      rw [if_neg (by omega), if_pos (Nat.le_refl _)]; omega
    · rw [same i e]
      by_cases c : p ≤ i
      · rw [if_pos (by omega), if_pos c]; omega
      · rw [if_neg (by omega), if_neg c]; omega
  · unfold term
    rw [if_neg (by omega), if_pos (Nat.le_refl _), from_self]
    show _ < 1 + _
    omega
/-- Into a Loop. -/
theorem rem_loop (hp : p < l.length) {m : Int} (hm : (l.getD p insD).imm = m) (h1 : 1 ≤ m) : rem l (p + 1) (lo ++ [((p : Int), m)]) < rem l p lo := by
  have one : ∀ i, extra l i [((p : Int), m)] = if p ∈ opn l i then (m.toNat - 1) * prodL l (from' (opn l i) (p + 1)) else 0 := by
    intro i
    show (if ((p : Int)).toNat ∈ opn l i then (m.toNat - 1) * prodL l (from' (opn l i) ((p : Int).toNat + 1)) else 0) + 0 = _
    rw [Int.toNat_natCast, Nat.add_zero]
  have him : immN l p = m.toNat := by unfold immN; rw [hm]
  refine sumTo_lt (k := p) _ (fun i _ => ?_) hp ?_
  · unfold term
    rw [extra_app, one]
    by_cases hin : p ∈ opn l i
    · have hlt := (opn_lt hin).1
      rw [if_pos hin, if_pos (show p + 1 ≤ i by omega), if_pos (show p ≤ i by omega), from_in hin, prodL, him]
      have : m.toNat * prodL l (from' (opn l i) (p + 1)) = prodL l (from' (opn l i) (p + 1)) + (m.toNat - 1) * prodL l (from' (opn l i) (p + 1)) := by
        obtain ⟨q, hq⟩ : ∃ q, m.toNat = q + 1 := ⟨m.toNat - 1, by omega⟩
        rw [hq, Nat.add_sub_cancel, Nat.add_mul, Nat.one_mul, Nat.add_comm]
      omega
    · have same : from' (opn l i) (p + 1) = from' (opn l i) p := by
        refine from_eq fun k hk => ?_
        have : k ≠ p := by rintro rfl; exact hin hk
        omega
      rw [if_neg hin, same]
      by_cases c : p + 1 ≤ i
      · rw [if_pos c, if_pos (by omega)]; omega
      · rw [if_neg c]; omega
  · unfold term
    rw [extra_app, one, if_neg opn_self, if_neg (by omega), if_pos (Nat.le_refl _), from_self]
    show _ < 1 + _
    omega
/-- A jump. -/
theorem rem_jump {t : Nat} (hp : p < l.length) (h17 : opA l p ≠ 17) (ht : p < t) (hin : ∀ k ∈ opn l t, k ∈ opn l p) (m : Nat) : rem l t (lo.take m) < rem l p lo := by
  refine sumTo_lt (k := p) _ (fun i _ => ?_) hp ?_
  · unfold term
    have := extra_take l i m lo
    by_cases c : t ≤ i
    · have same : from' (opn l i) t = from' (opn l i) p := by
        refine from_eq fun k hk => ?_
        have hk' : k ≠ p := by rintro rfl; exact h17 (opn_lt hk).2
        by_cases hkt : k < t
        · have hkp : k ∈ opn l t := by
            refine Classical.byContradiction fun hn => ?_
            have := opn_gone (d := i - t) hkt hn
            rw [show t + (i - t) = i by omega] at this
            exact this hk
          have := (opn_lt (hin k hkp)).1
          omega
        · omega
      rw [if_pos c, if_pos (by omega), same]; omega
    · rw [if_neg c]; omega
  · unfold term
    have := extra_take l p m lo
    rw [if_neg (by omega), if_pos (Nat.le_refl _), from_self]
    show _ < 1 + _
    omega
theorem extra_one (l : List Ins) (i k : Nat) (m : Int) : extra l i [((k : Int), m)] = if k ∈ opn l i then (m.toNat - 1) * prodL l (from' (opn l i) (k + 1)) else 0 := by
  show (if ((k : Int)).toNat ∈ opn l i then (m.toNat - 1) * prodL l (from' (opn l i) ((k : Int).toNat + 1)) else 0) + 0 = _
  rw [Int.toNat_natCast, Nat.add_zero]
/-- Behind a Loop's End, loops from its head on are those from the End on. -/
theorem from_end {k i : Nat} (hp : opA l p = 18) (hk : opn l p = opn l k ++ [k]) (hi : p < i) : from' (opn l i) (k + 1) = from' (opn l i) p ∧ from' (opn l i) (p + 1) = from' (opn l i) p := by
  constructor
  · refine from_eq fun q hq => ?_
    refine ⟨fun h => ?_, fun h => ?_⟩
    · refine Classical.byContradiction fun hlt => ?_
      have hqp : q ∈ opn l p := by
        refine Classical.byContradiction fun hn => ?_
        have := opn_gone (d := i - p) (by omega) hn
        rw [show p + (i - p) = i by omega] at this
        exact this hq
      rw [hk] at hqp
      rcases List.mem_append.1 hqp with h' | h'
      · have := (opn_lt h').1; omega
      · simp only [List.mem_singleton] at h'; omega
    · have : k < p := (opn_lt (l := l) (i := p) (k := k) (by rw [hk]; simp)).1
      omega
  · refine from_eq fun q hq => ?_
    have : q ≠ p := by
      rintro rfl
      have := (opn_lt hq).2
      omega
    omega
theorem mem_end {k i : Nat} (hp : opA l p = 18) (hk : opn l p = opn l k ++ [k]) : k ∈ opn l i → k < i ∧ i ≤ p := by
  intro h
  refine ⟨(opn_lt h).1, Classical.byContradiction fun hn => ?_⟩
  have hg : k ∉ opn l (p + 1) := by rw [opn_endAt hp hk]; exact opn_self
  have := opn_gone (d := i - (p + 1)) (by have := (opn_lt (l := l) (i := p) (k := k) (by rw [hk]; simp)).1; omega) hg
  rw [show p + 1 + (i - (p + 1)) = i by omega] at this
  exact this h
theorem mem_end' {k i : Nat} (hk : opn l p = opn l k ++ [k]) (h1 : k < i) (h2 : i ≤ p) : k ∈ opn l i := by
  refine Classical.byContradiction fun hn => ?_
  have := opn_gone (d := p - i) h1 hn
  rw [show i + (p - i) = p by omega, hk] at this
  exact this (by simp)
/-- Back to a Loop's head. -/
theorem rem_back {k : Nat} {m : Int} (hp : p < l.length) (h18 : opA l p = 18) (hk : opn l p = opn l k ++ [k]) (hm : 2 ≤ m) : rem l (k + 1) (lo ++ [((k : Int), m - 1)]) < rem l p (lo ++ [((k : Int), m)]) := by
  have hkp := (opn_lt (l := l) (i := p) (k := k) (by rw [hk]; simp)).1
  have split : ∀ x : Nat, (m.toNat - 1) * x = x + ((m - 1).toNat - 1) * x := by
    intro x
    obtain ⟨q, hq⟩ : ∃ q, m.toNat = q + 2 := ⟨m.toNat - 2, by omega⟩
    rw [show (m - 1).toNat = q + 1 by omega, hq, show q + 2 - 1 = q + 1 by omega, Nat.add_sub_cancel, Nat.add_mul, Nat.one_mul, Nat.add_comm]
  refine sumTo_lt (k := p) _ (fun i _ => ?_) hp ?_
  · unfold term
    rw [extra_app, extra_app, extra_one, extra_one]
    by_cases hin : k ∈ opn l i
    · obtain ⟨a1, a2⟩ := mem_end h18 hk hin
      rw [if_pos hin, if_pos hin, if_pos (by omega), split]
      omega
    · rw [if_neg hin, if_neg hin]
      by_cases c : k + 1 ≤ i
      · have hpi : p < i := by
          refine Classical.byContradiction fun hn => ?_
          exact hin (mem_end' hk (by omega) (by omega))
        rw [if_pos c, if_pos (by omega), (from_end h18 hk hpi).1]; omega
      · rw [if_neg c]; omega
  · unfold term
    have hin : k ∈ opn l p := by rw [hk]; simp
    rw [extra_app, extra_app, extra_one, extra_one, if_pos hin, if_pos hin, if_pos (by omega), if_pos (Nat.le_refl _), split, from_self]
    show _ < 1 + _
    omega
/-- Out of a Loop by its End. -/
theorem rem_out {k : Nat} {m : Int} (hp : p < l.length) (h18 : opA l p = 18) : rem l (p + 1) lo < rem l p (lo ++ [((k : Int), m)]) := by
  have h := rem_next (lo := lo) hp (show opA l p ≠ 17 by omega)
  have : rem l p lo ≤ rem l p (lo ++ [((k : Int), m)]) := by
    refine sumTo_le _ fun i _ => ?_
    unfold term
    rw [extra_app]; omega
  omega
/-- An instruction is still to be done. -/
theorem rem_pos (hp : p < l.length) : 0 < rem l p lo := by
  have h0 : sumTo (fun _ => 0) l.length = 0 := by
    generalize l.length = n
    induction n with
    | zero => rfl
    | succ n ih => rw [sumTo, ih]
  have := sumTo_lt (f := fun _ => 0) (g := term l p lo) (k := p) l.length (fun _ _ => Nat.zero_le _) hp (by
    unfold term
    rw [if_pos (Nat.le_refl _), from_self]
    show 0 < 1 + _
    omega)
  rw [h0] at this
  exact this
end

theorem loop_imm {x : Ins} (hr : right x = true) (ho : x.op = 17) : 1 ≤ x.imm ∧ x.imm ≤ 64 := by
  have h51 := right_r51 hr
  rw [ho] at h51
  have e : r51 17 x.d x.s x.imm = bif decide (x.imm ≥ 1) then decide (x.imm ≤ 64) else false := rfl
  rw [e] at h51
  cases c : decide (x.imm ≥ 1) with
  | false => rw [c] at h51; cases h51
  | true => rw [c, cond_true] at h51; simp only [decide_eq_true_eq] at c h51; omega
section
variable {l : List Ins} {lp en : List Int}
theorem LpR.len3 (h : LpR l lp en) : ∀ i, i ≤ l.length → (opn l i).length ≤ 3 := by
  intro i
  induction i with
  | zero => intro _; simp [opn]
  | succ i ih =>
    intro hi
    have := ih (by omega)
    rw [opn]
    split
    · rename_i e
      have := h.in3 i (by omega) e
      rw [List.length_append, List.length_singleton]; omega
    · split
      · rw [List.length_dropLast]; omega
      · exact this
theorem prodL_le (hl : ∀ x ∈ l, right x = true) : ∀ s : List Nat, (∀ k ∈ s, k < l.length ∧ opA l k = 17) → prodL l s ≤ 64 ^ s.length
  | [], _ => Nat.le_refl _
  | k :: s, h => by
    have hk := h k (List.mem_cons_self ..)
    have := loop_imm (hl _ (getD_mem hk.1)) hk.2
    rw [prodL, List.length_cons, Nat.pow_succ, Nat.mul_comm]
    exact Nat.mul_le_mul (prodL_le hl s fun q hq => h q (List.mem_cons_of_mem _ hq)) (by unfold immN; omega)
theorem opn_loops {i : Nat} (hi : i ≤ l.length) : ∀ k ∈ opn l i, k < l.length ∧ opA l k = 17 := fun k hk => by
  have := opn_lt hk
  exact ⟨by omega, this.2⟩
theorem prodL_small (h : LpR l lp en) (hl : ∀ x ∈ l, right x = true) {i : Nat} (hi : i ≤ l.length) : prodL l (opn l i) ≤ 262144 := by
  refine Nat.le_trans (prodL_le hl _ (opn_loops hi)) ?_
  exact Nat.le_trans (Nat.pow_le_pow_right (by omega) (h.len3 i hi)) (by decide)
theorem prodF_eq (h : LpR l lp en) (hl : ∀ x ∈ l, right x = true) : ∀ (f j q : Nat), j ≤ l.length → (opn l j).length < f → q * 64 ^ (opn l j).length ≤ 1000000000 → prodF l lp f (topN (opn l j)) (q : Int) = ((q * prodL l (opn l j) : Nat) : Int) := by
  intro f
  induction f with
  | zero => intro j q _ h1; omega
  | succ f ih =>
    intro j q hj h1 h2
    rw [prodF]
    by_cases hne : opn l j = []
    · rw [hne, topN_nil]
      show (q : Int) = _
      simp [prodL]
    · obtain ⟨k, k1, k2, k3, k4⟩ := opn_top hne
      have hlen : (opn l j).length = (opn l k).length + 1 := by rw [k1, List.length_append]; rfl
      have hi := loop_imm (hl _ (getD_mem (show k < l.length by omega))) k3
      have hin : (l.getD k insD).imm = (immN l k : Int) := by unfold immN; omega
      have himm : immN l k ≤ 64 := by unfold immN; omega
      rw [hlen, Nat.pow_succ] at h2
      have h3 : q * immN l k * 64 ^ (opn l k).length ≤ 1000000000 := by
        refine Nat.le_trans ?_ h2
        rw [Nat.mul_assoc, Nat.mul_comm (64 ^ _) 64]
        exact Nat.mul_le_mul_left q (Nat.mul_le_mul_right _ himm)
      have h4 : q * immN l k ≤ 1000000000 := Nat.le_trans (Nat.le_mul_of_pos_right _ (Nat.pow_pos (by omega))) h3
      rw [k4, decide_eq_true (show (k : Int) ≥ 0 by omega), cond_true, Int.toNat_natCast, hin, h.lp k (by omega)]
      have hw : w ((q : Int) * (immN l k : Int)) = ((q * immN l k : Nat) : Int) := by
        rw [show (q : Int) * (immN l k : Int) = ((q * immN l k : Nat) : Int) by simp]
        exact w_id (by omega) (by omega)
      rw [hw, ih k (q * immN l k) (by omega) (by omega) h3, k1, prodL_app]
      congr 1
      show q * immN l k * prodL l (opn l k) = q * (prodL l (opn l k) * (immN l k * 1))
      rw [Nat.mul_one, Nat.mul_assoc, Nat.mul_comm (immN l k)]
theorem fuelF_eq (h : LpR l lp en) (hl : ∀ x ∈ l, right x = true) (hn : l.length ≤ 1000) : ∀ (f i : Nat), l.length - i < f → i ≤ l.length → fuelF l lp f i ((sumTo (fun i => prodL l (opn l i)) i : Nat) : Int) = ((sumTo (fun i => prodL l (opn l i)) l.length : Nat) : Int) := by
  have bound : ∀ i, i ≤ l.length → sumTo (fun i => prodL l (opn l i)) i ≤ i * 262144 := by
    intro i
    induction i with
    | zero => intro _; exact Nat.le_refl _
    | succ i ih =>
      intro hi
      have := ih (by omega)
      have := prodL_small h hl (i := i) (by omega)
      rw [sumTo, Nat.add_mul]; omega
  intro f
  induction f with
  | zero => intro i h1; omega
  | succ f ih =>
    intro i h1 h2
    rw [fuelF]
    by_cases hi : i < l.length
    · rw [decide_eq_true hi, cond_true, h.lp i hi]
      have h3 := h.len3 i h2
      have hp := prodF_eq h hl (l.length + 1) i 1 h2 (by
        have : (opn l i).length ≤ i := by
          have : ∀ j, (opn l j).length ≤ j := by
            intro j
            induction j with
            | zero => simp [opn]
            | succ j ih =>
              rw [opn]
              split
              · rw [List.length_append, List.length_singleton]; omega
              · split
                · rw [List.length_dropLast]; omega
                · omega
          exact this i
        omega) (by
        rw [Nat.one_mul]
        exact Nat.le_trans (Nat.pow_le_pow_right (by omega) h3) (by decide))
      rw [show ((1 : Nat) : Int) = 1 from rfl, Nat.one_mul] at hp
      have b1 := bound i h2
      have b2 := prodL_small h hl h2
      have hm : i * 262144 ≤ 1000 * 262144 := Nat.mul_le_mul_right _ (by omega)
      rw [hp, w_id (by omega) (by omega)]
      have := ih (i + 1) (by omega) (by omega)
      rw [sumTo] at this
      rw [← this]
      congr 1
    · rw [decide_eq_false hi, cond_false]
      have : i = l.length := by omega
      subst this; rfl
/-- At the beginning the fuel is what is to be done. -/
theorem fu_rem (h : LpR l (lo0 l).2.1 en) (hl : ∀ x ∈ l, right x = true) (hn : l.length ≤ 1000) : fu l = ((rem l 0 [] : Nat) : Int) := by
  unfold fu
  have := fuelF_eq h hl hn (l.length + 1) 0 (by omega) (by omega)
  rw [show ((sumTo (fun i => prodL l (opn l i)) 0 : Nat) : Int) = 0 from rfl] at this
  rw [this]
  congr 1
  unfold rem
  congr 1
  funext i
  unfold term
  rw [if_pos (Nat.zero_le _), from_all (fun k _ => Nat.zero_le _)]
  rfl
end

/-- What the checker has found right. -/
structure Safe (l : List Ins) (C : List Value) (lp en : List Int) : Prop where
  hl : ∀ x ∈ l, right x = true
  lpr : LpR l lp en
  good : ∀ i, i < l.length → Good l lp en C i
  sts : StsOk C l.length
  spb : SpAll C l.length
  n : l.length ≤ 128
/-- What holds ahead of an instruction. -/
structure RI (l : List Ins) (C : List Value) (M : Mc) (p : Nat) : Prop where
  le : M.l = l
  inv : Inv M
  ok : Mok M
  bd : Bd M.rs
  pc : M.pc = (p : Int)
  lt : p < l.length
  come : coA C (p * 25) = true
  fits : Fits C (p * 25) M.rs
  lo : M.lo.map (·.1) = cN (opn l p)
  loops : ∀ k ∈ opn l p, coA C (k * 25) = true ∧ coA C ((k + 1) * 25) = true ∧ Fits C ((k + 1) * 25) M.rs
  left : ∀ o ∈ M.lo, 1 ≤ o.2 ∧ o.2 ≤ 64
  en : M.en = false
section
variable {l : List Ins} {C : List Value} {lp en : List Int} {M : Mc} {p : Nat}
theorem Safe.top (S : Safe l C lp en) {k r : Nat} (hk : k < l.length) (ho : opA l k = 17) (hc : coA C (k * 25) = true) (hr : r < 8) (hkn : knA C ((k + 1) * 25) r = true)
    (hw : ∃ x ∈ (l.drop (k + 1)).take ((en.getD k 0).toNat - (k + 1)), wrI x = (r : Int)) : loA C ((k + 1) * 25) r ≤ -1099511627776 ∧ 1099511627776 ≤ hiA C ((k + 1) * 25) r := by
  have ho' : (l.getD k insD).op = 17 := ho
  obtain ⟨_, _, hcov⟩ := (S.good k hk).nxt hc (by rw [ho']; decide) (by rw [ho']; decide)
  obtain ⟨c1, c2, c3⟩ := hcov r hr hkn
  obtain ⟨_, _, s3⟩ := sta_eq S.sts hk
  have e : postS l en C k = widenL ((l.drop (k + 1)).take ((en.getD k 0).toNat - (k + 1))) (stAt C k) := by unfold postS; rw [ho']; rfl
  rw [e] at c1 c2 c3
  have hb : ∀ x ∈ (l.drop (k + 1)).take ((en.getD k 0).toNat - (k + 1)), right x = true := fun x hx => S.hl x (List.mem_of_mem_drop (List.mem_of_mem_take hx))
  obtain ⟨a1, a2, _⟩ := widenL_at hb s3 hr
  rw [a1] at c1
  obtain ⟨a3, a4⟩ := a2 c1 hw
  omega
theorem Safe.body (S : Safe l C lp en) {k : Nat} (hp : p < l.length) (hk : k ∈ opn l p) (h18 : opA l p ≠ 18) : l.getD p insD ∈ (l.drop (k + 1)).take ((en.getD k 0).toNat - (k + 1)) := by
  obtain ⟨k1, k2⟩ := opn_lt hk
  have hm := (S.lpr.mem (show k < l.length by omega) k2).1 hk
  obtain ⟨e, e1, e2, e3, e4, e5⟩ := S.lpr.en k (by omega) k2
  rw [e1] at hm ⊢
  have hne : p ≠ e := by rintro rfl; exact h18 e4
  rw [Int.toNat_natCast]
  refine List.mem_take_iff_getElem.2 ⟨p - (k + 1), by rw [List.length_drop]; omega, ?_⟩
  rw [List.getElem_drop, List.getD_eq_getElem?_getD, List.getElem?_eq_getElem hp]
  show l[k + 1 + (p - (k + 1))] = l[p]
  congr 1; omega
/-- What an instruction does that goes on to the next one. -/
structure Dat (C : List Value) (x : Ins) (p : Nat) (M M' : Mc) : Prop where
  pc : M'.pc = M.pc
  lo : M'.lo = M.lo
  en : M'.en = M.en
  fits : Fits (c46 (stAt C p) x.op x.d x.s x.imm) 0 M'.rs
  bd : Bd M'.rs
  same : ∀ q : Nat, q < 8 → wrI x ≠ (q : Int) → rg M'.rs q = rg M.rs q
  kept : Kept M M'
theorem Dat.ok (h : Mok M) {M' : Mc} (hk : Kept M M') : Mok M' := by
  obtain ⟨_, h2, h3⟩ := hk.al
  exact ⟨hk.rs, by rw [h2]; exact h.pg, by rw [h3]; exact h.ky, hk.sc⟩
theorem stAt_fits {rs : List Int} (h : Fits C (p * 25) rs) : Fits (stAt C p) 0 rs := by
  refine Fits.cov (Cov.same fun j hj => ?_) h
  rw [stAt, nth_eq, nth_eq, Nat.zero_add, List.getElem?_take_of_lt hj, List.getElem?_drop]
/-- Behind such an instruction. -/
theorem Dat.next (S : Safe l C lp en) (R : RI l C M p) {M' : Mc} (h17 : opA l p ≠ 17) (h18 : opA l p ≠ 18) (h12 : opA l p ≠ 12) (h20 : opA l p ≠ 20) (D : Dat C (l.getD p insD) p M M') (steps : Int) :
    RI l C (nextM M' steps) (p + 1) ∧ rem l (p + 1) (nextM M' steps).lo < rem l p M.lo := by
  obtain ⟨i1, i2⟩ := D.kept.inv R.inv steps
  obtain ⟨n1, n2, n3⟩ := (S.good p R.lt).nxt R.come h12 h20
  have hp : postS l en C p = c46 (stAt C p) (l.getD p insD).op (l.getD p insD).d (l.getD p insD).s (l.getD p insD).imm := by
    unfold postS wid25
    rw [beq_eq_false_iff_ne.2 h17]; rfl
  have hok := Dat.ok R.ok D.kept
  refine ⟨⟨D.kept.al.1.trans R.le, i1, ⟨hok.rs, hok.pg, hok.ky, hok.sc⟩, D.bd, ?_, n1, n2, ?_, ?_, fun k hk => ?_, ?_, ?_⟩, ?_⟩
  · rw [i2, D.pc, R.pc]; rfl
  · rw [hp] at n3
    exact Fits.cov n3 D.fits
  · rw [opn_other h17 h18, ← R.lo]
    show M'.lo.map _ = _
    rw [D.lo]
  · rw [opn_other h17 h18] at hk
    obtain ⟨a1, a2, a3⟩ := R.loops k hk
    refine ⟨a1, a2, fun r hr hkn => ?_⟩
    obtain ⟨k1, k2⟩ := opn_lt hk
    show loA C ((k + 1) * 25) r ≤ rg M'.rs r ∧ rg M'.rs r ≤ hiA C ((k + 1) * 25) r
    by_cases c : wrI (l.getD p insD) = (r : Int)
    · obtain ⟨t1, t2⟩ := S.top (show k < l.length by have := R.lt; omega) k2 a1 hr hkn ⟨_, S.body R.lt hk h18, c⟩
      have := D.bd r hr
      unfold In40 at this
      omega
    · rw [D.same r hr c]
      exact a3 r hr hkn
  · show ∀ o ∈ M'.lo, _
    rw [D.lo]; exact R.left
  · show M'.en = false
    rw [D.en]; exact R.en
  · show rem l (p + 1) M'.lo < _
    rw [D.lo]; exact rem_next R.lt h17
theorem wrI_op {x : Ins} {d : Int} (h : r71 x.op x.d x.s x.imm = d) : wrI x = d := h
theorem rg_set_ne {rs : List Int} (h : rs.length = 8) {d q : Nat} (hd : d < 8) (v : Int) (hne : q ≠ d) : rg (rs.set d v) q = rg rs q := by rw [rg_set h hd, if_neg hne]
/-- Instructions that reckon, look, store or call. -/
theorem dat_step (S : Safe l C lp en) (R : RI l C M p) (h : isNum (opA l p) = true ∨ opA l p = 7 ∨ opA l p = 8 ∨ opA l p = 9 ∨ opA l p = 10 ∨ opA l p = 11 ∨ opA l p = 19) :
    (stepX M (l.getD p insD)).1 = true ∧ Dat C (l.getD p insD) p M (stepX M (l.getD p insD)).2 := by
  have hx := S.hl _ (getD_mem R.lt)
  obtain ⟨⟨d0, d1⟩, s0, s1⟩ := right_regs hx
  have hi := right_imm hx
  obtain ⟨_, _, s3⟩ := sta_eq S.sts R.lt
  have hf := stAt_fits R.fits
  have hsp := stAt_spb (S.spb p R.lt)
  have hr := (S.good p R.lt).ok R.come
  have hlt : M.pc < (M.l.length : Int) := by rw [R.pc, R.le]; have := R.lt; omega
  have kp := @stepX_kept M R.inv hlt (l.getD p insD)
  unfold opA at h
  generalize l.getD p insD = x at *
  obtain ⟨d, hd⟩ := Int.eq_ofNat_of_zero_le d0
  obtain ⟨s, hs⟩ := Int.eq_ofNat_of_zero_le s0
  rw [hd] at d1
  rw [hs] at s1
  have hr8 := R.ok.rs
  rcases h with hn | h | h | h | h | h | h
  · have e : stepX M x = (true, { M with rs := numR M.rs x.op x.d.toNat x.s.toNat x.imm }) := by unfold stepX; rw [hn]; rfl
    rw [e] at kp ⊢
    rw [hd, hs] at hr
    obtain ⟨a1, a2, _⟩ := num_sound s3 hr8 (show d < 8 by omega) (show s < 8 by omega) hi hf R.bd hsp hn hr
    have hw : wrI x = (d : Int) := by
      rw [← hd]
      unfold isNum at hn
      simp only [Bool.or_eq_true, beq_iff_eq] at hn
      refine wrI_op ?_
      rcases hn with (((((h | h) | h) | h) | h) | h) | h <;> (rw [h]; rfl)
    refine ⟨rfl, rfl, rfl, rfl, ?_, ?_, fun q hq hne => ?_, kp rfl⟩
    · show Fits _ 0 (numR M.rs x.op x.d.toNat x.s.toNat x.imm)
      rw [hd, hs, Int.toNat_natCast, Int.toNat_natCast]; exact a1
    · show Bd (numR M.rs x.op x.d.toNat x.s.toNat x.imm)
      rw [hd, hs, Int.toNat_natCast, Int.toNat_natCast]; exact a2
    · show rg (numR M.rs x.op x.d.toNat x.s.toNat x.imm) q = _
      unfold numR
      rw [hn, cond_true, hd, Int.toNat_natCast]
      rw [hw] at hne
      exact rg_set_ne hr8 (by omega) _ (by omega)
  iterate 4
    · have e : stepX M x = lookM M x.op x.d.toNat x.s.toNat x.imm := by unfold stepX doM; rw [h]; rfl
      rw [e] at kp ⊢
      rw [hd, hs] at hr kp ⊢
      rw [Int.toNat_natCast, Int.toNat_natCast] at kp ⊢
      obtain ⟨a1, a2, a3⟩ := look_sound R.ok s3 (show d < 8 by omega) (show s < 8 by omega) hi (by omega) hsp hf R.bd hr
      have hw : wrI x = (d : Int) := by rw [← hd]; refine wrI_op ?_; rw [h]; rfl
      have e2 := lookM_ok a1
      refine ⟨a1, ?_, ?_, ?_, by rw [hd, hs]; exact a2, a3, fun q hq hne => ?_, kp a1⟩
      · rw [e2]
      · rw [e2]
      · rw [e2]
      · rw [e2]
        rw [hw] at hne
        exact rg_set_ne hr8 (by omega) _ (by omega)
  · have e : stepX M x = storeM M x := by unfold stepX doM; rw [h]; rfl
    rw [e] at kp ⊢
    obtain ⟨a1, a2⟩ := store_sound (show d < 8 by omega) hd h hi hsp hf R.bd hr
    have ec : c46 (stAt C p) x.op x.d x.s x.imm = stAt C p := by rw [h]; rfl
    have e3 : (storeM M x).2.pc = M.pc ∧ (storeM M x).2.lo = M.lo ∧ (storeM M x).2.en = M.en := by
      unfold storeM
      refine bifB (P := fun r : Bool × Mc => r.2.pc = M.pc ∧ r.2.lo = M.lo ∧ r.2.en = M.en) (fun _ => ⟨rfl, rfl, rfl⟩) (fun _ => ?_)
      exact bifB (P := fun r : Bool × Mc => r.2.pc = M.pc ∧ r.2.lo = M.lo ∧ r.2.en = M.en) (fun _ => ⟨rfl, rfl, rfl⟩) (fun _ => ⟨rfl, rfl, rfl⟩)
    exact ⟨a1, e3.1, e3.2.1, e3.2.2, by rw [ec, a2]; exact hf, by rw [a2]; exact R.bd, fun q _ _ => by rw [a2], kp a1⟩
  · have e : stepX M x = callM M x.imm := by unfold stepX doM; rw [h]; rfl
    rw [e] at kp ⊢
    obtain ⟨a1, a2, a3⟩ := call_sound hx R.ok s3 h hsp hf R.bd hr
    have e3 : (callM M x.imm).2.pc = M.pc ∧ (callM M x.imm).2.lo = M.lo ∧ (callM M x.imm).2.en = M.en ∧ ((callM M x.imm).2.rs = M.rs ∨ ∃ v, (callM M x.imm).2.rs = M.rs.set 0 v) := by
      unfold callM
      repeat' refine bifB (P := fun r : Bool × Mc => r.2.pc = M.pc ∧ r.2.lo = M.lo ∧ r.2.en = M.en ∧ (r.2.rs = M.rs ∨ ∃ v, r.2.rs = M.rs.set 0 v)) (fun _ => ?_) (fun _ => ?_)
      · exact ⟨rfl, rfl, rfl, .inl rfl⟩
      · exact ⟨rfl, rfl, rfl, .inl rfl⟩
      · exact ⟨rfl, rfl, rfl, .inl rfl⟩
      · exact ⟨rfl, rfl, rfl, .inl rfl⟩
      · exact ⟨rfl, rfl, rfl, .inr ⟨_, rfl⟩⟩
    refine ⟨a1, e3.1, e3.2.1, e3.2.2.1, a2, a3, fun q hq hne => ?_, kp a1⟩
    by_cases h1 : x.imm = 1
    · have hw : wrI x = ((0 : Nat) : Int) := by refine wrI_op ?_; rw [h, h1]; rfl
      rw [hw] at hne
      rcases e3.2.2.2 with h' | ⟨v, h'⟩
      · rw [h']
      · rw [h']; exact rg_set_ne hr8 (by omega) _ (by omega)
    · have : (callM M x.imm).2.rs = M.rs := by
        have h51 := right_r51 hx
        rw [h] at h51
        have e5 : r51 19 x.d x.s x.imm = bif decide (x.imm ≥ 1) then decide (x.imm ≤ 3) else false := rfl
        rw [e5] at h51
        have : x.imm = 2 ∨ x.imm = 3 := by
          cases c : decide (x.imm ≥ 1) with
          | false => rw [c] at h51; cases h51
          | true => rw [c, cond_true] at h51; simp only [decide_eq_true_eq] at c h51; omega
        rcases this with h2 | h2
        · rw [h2]
          unfold callM
          have : ((2 : Int) == 3) = false := rfl
          rw [this, cond_false]
          refine bifB (P := fun r : Bool × Mc => r.2.rs = M.rs) (fun _ => rfl) (fun _ => ?_)
          exact bifB (P := fun r : Bool × Mc => r.2.rs = M.rs) (fun _ => rfl) (fun _ => rfl)
        · rw [h2]; rfl
      rw [this]
end

section
variable {l : List Ins} {C : List Value} {lp en : List Int} {M : Mc} {p : Nat}
theorem RI.len (R : RI l C M p) : M.lo.length = (opn l p).length := by
  have := congrArg List.length R.lo
  rwa [List.length_map, cN_len] at this
/-- A Loop's head. -/
theorem loop_step (S : Safe l C lp en) (R : RI l C M p) (h : opA l p = 17) (steps : Int) :
    (stepX M (l.getD p insD)).1 = true ∧ RI l C (nextM (stepX M (l.getD p insD)).2 steps) (p + 1) ∧ rem l (p + 1) (nextM (stepX M (l.getD p insD)).2 steps).lo < rem l p M.lo := by
  have hx := S.hl _ (getD_mem R.lt)
  have hlt : M.pc < (M.l.length : Int) := by rw [R.pc, R.le]; have := R.lt; omega
  have kp := @stepX_kept M R.inv hlt (l.getD p insD)
  obtain ⟨m1, m2⟩ := loop_imm hx h
  obtain ⟨_, _, s3⟩ := sta_eq S.sts R.lt
  have h3 : (M.lo.length : Int) ≠ 3 := by rw [R.len]; have := S.lpr.in3 p R.lt h; omega
  have e : stepX M (l.getD p insD) = (true, { M with lo := M.lo ++ [(M.pc, (l.getD p insD).imm)] }) := by
    unfold stepX doM
    have h' : (l.getD p insD).op = 17 := h
    rw [h']
    show loopM M (l.getD p insD) = _
    unfold loopM
    rw [beq_eq_false_iff_ne.2 h3]; rfl
  rw [e] at kp ⊢
  have K := kp rfl
  obtain ⟨i1, i2⟩ := K.inv R.inv steps
  have hok := Dat.ok R.ok K
  have h' : (l.getD p insD).op = 17 := h
  obtain ⟨n1, n2, n3⟩ := (S.good p R.lt).nxt R.come (by rw [h']; decide) (by rw [h']; decide)
  have hpo : postS l en C p = widenL ((l.drop (p + 1)).take ((en.getD p 0).toNat - (p + 1))) (stAt C p) := by unfold postS; rw [h']; rfl
  have hb : ∀ x ∈ (l.drop (p + 1)).take ((en.getD p 0).toNat - (p + 1)), right x = true := fun x hx => S.hl x (List.mem_of_mem_drop (List.mem_of_mem_take hx))
  have hfit : Fits C ((p + 1) * 25) M.rs := by
    refine Fits.cov n3 ?_
    rw [hpo]
    exact widenL_fits hb s3 (stAt_fits R.fits) R.bd
  refine ⟨rfl, ⟨R.le, i1, ⟨hok.rs, hok.pg, hok.ky, hok.sc⟩, R.bd, ?_, n1, n2, hfit, ?_, fun k hk => ?_, fun o ho => ?_, R.en⟩, ?_⟩
  · rw [i2]; show M.pc + 1 = _; rw [R.pc]; rfl
  · show (M.lo ++ [(M.pc, (l.getD p insD).imm)]).map (·.1) = _
    rw [opn_loop h, cN_snoc, List.map_append, R.lo, R.pc]; rfl
  · rw [opn_loop h] at hk
    rcases List.mem_append.1 hk with hk | hk
    · exact R.loops k hk
    · simp only [List.mem_singleton] at hk; subst hk
      exact ⟨R.come, n2, hfit⟩
  · have ho' : o ∈ M.lo ++ [(M.pc, (l.getD p insD).imm)] := ho
    rcases List.mem_append.1 ho' with ho' | ho'
    · exact R.left o ho'
    · simp only [List.mem_singleton] at ho'; subst ho'; exact ⟨m1, m2⟩
  · show rem l (p + 1) (M.lo ++ [(M.pc, (l.getD p insD).imm)]) < _
    rw [R.pc]
    exact rem_loop R.lt rfl m1
/-- A Loop's End. -/
theorem end_step (S : Safe l C lp en) (R : RI l C M p) (h : opA l p = 18) (steps : Int) :
    (stepX M (l.getD p insD)).1 = true ∧ ∃ q, RI l C (nextM (stepX M (l.getD p insD)).2 steps) q ∧ rem l q (nextM (stepX M (l.getD p insD)).2 steps).lo < rem l p M.lo := by
  have h' : (l.getD p insD).op = 18 := h
  have hlt : M.pc < (M.l.length : Int) := by rw [R.pc, R.le]; have := R.lt; omega
  have kp := @stepX_kept M R.inv hlt (l.getD p insD)
  obtain ⟨k, k1, k2, k3, k4⟩ := opn_top (S.lpr.pos p R.lt h)
  have hne : M.lo ≠ [] := by
    intro e
    have := R.len
    rw [e, k1] at this; simp at this
  obtain ⟨lo', o, hlo⟩ : ∃ lo' o, M.lo = lo' ++ [o] := by
    rcases List.eq_nil_or_concat M.lo with e | ⟨u, x, e⟩
    · exact absurd e hne
    · exact ⟨u, x, by rw [e, List.concat_eq_append]⟩
  have hmap := R.lo
  rw [hlo, k1, cN_snoc, List.map_append] at hmap
  obtain ⟨hm1, hm2⟩ := List.append_inj' hmap rfl
  have ho1 : o.1 = (k : Int) := by simpa using hm2
  obtain ⟨l1, l2⟩ := R.left o (by rw [hlo]; simp)
  have htop : topL M.lo = o := by
    unfold topL
    rw [hlo, List.getD_eq_getElem?_getD]; simp
  have hlen : M.lo.length = lo'.length + 1 := by rw [hlo, List.length_append]; rfl
  have e : stepX M (l.getD p insD) = endM M := by unfold stepX doM; rw [h']; rfl
  have h0 : ((M.lo.length : Int) == 0) = false := beq_eq_false_iff_ne.2 (by omega)
  have hw : w ((topL M.lo).2 - 1) = o.2 - 1 := by rw [htop]; exact w_id (by omega) (by omega)
  have e2 : endM M = bif decide (o.2 - 1 > 0) then (true, { M with pc := (k : Int), lo := lo' ++ [((k : Int), o.2 - 1)] }) else (true, { M with lo := lo' }) := by
    unfold endM
    rw [h0, cond_false, hw, htop, ho1]
    have t1 : M.lo.set (M.lo.length - 1) ((k : Int), o.2 - 1) = lo' ++ [((k : Int), o.2 - 1)] := by rw [hlen, hlo]; simp
    have t2 : M.lo.take (M.lo.length - 1) = lo' := by rw [hlen, hlo]; simp
    rw [t1, t2]
  have hoo : o = ((k : Int), o.2) := by rw [← ho1]
  have hlo2 : M.lo = lo' ++ [((k : Int), o.2)] := by rw [hlo, ← hoo]
  rw [e, e2] at kp ⊢
  cases c : decide (o.2 - 1 > 0) with
  | true =>
    simp only [decide_eq_true_eq] at c
    rw [show decide (o.2 - 1 > 0) = true from decide_eq_true c, cond_true] at kp
    rw [cond_true]
    have K := kp rfl
    obtain ⟨i1, i2⟩ := K.inv R.inv steps
    have hok := Dat.ok R.ok K
    obtain ⟨a1, a2, a3⟩ := R.loops k (by rw [k1]; simp)
    have hop : opn l (k + 1) = opn l p := by rw [opn_loop k3, k1]
    refine ⟨rfl, k + 1, ⟨R.le, i1, ⟨hok.rs, hok.pg, hok.ky, hok.sc⟩, R.bd, i2, by have := R.lt; omega, a2, a3, ?_, fun q hq => ?_, fun q hq => ?_, R.en⟩, ?_⟩
    · show (lo' ++ [((k : Int), o.2 - 1)]).map (·.1) = _
      rw [hop, k1, cN_snoc, List.map_append, hm1]; rfl
    · rw [hop] at hq; exact R.loops q hq
    · have hq' : q ∈ lo' ++ [((k : Int), o.2 - 1)] := hq
      rcases List.mem_append.1 hq' with hq' | hq'
      · exact R.left q (by rw [hlo]; exact List.mem_append_left _ hq')
      · simp only [List.mem_singleton] at hq'; subst hq'; exact ⟨by simp only; omega, by simp only; omega⟩
    · show rem l (k + 1) (lo' ++ [((k : Int), o.2 - 1)]) < rem l p M.lo
      rw [hlo2]
      exact rem_back R.lt h k1 (by omega)
  | false =>
    rw [c, cond_false] at kp
    rw [cond_false]
    have K := kp rfl
    obtain ⟨i1, i2⟩ := K.inv R.inv steps
    have hok := Dat.ok R.ok K
    obtain ⟨n1, n2, n3⟩ := (S.good p R.lt).nxt R.come (by rw [h']; decide) (by rw [h']; decide)
    have hpo : postS l en C p = stAt C p := by unfold postS; rw [h']; rfl
    rw [hpo] at n3
    refine ⟨rfl, p + 1, ⟨R.le, i1, ⟨hok.rs, hok.pg, hok.ky, hok.sc⟩, R.bd, ?_, n1, n2, Fits.cov n3 (stAt_fits R.fits), ?_, fun q hq => ?_, fun q hq => ?_, R.en⟩, ?_⟩
    · rw [i2]; show M.pc + 1 = _; rw [R.pc]; rfl
    · show lo'.map (·.1) = _
      rw [opn_endAt h k1, hm1]
    · rw [opn_endAt h k1] at hq
      exact R.loops q (by rw [k1]; exact List.mem_append_left _ hq)
    · exact R.left q (by rw [hlo]; exact List.mem_append_left _ hq)
    · show rem l (p + 1) lo' < rem l p M.lo
      rw [hlo2]
      exact rem_out R.lt h
/-- A jump that is done. -/
theorem jump_step (S : Safe l C lp en) (R : RI l C M p) (hj : r44 (opA l p) = true) (steps : Int) :
    (jumpM M (l.getD p insD).imm).1 = true ∧ ∃ q, RI l C (nextM (jumpM M (l.getD p insD).imm).2 steps) q ∧ rem l q (nextM (jumpM M (l.getD p insD).imm).2 steps).lo < rem l p M.lo := by
  have G := S.good p R.lt
  have hb := G.bad
  obtain ⟨t0, t1, t2⟩ := jump_imm hb hj (by omega)
  obtain ⟨t, ht⟩ := Int.eq_ofNat_of_zero_le t0
  obtain ⟨g1, g2⟩ := G.jmp R.come hj
  unfold bad25 at hb
  rw [show r44 (l.getD p insD).op = true from hj, cond_true] at hb
  cases c1 : decide ((l.getD p insD).imm ≤ (p : Int)) with
  | true => rw [c1] at hb; cases hb
  | false =>
    cases c2 : decide ((l.getD p insD).imm ≥ (l.length : Int)) with
    | true => rw [c1, c2] at hb; cases hb
    | false =>
      rw [c1, c2, cond_false, cond_false, ht, Int.toNat_natCast] at hb
      simp only [Bool.not_eq_false'] at hb
      rw [ht] at c1 c2 t1 g1 g2 ⊢
      rw [Int.toNat_natCast] at g1 g2
      simp only [decide_eq_false_iff_not] at c1 c2
      have hpt : p < t := by omega
      have htn : t < l.length := by omega
      rw [S.lpr.lp t htn] at hb
      have hin := S.lpr.within (i := p) _ t (by omega) hb
      have hr44 : (opA l p) ≠ 17 := by
        intro e; rw [e] at hj; cases hj
      have hop : postS l en C p = stAt C p := by
        have h5 : (l.getD p insD).op = 12 ∨ (l.getD p insD).op = 13 ∨ (l.getD p insD).op = 14 ∨ (l.getD p insD).op = 15 ∨ (l.getD p insD).op = 16 := by
          have hj' : r44 (l.getD p insD).op = true := hj
          unfold r44 at hj'
          cases q1 : decide ((l.getD p insD).op ≥ 12) with
          | false => rw [q1] at hj'; cases hj'
          | true => rw [q1, cond_true] at hj'; simp only [decide_eq_true_eq] at q1 hj'; omega
        unfold postS
        rcases h5 with h5 | h5 | h5 | h5 | h5 <;> (rw [h5]; rfl)
      rw [hop] at g2
      have hlv := leave_opn (l := l) (i := p) (t := t) (by omega) hpt hin (M.lo.length + 1) M.lo (opn l p).length (by rw [List.take_length]; exact R.lo) (by
        obtain ⟨r, hr⟩ := opn_prefix hin
        rw [hr, List.length_append]; omega) (by omega)
      have hn := S.n
      have e : jumpM M (t : Int) = (true, { M with pc := w ((t : Int) - 1), lo := M.lo.take (opn l t).length }) := by
        unfold jumpM
        rw [R.pc, R.le, decide_eq_false (by omega), decide_eq_false (by omega), cond_false, cond_false]
        unfold leaveM
        rw [hlv]
      have K := jump_kept R.inv (t := (t : Int)) (by rw [e])
      rw [e] at K ⊢
      obtain ⟨i1, i2⟩ := K.inv R.inv steps
      have hok := Dat.ok R.ok K
      have htk : (M.lo.take (opn l t).length).map (·.1) = cN (opn l t) := by
        obtain ⟨r, hr⟩ := opn_prefix hin
        rw [List.map_take, R.lo, hr]
        unfold cN
        rw [List.map_append, List.take_append_of_le_length (by simp), List.take_of_length_le (by simp)]
      refine ⟨rfl, t, ⟨R.le, i1, ⟨hok.rs, hok.pg, hok.ky, hok.sc⟩, R.bd, ?_, htn, g1, Fits.cov g2 (stAt_fits R.fits), htk, fun k hk => R.loops k (hin k hk), fun o ho => R.left o (List.mem_of_mem_take ho), R.en⟩, ?_⟩
      · rw [i2]; show w ((t : Int) - 1) + 1 = _; rw [w_id (by omega) (by omega)]; omega
      · exact rem_jump R.lt hr44 hpt hin _
end

section
variable {l : List Ins} {C : List Value} {lp en : List Int} {M : Mc} {p : Nat}
/-- Each step may be done. -/
theorem step_safe (S : Safe l C lp en) (R : RI l C M p) (steps : Int) : insN M = l.getD p insD ∧ right (insN M) = true ∧ (stepX M (l.getD p insD)).1 = true ∧
    ((opA l p = 20 ∧ (stepX M (l.getD p insD)).2 = { M with code := rg M.rs 0, en := true }) ∨
     (opA l p ≠ 20 ∧ ∃ q, RI l C (nextM (stepX M (l.getD p insD)).2 steps) q ∧ rem l q (nextM (stepX M (l.getD p insD)).2 steps).lo < rem l p M.lo)) := by
  have hx := S.hl _ (getD_mem R.lt)
  have hins : insN M = l.getD p insD := by unfold insN; rw [R.le, R.pc, Int.toNat_natCast]
  refine ⟨hins, by rw [hins]; exact hx, ?_⟩
  have dat : (isNum (opA l p) = true ∨ opA l p = 7 ∨ opA l p = 8 ∨ opA l p = 9 ∨ opA l p = 10 ∨ opA l p = 11 ∨ opA l p = 19) → opA l p ≠ 17 → opA l p ≠ 18 → opA l p ≠ 12 → opA l p ≠ 20 →
      (stepX M (l.getD p insD)).1 = true ∧ ((opA l p = 20 ∧ (stepX M (l.getD p insD)).2 = { M with code := rg M.rs 0, en := true }) ∨
       (opA l p ≠ 20 ∧ ∃ q, RI l C (nextM (stepX M (l.getD p insD)).2 steps) q ∧ rem l q (nextM (stepX M (l.getD p insD)).2 steps).lo < rem l p M.lo)) := by
    intro h h17 h18 h12 h20
    obtain ⟨a1, a2⟩ := dat_step S R h
    exact ⟨a1, .inr ⟨h20, p + 1, a2.next S R h17 h18 h12 h20 steps⟩⟩
  have num : ∀ {k : Int}, opA l p = k → isNum k = true → k ≠ 17 → k ≠ 18 → k ≠ 12 → k ≠ 20 → _ := fun {k} e h a b c d => dat (.inl (by rw [e]; exact h)) (by rw [e]; exact a) (by rw [e]; exact b) (by rw [e]; exact c) (by rw [e]; exact d)
  have jmp : ∀ {k : Int}, opA l p = k → (k = 13 ∨ k = 14 ∨ k = 15 ∨ k = 16) →
      (stepX M (l.getD p insD)).1 = true ∧ ((opA l p = 20 ∧ (stepX M (l.getD p insD)).2 = { M with code := rg M.rs 0, en := true }) ∨
       (opA l p ≠ 20 ∧ ∃ q, RI l C (nextM (stepX M (l.getD p insD)).2 steps) q ∧ rem l q (nextM (stepX M (l.getD p insD)).2 steps).lo < rem l p M.lo)) := by
    intro k e hk
    have e' : (l.getD p insD).op = k := e
    have hs : stepX M (l.getD p insD) = bif !r54 (l.getD p insD).op (rg M.rs (l.getD p insD).d.toNat) (rg M.rs (l.getD p insD).s.toNat) then (true, M) else jumpM M (l.getD p insD).imm := by
      unfold stepX doM
      rcases hk with rfl | rfl | rfl | rfl <;> (rw [e']; rfl)
    rw [hs]
    cases c : (!r54 (l.getD p insD).op (rg M.rs (l.getD p insD).d.toNat) (rg M.rs (l.getD p insD).s.toNat)) with
    | false =>
      rw [cond_false]
      obtain ⟨a1, q, a2⟩ := jump_step S R (by rw [e]; rcases hk with rfl | rfl | rfl | rfl <;> rfl) steps
      exact ⟨a1, .inr ⟨by omega, q, a2⟩⟩
    | true =>
      rw [cond_true]
      have hlt : M.pc < (M.l.length : Int) := by rw [R.pc, R.le]; have := R.lt; omega
      have ec : c46 (stAt C p) (l.getD p insD).op (l.getD p insD).d (l.getD p insD).s (l.getD p insD).imm = stAt C p := by
        rcases hk with rfl | rfl | rfl | rfl <;> (rw [e']; rfl)
      exact ⟨rfl, .inr ⟨by omega, p + 1, Dat.next S R (by omega) (by omega) (by omega) (by omega) ⟨rfl, rfl, rfl, by rw [ec]; exact stAt_fits R.fits, R.bd, fun _ _ _ => rfl, R.inv.kept hlt⟩ steps⟩⟩
  have hop := right_op hx
  have e0 : opA l p = (l.getD p insD).op := rfl
  rcases hop with h | h | h | h | h | h | h | h | h | h | h | h | h | h | h | h | h | h | h | h | h
  iterate 7 exact dat (.inl (by rw [e0, h]; rfl)) (by omega) (by omega) (by omega) (by omega)
  iterate 5 exact dat (by omega) (by omega) (by omega) (by omega) (by omega)
  · have hs : stepX M (l.getD p insD) = jumpM M (l.getD p insD).imm := by unfold stepX doM; rw [h]; rfl
    rw [hs]
    obtain ⟨a1, q, a2⟩ := jump_step S R (by rw [e0, h]; rfl) steps
    exact ⟨a1, .inr ⟨by omega, q, a2⟩⟩
  · exact jmp (k := 13) h (by omega)
  · exact jmp (k := 14) h (by omega)
  · exact jmp (k := 15) h (by omega)
  · exact jmp (k := 16) h (by omega)
  · obtain ⟨a1, a2⟩ := loop_step S R h steps
    exact ⟨a1, .inr ⟨by omega, p + 1, a2⟩⟩
  · obtain ⟨a1, q, a2⟩ := end_step S R h steps
    exact ⟨a1, .inr ⟨by omega, q, a2⟩⟩
  · exact dat (by omega) (by omega) (by omega) (by omega) (by omega)
  · have hs : stepX M (l.getD p insD) = (true, { M with code := rg M.rs 0, en := true }) := by unfold stepX doM; rw [h]; rfl
    rw [hs]
    exact ⟨rfl, .inl ⟨h, rfl⟩⟩
/-- A run from a place on. -/
theorem run_end (S : Safe l C lp en) {fuel : Int} (hf : fuel < 1000000000) : ∀ (r f : Nat) (M : Mc) (p : Nat) (steps : Int), RI l C M p → rem l p M.lo ≤ r → r < f → 0 ≤ steps → steps + r ≤ fuel →
    (runF fuel f M steps).1 = 0 ∧ (runF fuel f M steps).2.1.st ≤ fuel := by
  intro r
  induction r with
  | zero =>
    intro f M p steps R h1
    have := rem_pos (l := l) (lo := M.lo) R.lt
    omega
  | succ r ih =>
    intro f M p steps R h1 h2 h3 h4
    obtain ⟨f, rfl⟩ : ∃ g, f = g + 1 := ⟨f - 1, by omega⟩
    obtain ⟨e1, e2, e3, e4⟩ := step_safe S R steps
    have hst : stepM M = stepX M (l.getD p insD) := by unfold stepM; rw [e2, e1]; rfl
    have hw : w (steps + 1) = steps + 1 := w_id (by omega) (by omega)
    have hlt := R.lt
    rw [runF, R.en, cond_false, R.pc, R.le, decide_eq_false (by omega), cond_false, decide_eq_false (by omega), cond_false, hst, e3, cond_true, hw]
    rcases e4 with ⟨_, e5⟩ | ⟨_, q, e5, e6⟩
    · rw [e5]
      obtain ⟨f, rfl⟩ : ∃ g, f = g + 1 := ⟨f - 1, by omega⟩
      have : (nextM { M with code := rg M.rs 0, en := true } steps).en = true := rfl
      rw [runF, this, cond_true]
      refine ⟨rfl, ?_⟩
      show w (steps + 1) ≤ fuel
      rw [hw]; omega
    · exact ih f _ q (steps + 1) e5 (by omega) (by omega) (by omega) (by omega)
end
/-! The beginning. -/
theorem st0_at {n : Nat} (hn : 0 < n) {j : Nat} (hj : j < 25) : nth (st0 n) j = if j = 0 then some (B true) else if j = 2 then some (B true) else if j = 11 then some (I 0) else if j = 12 then some (I 16) else nth z25 j := by
  have hl := zst_len n
  have hz := zst_nth n 0 j hn hj
  rw [Nat.zero_mul, Nat.zero_add] at hz
  unfold st0 setA
  have e1 : (0 : Nat) + 1 + (1 : Int).toNat * 1 = 2 := rfl
  have e2 : (0 : Nat) + 9 + (1 : Int).toNat * 2 = 11 := rfl
  rw [e1, e2]
  have l1 : 0 + [B true].length ≤ (zst n).length := by simp; omega
  have l2 : 2 + [B true].length ≤ (splice (zst n) 0 [B true]).length := by rw [splice_len l1]; simp; omega
  have l3 : 11 + [I 0, I 16].length ≤ (splice (splice (zst n) 0 [B true]) 2 [B true]).length := by rw [splice_len l2, splice_len l1]; simp; omega
  by_cases c11 : j = 11
  · subst c11; exact nth_splice_in (k := 0) l3 (by simp)
  by_cases c12 : j = 12
  · subst c12; exact nth_splice_in (k := 1) l3 (by simp)
  rw [nth_splice_out l3 (by simp; omega)]
  by_cases c2 : j = 2
  · subst c2; exact nth_splice_in (k := 0) l2 (by simp)
  rw [nth_splice_out l2 (by simp; omega)]
  by_cases c0 : j = 0
  · subst c0; exact nth_splice_in (k := 0) l1 (by simp)
  rw [nth_splice_out l1 (by simp; omega), if_neg c0, if_neg c2, if_neg c11, if_neg c12, hz]
theorem st0_else {n k j : Nat} (hk : 0 < k) (hkn : k < n) (hj : j < 25) : nth (st0 n) (k * 25 + j) = nth z25 j := by
  have hl := zst_len n
  unfold st0 setA
  have e1 : (0 : Nat) + 1 + (1 : Int).toNat * 1 = 2 := rfl
  have e2 : (0 : Nat) + 9 + (1 : Int).toNat * 2 = 11 := rfl
  rw [e1, e2]
  have l1 : 0 + [B true].length ≤ (zst n).length := by simp; omega
  have l2 : 2 + [B true].length ≤ (splice (zst n) 0 [B true]).length := by rw [splice_len l1]; simp; omega
  have l3 : 11 + [I 0, I 16].length ≤ (splice (splice (zst n) 0 [B true]) 2 [B true]).length := by rw [splice_len l2, splice_len l1]; simp; omega
  rw [nth_splice_out l3 (by simp; omega), nth_splice_out l2 (by simp; omega), nth_splice_out l1 (by simp; omega), zst_nth n k j hkn hj]
theorem st0_spb {n : Nat} : SpAll (st0 n) n := by
  intro k hk r hr
  unfold loA hiA
  have hz : ∀ j, 9 ≤ j → j < 25 → nth z25 j = some (I 0) := by
    intro j h1 h2
    have : j = 9 ∨ j = 10 ∨ j = 11 ∨ j = 12 ∨ j = 13 ∨ j = 14 ∨ j = 15 ∨ j = 16 ∨ j = 17 ∨ j = 18 ∨ j = 19 ∨ j = 20 ∨ j = 21 ∨ j = 22 ∨ j = 23 ∨ j = 24 := by omega
    rcases this with rfl | rfl | rfl | rfl | rfl | rfl | rfl | rfl | rfl | rfl | rfl | rfl | rfl | rfl | rfl | rfl <;> rfl
  have all : ∀ j, 9 ≤ j → j < 25 → In40 (intO (nth (st0 n) (k * 25 + j))) := by
    intro j h1 h2
    rcases Nat.eq_zero_or_pos k with rfl | h0
    · rw [Nat.zero_mul, Nat.zero_add, st0_at (by omega) h2, if_neg (by omega), if_neg (by omega), hz j h1 h2]
      repeat' split
      all_goals decide
    · rw [st0_else h0 hk h2, hz j h1 h2]; decide
  have a1 := all (9 + r * 2 + 0) (by omega) (by omega)
  have a2 := all (9 + r * 2 + 1) (by omega) (by omega)
  rw [show k * 25 + (9 + r * 2 + 0) = k * 25 + 9 + r * 2 + 0 by omega] at a1
  rw [show k * 25 + (9 + r * 2 + 1) = k * 25 + 9 + r * 2 + 1 by omega] at a2
  exact ⟨a1, a2⟩
theorem st0_fits {n : Nat} (hn : 0 < n) {k : Nat} (hk : k ≤ 16) : Fits (st0 n) (0 * 25) [0, (k : Int), 0, 0, 0, 0, 0, 0] := by
  intro r hr hkn
  unfold knA loA hiA at *
  rw [Nat.zero_mul, Nat.zero_add] at *
  by_cases e : r = 1
  · subst e
    rw [st0_at hn (by omega), st0_at hn (by omega)]
    show (0 : Int) ≤ (k : Int) ∧ (k : Int) ≤ 16
    omega
  · exfalso
    rw [st0_at hn (by omega), if_neg (by omega), if_neg (by omega), if_neg (by omega), if_neg (by omega)] at hkn
    have : r = 0 ∨ r = 2 ∨ r = 3 ∨ r = 4 ∨ r = 5 ∨ r = 6 ∨ r = 7 := by omega
    rcases this with rfl | rfl | rfl | rfl | rfl | rfl | rfl <;> exact absurd hkn (by decide)
/-- What a verdict without an error says. -/
theorem safe_of {l : List Ins} (hl : ∀ x ∈ l, right x = true) (hn : l.length ≤ 128) (hb : badAt l = none) :
    0 < l.length ∧ Safe l (wk l).2 (lo0 l).2.1 (lo0 l).2.2 ∧ coA (wk l).2 (0 * 25) = true ∧ Cov (wk l).2 (0 * 25) (st0 l.length) (0 * 25) ∧ fu l = ((rem l 0 [] : Nat) : Int) ∧ fu l ≤ 4096 := by
  unfold badAt at hb
  cases c0 : (l.length : Int) == 0 with
  | true => rw [c0] at hb; cases hb
  | false =>
    have h0 : 0 < l.length := by have := beq_eq_false_iff_ne.mp c0; omega
    rw [c0, cond_false] at hb
    cases c1 : decide ((lo0 l).1 ≥ 0) with
    | true => rw [c1] at hb; cases hb
    | false =>
      rw [c1, cond_false] at hb
      simp only [decide_eq_false_iff_not] at c1
      cases c2 : decide ((wk l).1 ≥ 0) with
      | true => rw [c2] at hb; cases hb
      | false =>
        rw [c2, cond_false] at hb
        simp only [decide_eq_false_iff_not] at c2
        cases c3 : decide (fu l > 4096) with
        | true => rw [c3] at hb; cases hb
        | false =>
          simp only [decide_eq_false_iff_not] at c3
          have hlp := lo0_right (lo0_neg c1)
          have hwk : (wk l).1 = -1 := by
            have key : ∀ (f i : Nat) (cst : List Value), (walkF l (lo0 l).2.1 (lo0 l).2.2 f i cst).1 ≥ 0 ∨ (walkF l (lo0 l).2.1 (lo0 l).2.2 f i cst).1 = -1 := by
              intro f
              induction f with
              | zero => intro i cst; exact .inr rfl
              | succ f ih =>
                intro i cst
                rw [walkF]
                refine bifQ (P := fun r : Int × List Value => r.1 ≥ 0 ∨ r.1 = -1) (fun _ => ?_) (fun _ => .inr rfl)
                exact bifQ (P := fun r : Int × List Value => r.1 ≥ 0 ∨ r.1 = -1) (fun _ => .inl (by show (i : Int) ≥ 0; omega)) (fun _ => ih _ _)
            rcases key (l.length + 1) 0 (st0 l.length) with h | h
            · exact absurd h c2
            · exact h
          obtain ⟨g1, _, g3, g4⟩ := walk_good (lp := (lo0 l).2.1) (en := (lo0 l).2.2) hl (l.length + 1) 0 (st0 l.length) (by omega) (by omega) (st0_sts h0) (st0_plain _) hwk
          have hsp := walk_spb (lp := (lo0 l).2.1) (en := (lo0 l).2.2) hl (l.length + 1) 0 (st0 l.length) (st0_sts h0) (st0_plain _) st0_spb
          have hco : coA (st0 l.length) (0 * 25) = true := by unfold coA; rw [Nat.zero_mul, st0_at h0 (by omega)]; rfl
          obtain ⟨a1, a2⟩ := g3 0 h0 hco
          exact ⟨h0, ⟨hl, hlp, fun i hi => g4 i (by omega) hi, g1, hsp, hn⟩, a1, a2, fu_rem hlp hl (by omega), by omega⟩
/-- What holds at the beginning. -/
theorem ri0 {l : List Ins} {pg ky : ByteArray} {sc : List UInt8} (hl : ∀ x ∈ l, right x = true) (hn : l.length ≤ 128) (hb : badAt l = none) (h2 : pg.size = 512) (h3 : ky.size ≤ 16) (h4 : sc.length = 64) :
    RI l (wk l).2 (mc0 l pg ky sc) 0 := by
  obtain ⟨h0, _, a1, a2, _, _⟩ := safe_of hl hn hb
  refine ⟨rfl, inv0 (by omega) h2 h3 h4, ⟨rfl, h2, h3, h4⟩, ?_, rfl, h0, a1, Fits.cov a2 (st0_fits h0 h3), rfl, fun k hk => by simp [opn] at hk, fun o ho => by simp [mc0] at ho, rfl⟩
  intro r hr
  have : r = 0 ∨ r = 1 ∨ r = 2 ∨ r = 3 ∨ r = 4 ∨ r = 5 ∨ r = 6 ∨ r = 7 := by omega
  rcases this with rfl | rfl | rfl | rfl | rfl | rfl | rfl | rfl
  · exact (show In40 (0 : Int) by decide)
  · show In40 (ky.size : Int); unfold In40; omega
  iterate 6 exact (show In40 (0 : Int) by decide)
/-- A program that may be run ends, without an error, within its fuel. -/
theorem run_safe {l : List Ins} {pg ky : ByteArray} {sc : List UInt8} (hl : ∀ x ∈ l, right x = true) (hn : l.length ≤ 128) (hb : badAt l = none) (h2 : pg.size = 512) (h3 : ky.size ≤ 16) (h4 : sc.length = 64) :
    (runP l pg ky sc (fu l)).1 = 0 ∧ (runP l pg ky sc (fu l)).2.1.st ≤ fu l := by
  obtain ⟨_, S, _, _, a3, a4⟩ := safe_of hl hn hb
  unfold runP
  refine run_end S (by omega) (rem l 0 []) _ _ 0 0 (ri0 hl hn hb h2 h3 h4) (Nat.le_refl _) (by omega) (by omega) (by omega)
end Go.Proofs.Ytadaindmgmielaa
