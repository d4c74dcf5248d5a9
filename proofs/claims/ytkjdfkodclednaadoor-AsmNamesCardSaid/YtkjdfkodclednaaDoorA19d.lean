/- An abstract machine for one goroutine: two operations that are not bound to one another change places. No condition. -/
import Derived.Test.YtkjdfkodclednaaDoorA19c
namespace Go.Agm
universe u v
variable {P : Program} {fr fr2 : List AV} {h h1 h2 : AHeap} {c : Calls1} {loc : Nat → Bool} {ops : Array Oper} {pre : Array Nat} {res : Res} {k : List AV → AHeap → Option Res}

/-- Is the operation wanted? -/
def gdA (ops : Array Oper) (o : Oper) (fr : List AV) : Option Bool := match o.guard with
  | none => some true
  | some (j, want) => match (ops[j]?).bind (·.dst) with
    | none => none
    | some t => match getF fr t with
      | .tup [] => some false
      | .v (.bool b) => some (b == want)
      | _ => none

/-- What comes behind an operation that was run. -/
def afterC (P : Program) (loc : Nat → Bool) (M : Mach (Option Res)) (ops : Array Oper) (pre : Array Nat) (D : List Nat) (i : Nat) (o : Oper) (r : List Nat) (k : List AV → AHeap → Option Res) (fr : List AV) (h : AHeap) : Option Res :=
  bif Nat.blt (clsA P loc o) 2 || recheck P loc ops pre i fr h D then opsC P loc M ops pre (i :: D) r fr k h else M.fail

theorem opsC_cons {D r : List Nat} {i : Nat} {o : Oper} (ho : ops[i]? = some o) : opsC P loc (optM c) ops pre D (i :: r) fr k h =
    match gdA ops o fr with
    | none => none
    | some true => stepK P loc (optM c) o fr (afterC P loc (optM c) ops pre D i o r k) h
    | some false => opsC P loc (optM c) ops pre (i :: D) r (putF fr o.dst (.tup [])) k h := by
  simp only [opsC, ho]
  unfold gdA
  split
  · rename_i hg; simp only [hg]; rfl
  · rename_i j want hg
    simp only [hg]
    split
    · rename_i ht; simp only [ht]; rfl
    · rename_i t ht
      simp only [ht]
      split
      · rename_i hgt; simp only [hgt]
      · rename_i b hgb
        simp only [hgb]
        have hset := set_same (getF_some hgb (by simp))
        cases want <;> cases b <;> simp only [cond_true, cond_false, hset] <;> rfl
      · rename_i n1 n2
        split
        · rfl
        · rename_i heq; exfalso; split at heq <;> simp_all
        · rename_i heq; exfalso; split at heq <;> simp_all

/-- One operation that is no store. -/
def One (P : Program) (loc : Nat → Bool) (c : Calls1) (ops : Array Oper) (pre : Array Nat) (D : List Nat) (i : Nat) (o : Oper) (fr : List AV) (h : AHeap) (x : AV) (h' : AHeap) : Prop :=
  ∃ b, gdA ops o fr = some b ∧ (b = true → ev P loc c o fr h = some (x, h') ∧ (Nat.blt (clsA P loc o) 2 || recheck P loc ops pre i (putF fr o.dst x) h' D) = true) ∧ (b = false → x = .tup [] ∧ h' = h)

theorem opsC_one {D r : List Nat} {i : Nat} {o : Oper} (ho : ops[i]? = some o) (hs : isStore o = false ∨ noB fr) : opsC P loc (optM c) ops pre D (i :: r) fr k h = some res ↔
    ∃ x h', One P loc c ops pre D i o fr h x h' ∧ opsC P loc (optM c) ops pre (i :: D) r (putF fr o.dst x) k h' = some res := by
  rw [opsC_cons ho]
  cases hg : gdA ops o fr with
  | none =>
    simp only
    constructor
    · intro e; simp at e
    · rintro ⟨x, h', ⟨b, hb, _⟩, _⟩; rw [hg] at hb; simp at hb
  | some b =>
    cases b with
    | false =>
      simp only
      constructor
      · intro e; exact ⟨.tup [], h, ⟨false, hg, fun hh => by simp at hh, fun _ => ⟨rfl, rfl⟩⟩, e⟩
      · rintro ⟨x, h', ⟨b, hb, _, hb2⟩, e⟩
        rw [hg] at hb; injection hb with hb; subst hb
        obtain ⟨rfl, rfl⟩ := hb2 rfl
        exact e
    | true =>
      simp only
      rw [stepK_ev hs, Option.bind_eq_some_iff]
      constructor
      · rintro ⟨⟨x, h'⟩, he, e⟩
        simp only [afterC] at e
        cases hc : (Nat.blt (clsA P loc o) 2 || recheck P loc ops pre i (putF fr o.dst x) h' D) with
        | false => rw [hc] at e; simp [optM] at e
        | true =>
          rw [hc] at e
          exact ⟨x, h', ⟨true, hg, fun _ => ⟨he, hc⟩, fun hh => by simp at hh⟩, e⟩
      · rintro ⟨x, h', ⟨b, hb, hb1, _⟩, e⟩
        rw [hg] at hb; injection hb with hb; subst hb
        obtain ⟨h1, h2⟩ := hb1 rfl
        refine ⟨(x, h'), h1, ?_⟩
        simp only [afterC, h2, cond_true]
        exact e

theorem getF_put {d : Option Nat} {x : AV} {t : Nat} (hd : d ≠ some t) : getF (putF fr d x) t = getF fr t := by
  cases d with
  | none => rfl
  | some d =>
    simp only [putF, getF, List.getD_eq_getElem?_getD, set_get]
    rw [if_neg]
    rintro ⟨hh, _⟩
    exact hd (by rw [hh])

theorem noRefs_put {e : Nat} {d : Option Nat} {x : AV} (hn : noRefs e fr = true) (hx : ∀ off, x ≠ .ref e off) : noRefs e (putF fr d x) = true := by
  cases d with
  | none => exact hn
  | some d =>
    rw [noRefs_iff] at hn ⊢
    intro s off hm he
    subst he
    rcases List.mem_or_eq_of_mem_set hm with hh | hh
    · exact hn _ _ hh rfl
    · exact hx _ hh.symm

theorem put_comm {d e : Option Nat} {x y : AV} (hd : ∀ t, d = some t → e ≠ some t) : putF (putF fr d x) e y = putF (putF fr e y) d x := by
  cases d with
  | none => rfl
  | some d =>
    cases e with
    | none => rfl
    | some e =>
      simp only [putF]
      exact List.set_comm _ _ (fun hh => hd d rfl (by rw [hh]))

theorem looks_op {o : Oper} {t : Nat} (hx : Operand.tmp t ∈ o.op.operands.toList) : t ∈ looksA ops o :=
  List.mem_append_left _ (List.mem_filterMap.2 ⟨.tmp t, hx, rfl⟩)

theorem agree_put {o : Oper} {d : Option Nat} {x : AV} (hl : ∀ t, d = some t → t ∉ looksA ops o ∧ noRefs t fr = true) : Agree0 P o fr (putF fr d x) := by
  refine ⟨?_, ?_⟩
  · intro y hy
    cases y with
    | tmp t =>
      simp only [opA]
      rw [getF_put]
      intro hd
      exact (hl t hd).1 (looks_op hy)
    | const c => rfl
    | global g => rfl
    | func f => rfl
  · intro y hy s off e
    rw [getF_put]
    intro hd
    obtain ⟨t, ht⟩ := opA_ref e
    exact noRefs_get (hl s hd).2 (getF_some ht (by simp)) rfl

theorem local_agree {o : Oper} (ha : Agree0 P o fr fr2) : localA P o fr = localA P o fr2 := by
  unfold localA
  split
  · rename_i t a ho
    rw [ha.place (by rw [ho]; simp [Op.operands])]
  · rfl

theorem reread_agree {o : Oper} (ha : Agree0 P o fr fr2) : rereadA P o fr h = rereadA P o fr2 h := by
  unfold rereadA
  split
  · rename_i t a ho
    have hm : a ∈ o.op.operands.toList := by rw [ho]; simp [Op.operands]
    rw [ha.place hm]
    cases hl : locA P fr2 a with
    | none => rfl
    | some l =>
      rw [Option.bind_some, Option.bind_some, ha.cells hm (by rw [ha.place hm, hl])]
  · rename_i cl ho
    split
    · rename_i x t hx ht
      rw [ha.val (x := x) (by rw [ho]; simp only [Op.operands, Call.operands, Array.toList_append, List.mem_append, hx]; exact .inr (by simp))]
    · rfl
  · rfl

theorem again_put {o : Oper} {d : Option Nat} {x : AV} (hl : ∀ t, d = some t → t ∉ namesA ops o ∧ noRefs t fr = true) : againA P o (putF fr d x) h = againA P o fr h := by
  have ha : Agree0 P o fr (putF fr d x) := agree_put (ops := ops) fun t ht => ⟨fun hm => (hl t ht).1 (List.mem_append_right _ hm), (hl t ht).2⟩
  unfold againA
  split
  · rename_i d' hd'
    rw [getF_put (fun hh => (hl d' hh).1 (List.mem_append_left _ (by rw [hd']; simp))), local_agree ha, reread_agree ha]
  · rfl

theorem gd_put {o : Oper} {d : Option Nat} {x : AV} (hl : ∀ t, d = some t → t ∉ looksA ops o) : gdA ops o (putF fr d x) = gdA ops o fr := by
  unfold gdA
  split
  · rfl
  · rename_i j want hg
    split
    · rfl
    · rename_i t ht
      rw [getF_put (fun hh => hl t hh (List.mem_append_right _ (by rw [hg]; simp [ht])))]

theorem recheck_iff {i : Nat} : ∀ {D : List Nat}, recheck P loc ops pre i fr h D = true ↔ ∀ q ∈ D, ∀ o, ops[q]? = some o → clsA P loc o = 1 → (pre.getD i 0).testBit q = true ∨ againA P o fr h = true
  | [] => by simp [recheck]
  | j :: r => by
    simp only [recheck, Bool.and_eq_true, recheck_iff (D := r), List.mem_cons]
    constructor
    · rintro ⟨h1, h2⟩ q (rfl | hq) o ho hc
      · simp only [ho, hc, beq_self_eq_true, Bool.not_true, Bool.false_or, Bool.or_eq_true] at h1
        exact h1
      · exact h2 q hq o ho hc
    · intro hh
      refine ⟨?_, fun q hq => hh q (.inr hq)⟩
      split
      · rename_i o ho
        cases hc : (clsA P loc o == 1) with
        | false => simp
        | true =>
          have := hh j (.inl rfl) o ho (by simpa using hc)
          simpa using this
      · rfl

theorem opsC_congr : ∀ {r D D' : List Nat} {fr : List AV} {h : AHeap}, (∀ q, q ∈ D ↔ q ∈ D') → opsC P loc (optM c) ops pre D r fr k h = opsC P loc (optM c) ops pre D' r fr k h
  | [], D, D', fr, h, _ => rfl
  | i :: r, D, D', fr, h, hD => by
    have hD' : ∀ q, q ∈ i :: D ↔ q ∈ i :: D' := fun q => by simp [hD q]
    cases ho : ops[i]? with
    | none => simp only [opsC, ho]
    | some o =>
      rw [opsC_cons ho, opsC_cons ho]
      have ha : afterC P loc (optM c) ops pre D i o r k = afterC P loc (optM c) ops pre D' i o r k := by
        funext fr h
        have hr : recheck P loc ops pre i fr h D = recheck P loc ops pre i fr h D' := by
          rw [Bool.eq_iff_iff, recheck_iff, recheck_iff]
          exact ⟨fun hh q hq => hh q ((hD q).2 hq), fun hh q hq => hh q ((hD q).1 hq)⟩
        simp only [afterC, hr, opsC_congr hD']
      rw [ha]
      simp only [opsC_congr hD']

theorem fresh_get {o : Oper} {d : Nat} (hf : freshA fr o = true) (hd : o.dst = some d) : noRefs d fr = true ∧ ∀ cs, getF fr d ≠ .blk cs := by
  simp only [freshA, hd, Bool.and_eq_true] at hf
  refine ⟨hf.1, fun cs hc => ?_⟩
  have := hf.2
  rw [hc] at this
  simp at this

theorem one_noRef {D : List Nat} {i : Nat} {o : Oper} {x : AV} {h' : AHeap} {d : Nat} (ho : One P loc c ops pre D i o fr h x h') (hn : noRefs d fr = true) (hb : ∀ cs, getF fr d ≠ .blk cs) : ∀ off, x ≠ .ref d off := by
  obtain ⟨b, _, h1, h2⟩ := ho
  cases b with
  | true => exact ev_noRef hn hb _ _ (h1 rfl).1
  | false => rw [(h2 rfl).1]; intro off hh; simp at hh

theorem one_noBk {D : List Nat} {i : Nat} {o : Oper} {x : AV} {h' : AHeap} (ho : One P loc c ops pre D i o fr h x h') (hl : nlA loc o = true) : ∀ cs, x ≠ .blk cs := by
  obtain ⟨b, _, h1, h2⟩ := ho
  cases b with
  | true => exact ev_noBk hl _ _ (h1 rfl).1
  | false => rw [(h2 rfl).1]; intro cs hh; simp at hh

end Go.Agm
