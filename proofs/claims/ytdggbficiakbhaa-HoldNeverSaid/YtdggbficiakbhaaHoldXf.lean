/- Whether a thing is held: the closure, the first that is it. No condition. -/
import Derived.Test.YtdggbficiakbhaaHoldXe
namespace Go.Proofs.Ytdggbficiakbhaa
open Go.Agm
variable {w0 : World}

theorem run47 (d l x : Int) (K : List Value → AHeap → Prop) :
    segK2 Try.prog ft0 (semM (callsOf G []) (retT G (nmOf [false] []) K)) Try.f47 [] 60 [.code (Try.f47.body.getD .skip)] (startF Try.f47 [.agg #[I d, I l], PT G]) (fun _ _ _ => False) (heapB G [some (.cells [I x] true)])
    = (True ∧ K [.bool (d == x)] (heapB G [some (.cells [I x] true)])) := by kernel_rfl
noncomputable def con47 : Con := { f := 47, gh := [], paths := [⟨1, [], false⟩], spec := fun args bs => match args, bs with
  | [d, p], [some (.cells [x] true)] => match dropV d, intV x with
    | some d, some x => bif isPtr p 0 then some (True, [.bool (d.1 == x)], [(false, some (.cells [I x] true))]) else none
    | _, _ => none
  | _, _ => none }
theorem con47_ok : con47.ok Try.prog w0 := by
  intro args bs p rs out e hp
  simp only [con47] at e
  split at e <;> first | (simp at e; done) | skip
  split at e <;> first | (simp at e; done) | skip
  rename_i d q x _ _ d' x' hd hx
  cases hq : isPtr q 0 with
  | false => rw [hq] at e; simp at e
  | true =>
    rw [hq] at e
    simp only [cond_true, Option.some.injEq, Prod.mk.injEq] at e
    obtain ⟨rfl, rfl, rfl⟩ := e
    rw [dropV_eq hd, intV_eq hx, isPtr_eq hq]
    refine con_body (f := 47) (fn := Try.f47) (cd := Try.f47.body.getD .skip) (nt := nmOf [false] []) Try.func47 (by kernel_rfl) rfl ?_
    refine seg_sem2 (F := ft0) (c := callsOf G []) (leaf := fun _ _ _ => False) mixed okNil (fun _ _ _ h => h.elim) [] 60 ?_
    have hh := run47 d'.1 d'.2 x'
    rw [show PT (G + 0) = PT G from rfl, hh]
    exact ⟨trivial, rfl, rfl⟩

noncomputable abbrev F47 (i : Nat) : Value := .func (.func 47) #[] #[PT (G + i)]
noncomputable def hp47 (x : Int) (ch : List Value) : AHeap := heapB G [some (.cells [I x] true), some (.cells ch true)]
abbrev nm47 : Nt := nmOf [false, true] []
noncomputable def fr53x (m : Nat) (i : Int) : List AV := frm 19 [(0, .v (SL (G + 1) m 2)), (1, .v (F47 0)), (7, .v (I m)), (8, .v (I i))]
noncomputable def todo53x : List Item := todoAt Try.f53 ft53 2 (startF Try.f53 [SL (G + 1) 0 2, F47 0]) (hp47 0 [])
theorem start53x (x : Int) (q : Nat) (ch : List Value) (Q : Post) (L : List Item → List AV → AHeap → Prop) :
    segK2 Try.prog ft53 (semM (callsOf G [con47]) Q) Try.f53 [2] 60 [.code (Try.f53.body.getD .skip)] (startF Try.f53 [SL (G + 1) q 2, F47 0]) (fun t fr h => canonT G nm47 (L t) fr h) (hp47 x ch)
    = ((pl ch ∧ True) ∧ L todo53x (fr53x q 0) (hp47 x ch)) := by kernel_rfl
theorem head53x (x : Int) (q : Nat) (ch : List Value) (i : Int) (K : List Value → AHeap → Prop) (L : List Item → List AV → AHeap → Prop) :
    segK2 Try.prog ft53 (semM (callsOf G [con47]) (retT G nm47 K)) Try.f53 [2] 60 todo53x (fr53x q i) (fun t fr h => canonT G nm47 (L t) fr h) (hp47 x ch)
    = (bif decide (i < q) then (bif decide (0 ≤ i) && decide (i < q) then bif el ch i then
        ((True ∧ True ∧ True) ∧ bif (eX ch i == x) then ((pl ch ∧ True) ∧ K [I i] (hp47 x ch)) else ((pl ch ∧ True) ∧ L todo53x (fr53x q (w (i + 1))) (hp47 x ch)))
        else False else False)
      else ((pl ch ∧ True) ∧ K [I (-1)] (hp47 x ch))) := by kernel_rfl

def idxX (x : Int) : List (Int × Int) → Int → Int
  | [], _ => -1
  | p :: r, i => bif p.1 == x then i else idxX x r (i + 1)
theorem idxX_any (x : Int) : ∀ (l : List (Int × Int)) (i : Int), 0 ≤ i → decide (idxX x l i ≥ 0) = l.any fun p => p.1 == x
  | [], _, _ => rfl
  | p :: r, i, h => by
    have e : idxX x (p :: r) i = bif p.1 == x then i else idxX x r (i + 1) := rfl
    have ih := idxX_any x r (i + 1) (by omega)
    rw [List.any_cons]
    by_cases hc : (p.1 == x) = true
    · have e2 : idxX x (p :: r) i = i := by rw [e, hc]; rfl
      have : idxX x (p :: r) i ≥ 0 := by omega
      rw [decide_eq_true this, hc]; rfl
    · have hc' := Bool.eq_false_iff.2 hc
      have e2 : idxX x (p :: r) i = idxX x r (i + 1) := by rw [e, hc']; rfl
      rw [hc', Bool.false_or, ← ih]
      exact decide_eq_decide.2 (by rw [e2])

theorem ok53x : CallsOk Try.prog w0 (callsOf Try.prog.globals.size [con47]) := okOne con47_ok

theorem loop53x (x : Int) (l : List (Int × Int)) (hl : l.length < 1000000000) : ∀ k i : Nat, i + k = l.length → idxX x l 0 = idxX x (l.drop i) i →
    Agm.Sem Try.prog w0 (Try.prog.globals.size + nm47.flags.length) Try.f53 (retT Try.prog.globals.size nm47 fun rs' h' => rs' = [I (idxX x l 0)] ∧ h' = hp47 x (prs l)) todo53x (fr53x l.length (i : Int)) (hp47 x (prs l)) := by
  intro k
  induction k with
  | zero =>
    intro i hi hx
    refine seg_sem2 (F := ft53) mixed ok53x (fun _ _ _ => canonT_sem) [2] 60 ?_
    have hh := head53x x l.length (prs l) i
    rw [hh]
    have h1 : ¬ ((i : Int) < (l.length : Int)) := by omega
    rw [List.drop_eq_nil_of_le (by omega)] at hx
    simp only [h1, decide_false, cond_false]
    exact ⟨⟨plain_prs _, trivial⟩, by rw [hx]; rfl, by trivial⟩
  | succ k ih =>
    intro i hi hx
    refine seg_sem2 (F := ft53) mixed ok53x (fun _ _ _ => canonT_sem) [2] 60 ?_
    have hh := head53x x l.length (prs l) i
    rw [hh]
    have h1 : (i : Int) < (l.length : Int) := by omega
    have h2 : (0 : Int) ≤ (i : Int) := by omega
    have hlt : i < l.length := by omega
    obtain ⟨e1, e2, _⟩ := el_prs hlt
    have hd : l.drop i = l[i] :: l.drop (i + 1) := List.drop_eq_getElem_cons hlt
    rw [hd] at hx
    have hw : w ((i : Int) + 1) = ((i + 1 : Nat) : Int) := by rw [w_id (by omega) (by omega)]; omega
    simp only [h1, h2, decide_true, cond_true, Bool.and_self, e1, e2, hw]
    refine ⟨⟨trivial, trivial, trivial⟩, ?_⟩
    cases hc : (l[i].1 == x) with
    | true =>
      simp only [idxX, hc, cond_true] at hx
      simp only [cond_true]
      exact ⟨⟨plain_prs _, trivial⟩, by rw [hx], by trivial⟩
    | false =>
      simp only [idxX, hc, cond_false] at hx
      simp only [cond_false]
      exact ⟨⟨plain_prs _, trivial⟩, ih (i + 1) (by omega) (by rw [hx]; congr 1)⟩

noncomputable def con53x : Con := { f := 53, gh := [⟨0, none, 2⟩], paths := [⟨1, [0], false⟩, ⟨0, [], true⟩], spec := fun args bs => match args, bs with
  | [s, f], [some (.cells [x] true), some (.cells ch true)] => match slN s 1 2, intV x with
    | some q, some x => bif isF1 f 47 0 then some (ch = prs (unP ch) ∧ (unP ch).length = q ∧ q < 1000000000, [I (idxX x (unP ch) 0)], [(false, some (.cells [I x] true)), (true, some (.cells ch true))]) else none
    | _, _ => none
  | _, _ => none }
theorem con53x_ok : con53x.ok Try.prog w0 := by
  intro args bs p rs out e hp
  simp only [con53x] at e
  split at e <;> first | (simp at e; done) | skip
  split at e <;> first | (simp at e; done) | skip
  rename_i s f x ch _ _ q x' hs hx
  cases hq : isF1 f 47 0 with
  | false => rw [hq] at e; simp at e
  | true =>
    rw [hq] at e
    simp only [cond_true, Option.some.injEq, Prod.mk.injEq] at e
    obtain ⟨rfl, rfl, rfl⟩ := e
    rw [slN_eq hs, intV_eq hx, isF1_eq hq]
    obtain ⟨h1, h2, h3⟩ := hp
    rw [h1]
    generalize unP ch = l at h2 ⊢
    subst h2
    rw [unP_prs]
    refine con_body (f := 53) (fn := Try.f53) (cd := Try.f53.body.getD .skip) (nt := nm47) Try.func53 (by kernel_rfl) rfl ?_
    refine seg_sem2 (F := ft53) mixed ok53x (fun _ _ _ => canonT_sem) [2] 60 ?_
    have hh := start53x x' l.length (prs l)
    change segK2 _ _ _ _ _ _ _ _ _ (hp47 x' (prs l))
    rw [hh]
    exact ⟨⟨plain_prs _, trivial⟩, loop53x x' l h3 l.length 0 (by omega) rfl⟩

theorem run46 (x : Int) (q : Nat) (ch : List Value) (K : List Value → AHeap → Prop) :
    segK2 Try.prog ft0 (semM (callsOf G [con53x]) (retT G nm47 K)) Try.f46 [] 60 [.code (Try.f46.body.getD .skip)] (startF Try.f46 [SL (G + 1) q 2, F47 0]) (fun _ _ _ => False) (hp47 x ch)
    = (((pl ch ∧ True) ∧ (pl ch ∧ True) ∧ (ch = prs (unP ch) ∧ (unP ch).length = q ∧ q < 1000000000)) ∧ (pl ch ∧ True) ∧ K [.bool (decide (idxX x (unP ch) 0 ≥ 0))] (hp47 x ch)) := by kernel_rfl
noncomputable def con46 : Con := { f := 46, gh := [⟨0, none, 2⟩], paths := [⟨1, [0], false⟩, ⟨0, [], true⟩], spec := fun args bs => match args, bs with
  | [s, f], [some (.cells [x] true), some (.cells ch true)] => match slN s 1 2, intV x with
    | some q, some x => bif isF1 f 47 0 then some (ch = prs (unP ch) ∧ (unP ch).length = q ∧ q < 1000000000, [.bool ((unP ch).any fun p => p.1 == x)], [(false, some (.cells [I x] true)), (true, some (.cells ch true))]) else none
    | _, _ => none
  | _, _ => none }
theorem con46_ok : con46.ok Try.prog w0 := by
  intro args bs p rs out e hp
  simp only [con46] at e
  split at e <;> first | (simp at e; done) | skip
  split at e <;> first | (simp at e; done) | skip
  rename_i s f x ch _ _ q x' hs hx
  cases hq : isF1 f 47 0 with
  | false => rw [hq] at e; simp at e
  | true =>
    rw [hq] at e
    simp only [cond_true, Option.some.injEq, Prod.mk.injEq] at e
    obtain ⟨rfl, rfl, rfl⟩ := e
    rw [slN_eq hs, intV_eq hx, isF1_eq hq]
    obtain ⟨h1, h2, h3⟩ := hp
    rw [h1]
    generalize unP ch = l at h2 ⊢
    subst h2
    rw [unP_prs]
    refine con_body (f := 46) (fn := Try.f46) (cd := Try.f46.body.getD .skip) (nt := nm47) Try.func46 (by kernel_rfl) rfl ?_
    refine seg_sem2 (F := ft0) (c := callsOf G [con53x]) (leaf := fun _ _ _ => False) mixed (okOne con53x_ok) (fun _ _ _ h => h.elim) [] 60 ?_
    have hh := run46 x' l.length (prs l)
    change segK2 _ _ _ _ _ _ _ _ _ (hp47 x' (prs l))
    rw [hh, unP_prs, idxX_any x' l 0 (by omega)]
    exact ⟨⟨⟨plain_prs _, trivial⟩, ⟨plain_prs _, trivial⟩, rfl, rfl, h3⟩, ⟨plain_prs _, trivial⟩, rfl, rfl⟩

abbrev nrH : Nt := { gh := [], flags := [false, true, true], paths := [], tr := [] }
theorem run36 (x la : Int) (n m : Nat) (ci ch : List Value) (K : List Value → AHeap → Prop) :
    segK2 Try.prog ft0 (semM (callsOf G [con46]) (retT G nrH K)) Try.f36 [] 60 [.code (Try.f36.body.getD .skip)] (startF Try.f36 [PT G, I x]) (fun _ _ _ => False) (heapB G (hpH la n m ci ch))
    = (((pl ch ∧ True) ∧ (pl ch ∧ True) ∧ (ch = prs (unP ch) ∧ (unP ch).length = m ∧ m < 1000000000)) ∧ (pl ci ∧ pl ch ∧ True) ∧ K [.bool ((unP ch).any fun p => p.1 == x)] (heapB G (hpH la n m ci ch))) := by kernel_rfl
theorem run35 (la : Int) (n m : Nat) (ci ch : List Value) (K : List Value → AHeap → Prop) :
    segK2 Try.prog ft0 (semM (callsOf G []) (retT G nrH K)) Try.f35 [] 60 [.code (Try.f35.body.getD .skip)] (startF Try.f35 [PT G]) (fun _ _ _ => False) (heapB G (hpH la n m ci ch))
    = ((pl ci ∧ pl ch ∧ True) ∧ K [I n] (heapB G (hpH la n m ci ch))) := by kernel_rfl

noncomputable def resQ (la : Int) (n m : Nat) (ci ch : List Value) : List OutB :=
  [(false, some (.cells [I la, SL (G + 1) n 1, SL (G + 2) m 2] true)), (true, some (.cells ci true)), (true, some (.cells ch true))]
noncomputable def con36 : Con := { f := 36, gh := ghH, paths := pathsH, spec := fun args bs => match args with
  | [p, x] => match hpHs bs, intV x with
    | some (la, n, m, ci, ch), some x => bif isPtr p 0 then some (PlainL ci ∧ ch = prs (unP ch) ∧ (unP ch).length = m ∧ m < 1000000000, [.bool ((unP ch).any fun p => p.1 == x)], resQ la n m ci ch) else none
    | _, _ => none
  | _ => none }
theorem con36_ok : con36.ok Try.prog w0 := by
  intro args bs p rs out e hp
  simp only [con36] at e
  split at e <;> first | (simp at e; done) | skip
  split at e <;> first | (simp at e; done) | skip
  rename_i a b _ _ la n m ci ch x hb hx
  cases hq : isPtr a 0 with
  | false => rw [hq] at e; simp at e
  | true =>
    rw [hq] at e
    simp only [cond_true, Option.some.injEq, Prod.mk.injEq] at e
    obtain ⟨rfl, rfl, rfl⟩ := e
    rw [hpHs_eq hb, isPtr_eq hq, intV_eq hx]
    obtain ⟨h1, h2, h3, h4⟩ := hp
    refine con_body (f := 36) (fn := Try.f36) (cd := Try.f36.body.getD .skip) (nt := nrH) Try.func36 (by kernel_rfl) rfl ?_
    refine seg_sem2 (F := ft0) (c := callsOf G [con46]) (leaf := fun _ _ _ => False) mixed (okOne con46_ok) (fun _ _ _ h => h.elim) [] 60 ?_
    have hh := run36 x la n m ci ch
    rw [show PT (G + 0) = PT G from rfl, hh]
    have hch : pl ch := by rw [h2]; exact plain_prs _
    exact ⟨⟨⟨hch, trivial⟩, ⟨hch, trivial⟩, h2, h3, h4⟩, ⟨h1, hch, trivial⟩, rfl, rfl⟩
noncomputable def con35 : Con := { f := 35, gh := ghH, paths := pathsH, spec := fun args bs => match args with
  | [p] => match hpHs bs with
    | some (la, n, m, ci, ch) => bif isPtr p 0 then some (PlainL ci ∧ PlainL ch, [I n], resQ la n m ci ch) else none
    | _ => none
  | _ => none }
theorem con35_ok : con35.ok Try.prog w0 := by
  intro args bs p rs out e hp
  simp only [con35] at e
  split at e <;> first | (simp at e; done) | skip
  split at e <;> first | (simp at e; done) | skip
  rename_i a _ la n m ci ch hb
  cases hq : isPtr a 0 with
  | false => rw [hq] at e; simp at e
  | true =>
    rw [hq] at e
    simp only [cond_true, Option.some.injEq, Prod.mk.injEq] at e
    obtain ⟨rfl, rfl, rfl⟩ := e
    rw [hpHs_eq hb, isPtr_eq hq]
    obtain ⟨h1, h2⟩ := hp
    refine con_body (f := 35) (fn := Try.f35) (cd := Try.f35.body.getD .skip) (nt := nrH) Try.func35 (by kernel_rfl) rfl ?_
    refine seg_sem2 (F := ft0) (c := callsOf G []) (leaf := fun _ _ _ => False) mixed okNil (fun _ _ _ h => h.elim) [] 60 ?_
    have hh := run35 la n m ci ch
    rw [show PT (G + 0) = PT G from rfl, hh]
    exact ⟨⟨h1, h2, trivial⟩, rfl, rfl⟩
end Go.Proofs.Ytdggbficiakbhaa
