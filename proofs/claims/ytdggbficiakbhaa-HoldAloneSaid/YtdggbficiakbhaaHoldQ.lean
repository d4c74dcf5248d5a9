/- Dropping, telling what is held, comparing: contracts. No condition. -/
import Derived.Test.YtdggbficiakbhaaHoldP
namespace Go.Proofs.Ytdggbficiakbhaa
open Go.Agm
variable {w0 : World}

theorem okNil : CallsOk Try.prog w0 (callsOf G []) := callsOf_ok (by simp)
theorem room16 {k : Nat} (h : k < 1000000000) : room (k + 1) 16 = true := Nat.ble_eq_true_of_le (by omega)

/-! Drop. -/
def dropD (la : Int) (xs : List Int) : List (Int × Int) := xs.map fun x => (x, la)
theorem loop31 (la : Int) (n : Nat) (ins : List Int) (hins : ins.length = n) (hn : n < 1000000000) (xs : List Int) (rw : Bool) (l0 : List (Int × Int)) (hb : (l0 ++ dropD la xs).length < 1000000000) : ∀ (k i : Nat) (l : List (Int × Int)), i + k = xs.length → l ++ dropD la (xs.drop i) = l0 ++ dropD la xs →
    Agm.Sem Try.prog w0 (Try.prog.globals.size + nt31.flags.length) Try.f31 (retT Try.prog.globals.size nr31 fun rs' h' => rs' = [SL (G + 5) (freeD (diesB ins) (l0 ++ dropD la xs)).length 1] ∧
        h' = heapB G (hoD la n (keptD (diesB ins) (l0 ++ dropD la xs)).length (ints ins) (prs (keptD (diesB ins) (l0 ++ dropD la xs))) (ints xs) (ints (freeD (diesB ins) (l0 ++ dropD la xs))) rw))
      todo31 (fr31 xs.length (i : Int)) (heapB G (hlD la n l.length (ints ins) (prs l) (ints xs) rw)) := by
  intro k
  have hpx : plr (ints xs) rw := plain_ints xs
  induction k with
  | zero =>
    intro i l hi hl
    rw [List.drop_eq_nil_of_le (by omega)] at hl
    have hl' : l = l0 ++ dropD la xs := by rw [← hl]; simp [dropD]
    subst hl'
    refine seg_sem2 (F := ft31) (c := callsOf Try.prog.globals.size [con43]) mixed (okOne con43_ok) (fun _ _ _ => canonT_sem) [4] 60 ?_
    have hh := head31 la xs.length n (l0 ++ dropD la xs).length (ints ins) (prs (l0 ++ dropD la xs)) (ints xs) rw i
    rw [hh]
    have h1 : ¬ ((i : Int) < (xs.length : Int)) := by omega
    simp only [h1, decide_false, cond_false, kR, kO, unI_ints, unP_prs]
    exact ⟨⟨⟨plain_ints _, plain_prs _, trivial⟩, ⟨plain_ints _, plain_prs _, plain_ints _, trivial⟩, ⟨by rw [unI_ints], by rw [ints_len]; exact hins, hn, by rw [unP_prs], by rw [unP_prs], hb⟩⟩, ⟨plain_ints _, hpx, plain_prs _, plain_ints _, trivial⟩, by trivial, by trivial⟩
  | succ k ih =>
    intro i l hi hl
    refine seg_sem2 (F := ft31) (c := callsOf Try.prog.globals.size [con43]) mixed (okOne con43_ok) (fun _ _ _ => canonT_sem) [4] 60 ?_
    have hh := head31 la xs.length n l.length (ints ins) (prs l) (ints xs) rw i
    rw [hh]
    have h1 : (i : Int) < (xs.length : Int) := by omega
    have h2 : (0 : Int) ≤ (i : Int) := by omega
    have hlt : i < xs.length := by omega
    have h3 : 0 + (i : Int).toNat * 1 = i := by simp
    have hd : xs.drop i = xs[i] :: xs.drop (i + 1) := List.drop_eq_getElem_cons hlt
    have hw : w ((i : Int) + 1) = ((i + 1 : Nat) : Int) := by rw [w_id (by rw [List.length_append] at hb; simp [dropD] at hb; omega) (by rw [List.length_append] at hb; simp [dropD] at hb; omega)]; omega
    have hlb : l.length < 1000000000 := by rw [← hl, List.length_append] at hb; omega
    have h5 : Nat.ble (0 + l.length * 2) (prs l).length = true := Nat.ble_eq_true_of_le (by rw [prs_len]; omega)
    have h6 : chD l.length (prs l) (ints xs) la (i : Int) = prs (l ++ [(xs[i], la)]) := by
      simp only [chD, xD, h3, intO_ints hlt, List.drop_zero]
      rw [prs_take, List.take_length, prs_append]; rfl
    simp only [h1, h2, decide_true, cond_true, Bool.and_self, h3, okI_ints hlt, beq_self_eq_true, room16 hlb, h5, h6, hw]
    have h7 : l.length + 1 = (l ++ [(xs[i], la)]).length := by simp
    rw [h7]
    refine ⟨⟨plain_ints _, hpx, plain_prs _, trivial⟩, ih (i + 1) _ (by omega) ?_⟩
    rw [hd] at hl
    rw [← hl, List.append_assoc]; rfl

noncomputable def hpDs (bs : List (Option ABlk)) : Option (Int × Nat × Nat × List Value × List Value × List Value × Bool) := match bs with
  | [some (.cells [la, si, sh] true), some (.cells ci true), some (.cells ch true), some (.cells cl rw)] =>
    match intV la, slN si 1 1, slN sh 2 2 with
    | some la, some n, some m => some (la, n, m, ci, ch, cl, rw)
    | _, _, _ => none
  | _ => none
theorem hpDs_eq {bs : List (Option ABlk)} {la : Int} {n m : Nat} {ci ch cl : List Value} {rw : Bool} (e : hpDs bs = some (la, n, m, ci, ch, cl, rw)) : bs = hpD la n m ci ch cl rw := by
  unfold hpDs at e
  split at e <;> first | (simp at e; done) | skip
  split at e <;> first | (simp at e; done) | skip
  rename_i la' si sh ci' ch' cl' rw' _ _ _ la2 n' m' h1 h2 h3
  simp only [Option.some.injEq, Prod.mk.injEq] at e
  obtain ⟨rfl, rfl, rfl, rfl, rfl, rfl, rfl⟩ := e
  rw [intV_eq h1, slN_eq h2, slN_eq h3]
  rfl
noncomputable def resD (la : Int) (n : Nat) (ci : List Value) (cl : List Value) (rw : Bool) (R : List (Int × Int)) (O : List Int) : List OutB :=
  [(false, some (.cells [I la, SL (G + 1) n 1, SL (G + 4) R.length 2] true)), (true, some (.cells ci true)), (true, none), (true, some (.cells cl rw)), (true, some (.cells (prs R) true)), (true, some (.cells (ints O) true))]
def preD (q n m : Nat) (ci ch cl : List Value) : Prop := preH n m ci ch ∧ cl = ints (unI cl) ∧ cl.length = q ∧ m + q < 1000000000
abbrev all31 (la : Int) (ch cl : List Value) : List (Int × Int) := unP ch ++ dropD la (unI cl)
noncomputable def con31 : Con := { f := 31, gh := ghH ++ [⟨1, none, 1⟩], paths := pathsH ++ [⟨1, [], true⟩], spec := fun args bs => match args with
  | [p, s] => match hpDs bs, slN s 3 1 with
    | some (la, n, m, ci, ch, cl, rw), some q => bif isPtr p 0 then some (preD q n m ci ch cl, [SL (G + 5) (freeD (diesB (unI ci)) (all31 la ch cl)).length 1],
        resD la n ci cl rw (keptD (diesB (unI ci)) (all31 la ch cl)) (freeD (diesB (unI ci)) (all31 la ch cl))) else none
    | _, _ => none
  | _ => none }
theorem con31_ok : con31.ok Try.prog w0 := by
  intro args bs p rs out e hp
  simp only [con31] at e
  split at e <;> first | (simp at e; done) | skip
  split at e <;> first | (simp at e; done) | skip
  rename_i a s _ _ la n m ci ch cl rw q hb hs
  cases hq : isPtr a 0 with
  | false => rw [hq] at e; simp at e
  | true =>
    rw [hq] at e
    simp only [cond_true, Option.some.injEq, Prod.mk.injEq] at e
    obtain ⟨rfl, rfl, rfl⟩ := e
    rw [hpDs_eq hb, isPtr_eq hq, slN_eq hs]
    obtain ⟨⟨h1, h2, h3, h4, h5, h6⟩, h7, h8, h9⟩ := hp
    rw [h1] at h2 ⊢
    rw [h7] at h8 ⊢
    rw [h4]
    rw [ints_len] at h2 h8
    simp only [all31]
    generalize unI ci = ins at h2 ⊢
    generalize unI cl = xs at h8 ⊢
    generalize unP ch = l at h5 ⊢
    subst h2 h5 h8
    rw [unI_ints, unI_ints, unP_prs]
    refine con_body (f := 31) (fn := Try.f31) (cd := Try.f31.body.getD .skip) (nt := nr31) Try.func31 (by kernel_rfl) rfl ?_
    change Agm.Sem Try.prog w0 (Try.prog.globals.size + nt31.flags.length) _ _ _ _ _
    refine seg_sem2 (F := ft31) (c := callsOf Try.prog.globals.size [con43]) mixed (okOne con43_ok) (fun _ _ _ => canonT_sem) [4] 60 ?_
    have hh := start31 la xs.length ins.length l.length (ints ins) (prs l) (ints xs) rw
    rw [show PT (G + 0) = PT G from rfl, hh]
    exact ⟨⟨plain_ints _, plain_prs _, plain_ints xs, plain_prs _, trivial⟩, loop31 la ins.length ins rfl h3 xs rw l (by simp [dropD]; omega) xs.length 0 l (by omega) rfl⟩

/-! Held. -/
theorem loop32 (la : Int) (n : Nat) (ci : List Value) (hci : pl ci) (l : List (Int × Int)) (hl : l.length < 1000000000) : ∀ (k i : Nat) (o : List Int), i + k = l.length → o = (l.take i).map (·.1) →
    Agm.Sem Try.prog w0 (Try.prog.globals.size + nt32.flags.length) Try.f32 (retT Try.prog.globals.size nr32 fun rs' h' => rs' = [SL (G + 3) l.length 1] ∧ h' = heapB G (hoH la n l.length ci (prs l) (ints (l.map (·.1)))))
      todo32 (fr32 l.length o.length (i : Int)) (heapB G (hoH la n l.length ci (prs l) (ints o))) := by
  intro k
  induction k with
  | zero =>
    intro i o hi ho
    rw [List.take_of_length_le (by omega)] at ho
    subst ho
    refine seg_sem2 (F := ft32) (c := callsOf G []) mixed okNil (fun _ _ _ => canonT_sem) [5] 60 ?_
    have hh := head32 la n l.length (l.map (·.1)).length ci (prs l) (ints (l.map (·.1))) i
    rw [hh]
    have h1 : ¬ ((i : Int) < (l.length : Int)) := by omega
    simp only [h1, decide_false, cond_false]
    exact ⟨⟨hci, plain_prs _, plain_ints _, trivial⟩, by simp, by trivial⟩
  | succ k ih =>
    intro i o hi ho
    refine seg_sem2 (F := ft32) (c := callsOf G []) mixed okNil (fun _ _ _ => canonT_sem) [5] 60 ?_
    have hh := head32 la n l.length o.length ci (prs l) (ints o) i
    rw [hh]
    have h1 : (i : Int) < (l.length : Int) := by omega
    have h2 : (0 : Int) ≤ (i : Int) := by omega
    have hlt : i < l.length := by omega
    obtain ⟨e1, e2, _⟩ := el_prs hlt
    have hw : w ((i : Int) + 1) = ((i + 1 : Nat) : Int) := by rw [w_id (by omega) (by omega)]; omega
    have hol : o.length < 1000000000 := by rw [ho, List.length_map, List.length_take]; omega
    have h5 : Nat.ble (0 + o.length * 1) (ints o).length = true := Nat.ble_eq_true_of_le (by rw [ints_len]; omega)
    have h6 : ((ints o).drop 0).take (o.length * 1) ++ [I l[i].1] = ints (o ++ [l[i].1]) := by
      rw [List.drop_zero, Nat.mul_one, ints_take, List.take_length]; simp [ints]
    have h7 : o.length + 1 = (o ++ [l[i].1]).length := by simp
    simp only [h1, h2, decide_true, cond_true, Bool.and_self, e1, e2, room8 hol, h5, hw]
    rw [h6, h7]
    refine ⟨⟨hci, plain_prs _, plain_ints _, trivial⟩, ih (i + 1) _ (by omega) ?_⟩
    rw [ho, List.take_succ_eq_append_getElem hlt, List.map_append]; rfl

noncomputable def con32 : Con := { f := 32, gh := ghH, paths := pathsH, spec := fun args bs => match args with
  | [p] => match hpHs bs with
    | some (la, n, m, ci, ch) => bif isPtr p 0 then some (PlainL ci ∧ ch = prs (unP ch) ∧ (unP ch).length = m ∧ m < 1000000000, [SL (G + 3) m 1],
      [(false, some (.cells [I la, SL (G + 1) n 1, SL (G + 2) m 2] true)), (true, some (.cells ci true)), (true, some (.cells ch true)), (true, some (.cells (ints ((unP ch).map (·.1))) true))]) else none
    | _ => none
  | _ => none }
theorem con32_ok : con32.ok Try.prog w0 := by
  intro args bs p rs out e hp
  simp only [con32] at e
  split at e <;> first | (simp at e; done) | skip
  split at e <;> first | (simp at e; done) | skip
  rename_i a _ la n m ci ch hb
  cases hq : isPtr a 0 with
  | false => rw [hq] at e; simp at e
  | true =>
    rw [hq] at e
    simp only [cond_true, Option.some.injEq, Prod.mk.injEq] at e
    obtain ⟨rfl, rfl, rfl⟩ := e
    rw [hpHs_eq hb, isPtr_eq hq]
    obtain ⟨h1, h4, h5, h6⟩ := hp
    rw [h4]
    generalize unP ch = l at h5 ⊢
    subst h5
    rw [unP_prs]
    refine con_body (f := 32) (fn := Try.f32) (cd := Try.f32.body.getD .skip) (nt := nr32) Try.func32 (by kernel_rfl) rfl ?_
    change Agm.Sem Try.prog w0 (Try.prog.globals.size + nt32.flags.length) _ _ _ _ _
    refine seg_sem2 (F := ft32) (c := callsOf G []) mixed okNil (fun _ _ _ => canonT_sem) [5] 60 ?_
    have hh := start32 la n l.length ci (prs l)
    rw [show PT (G + 0) = PT G from rfl, hh]
    exact ⟨⟨h1, plain_prs _, plain_nil, trivial⟩, loop32 la n ci h1 l h6 l.length 0 [] (by omega) rfl⟩

/-! same. -/
theorem loop30 (a b : List Int) (ra rb : Bool) (hab : a.length = b.length) (hb : b.length < 1000000000) (r : Bool) : ∀ (k i : Nat), i + k = b.length → r = (a.drop i == b.drop i) →
    Agm.Sem Try.prog w0 (Try.prog.globals.size + nt30.flags.length) Try.f30 (retT Try.prog.globals.size nt30 fun rs' h' => rs' = [.bool r] ∧ h' = heapB G (hpS (ints a) (ints b) ra rb))
      todo30 (fr30 a.length b.length (i : Int)) (heapB G (hpS (ints a) (ints b) ra rb)) := by
  have pa : plr (ints a) ra := plain_ints a
  have pb : plr (ints b) rb := plain_ints b
  intro k
  induction k with
  | zero =>
    intro i hi hr
    refine seg_sem2 (F := ft30) (c := callsOf G []) mixed okNil (fun _ _ _ => canonT_sem) [4] 60 ?_
    have hh := head30 a.length b.length (ints a) (ints b) ra rb i
    rw [hh]
    have h1 : ¬ ((i : Int) < (b.length : Int)) := by omega
    simp only [h1, decide_false, cond_false]
    rw [List.drop_eq_nil_of_le (by omega), List.drop_eq_nil_of_le (by omega)] at hr
    exact ⟨⟨pa, pb, trivial⟩, by rw [hr]; rfl, by trivial⟩
  | succ k ih =>
    intro i hi hr
    refine seg_sem2 (F := ft30) (c := callsOf G []) mixed okNil (fun _ _ _ => canonT_sem) [4] 60 ?_
    have hh := head30 a.length b.length (ints a) (ints b) ra rb i
    rw [hh]
    have h1 : (i : Int) < (b.length : Int) := by omega
    have h1a : (i : Int) < (a.length : Int) := by omega
    have h2 : (0 : Int) ≤ (i : Int) := by omega
    have hlt : i < b.length := by omega
    have hlta : i < a.length := by omega
    have h3 : 0 + (i : Int).toNat * 1 = i := by simp
    have hw : w ((i : Int) + 1) = ((i + 1 : Nat) : Int) := by rw [w_id (by omega) (by omega)]; omega
    have hda : a.drop i = a[i] :: a.drop (i + 1) := List.drop_eq_getElem_cons hlta
    have hdb : b.drop i = b[i] :: b.drop (i + 1) := List.drop_eq_getElem_cons hlt
    rw [hda, hdb, List.cons_beq_cons] at hr
    simp only [h1, h1a, h2, decide_true, cond_true, Bool.and_self, h3, okI_ints hlta, okI_ints hlt, intO_ints hlta, intO_ints hlt, hw]
    cases hc : (a[i] == b[i]) with
    | false =>
      rw [hc] at hr
      simp only [Bool.not_false, cond_true]
      exact ⟨⟨pa, pb, trivial⟩, by rw [hr]; rfl, by trivial⟩
    | true =>
      rw [hc, Bool.true_and] at hr
      simp only [Bool.not_true, cond_false]
      exact ⟨⟨pa, pb, trivial⟩, ih (i + 1) (by omega) hr⟩

noncomputable def con30 : Con := { f := 30, gh := [⟨0, none, 1⟩, ⟨1, none, 1⟩], paths := [⟨0, [], true⟩, ⟨1, [], true⟩], spec := fun args bs => match args, bs with
  | [s, t], [some (.cells ca ra), some (.cells cb rb)] => match slN s 0 1, slN t 1 1 with
    | some p, some q => some (ca = ints (unI ca) ∧ ca.length = p ∧ cb = ints (unI cb) ∧ cb.length = q ∧ q < 1000000000, [.bool (unI ca == unI cb)], [(true, some (.cells ca ra)), (true, some (.cells cb rb))])
    | _, _ => none
  | _, _ => none }
theorem con30_ok : con30.ok Try.prog w0 := by
  intro args bs p rs out e hp
  simp only [con30] at e
  split at e <;> first | (simp at e; done) | skip
  split at e <;> first | (simp at e; done) | skip
  rename_i s t ca ra cb rb _ _ p' q hs ht
  simp only [Option.some.injEq, Prod.mk.injEq] at e
  obtain ⟨rfl, rfl, rfl⟩ := e
  rw [slN_eq hs, slN_eq ht]
  obtain ⟨h1, h2, h3, h4, h5⟩ := hp
  rw [h1] at h2 ⊢
  rw [h3] at h4 ⊢
  rw [ints_len] at h2 h4
  generalize unI ca = a at h2 ⊢
  generalize unI cb = b at h4 ⊢
  subst h2 h4
  rw [unI_ints, unI_ints]
  refine con_body (f := 30) (fn := Try.f30) (cd := Try.f30.body.getD .skip) (nt := nt30) Try.func30 (by kernel_rfl) rfl ?_
  refine seg_sem2 (F := ft30) (c := callsOf G []) mixed okNil (fun _ _ _ => canonT_sem) [4] 60 ?_
  have hh := start30 a.length b.length (ints a) (ints b) ra rb
  rw [show SL (G + 0) a.length 1 = SL G a.length 1 from rfl, show ([some (.cells (ints a) ra), some (.cells (ints b) rb)] : List (Option ABlk)) = hpS (ints a) (ints b) ra rb from rfl, hh]
  have pa : plr (ints a) ra := plain_ints a
  have pb : plr (ints b) rb := plain_ints b
  by_cases hab : a.length = b.length
  · have hb : ((a.length : Int) == (b.length : Int)) = true := by simp [hab]
    rw [hb]
    exact ⟨⟨pa, pb, trivial⟩, loop30 a b ra rb hab h5 _ b.length 0 (by omega) rfl⟩
  · have hb : ((a.length : Int) == (b.length : Int)) = false := by simp; omega
    have hne : (a == b) = false := by
      rw [beq_eq_false_iff_ne]
      intro e
      exact hab (by rw [e])
    rw [hb, hne]
    exact ⟨⟨pa, pb, trivial⟩, rfl, rfl⟩
end Go.Proofs.Ytdggbficiakbhaa
