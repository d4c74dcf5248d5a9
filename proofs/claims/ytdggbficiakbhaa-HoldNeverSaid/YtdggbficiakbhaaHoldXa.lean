/- The functions of holds: the table. No condition. -/
import Derived.Test.YtdggbficiakbhaaB6
import Derived.Test.YtdggbficiakbhaaRows
import Derived.KernelRfl
import Derived.Test.YtdggbficiakbhaaB7
namespace Go.Proofs.Ytdggbficiakbhaa
open Go.Agm
abbrev I (n : Int) : Value := .int .i64 n
/-- No slot owns a block. -/
def tn : Tbl := { ft := fun _ => { loc := fun _ => false, mask := fun _ => [] }, prim := fun _ => none }
theorem nil_run (x : Int) : (runK Try.prog tn 200 11 [I x] (heapOf Try.prog.globals.size [])).map (·.1) = some [.bool true] := by kernel_rfl

noncomputable abbrev G : Nat := Try.prog.globals.size
abbrev SL (b n sz : Nat) : Value := .slice (some ⟨b, 0, none⟩) n sz
abbrev PT (b : Nat) : Value := .pointer (some ⟨b, 0, none⟩)
def ints (l : List Int) : List Value := l.map I
def prs : List (Int × Int) → List Value
  | [] => []
  | p :: r => I p.1 :: I p.2 :: prs r
abbrev w (n : Int) : Int := IntKind.i64.wrap n

def intV : Value → Option Int
  | .int .i64 n => some n
  | _ => none
theorem intV_eq {v : Value} {n : Int} (e : intV v = some n) : v = I n := by
  unfold intV at e; split at e <;> simp_all
noncomputable def isPtr (v : Value) (i : Nat) : Bool := match v with
  | .pointer (some ⟨b, off, none⟩) => Nat.beq b (G + i) && Nat.beq off 0
  | _ => false
theorem isPtr_eq {v : Value} {i : Nat} (e : isPtr v i = true) : v = PT (G + i) := by
  unfold isPtr at e
  split at e
  · rename_i b off
    simp only [Bool.and_eq_true] at e
    rw [Nat.eq_of_beq_eq_true e.1, Nat.eq_of_beq_eq_true e.2]
  · simp at e
noncomputable def slN (v : Value) (i sz : Nat) : Option Nat := match v with
  | .slice (some ⟨b, off, none⟩) n s => bif Nat.beq b (G + i) && Nat.beq off 0 && Nat.beq s sz then some n else none
  | _ => none
theorem slN_eq {v : Value} {i sz n : Nat} (e : slN v i sz = some n) : v = SL (G + i) n sz := by
  unfold slN at e
  split at e
  · rename_i b off n' s
    cases hb : (Nat.beq b (G + i) && Nat.beq off 0 && Nat.beq s sz) with
    | false => rw [hb] at e; simp at e
    | true =>
      rw [hb] at e
      simp only [cond_true, Option.some.injEq] at e
      simp only [Bool.and_eq_true] at hb
      rw [Nat.eq_of_beq_eq_true hb.1.1, Nat.eq_of_beq_eq_true hb.1.2, Nat.eq_of_beq_eq_true hb.2, e]
  · simp at e

def int1 (v : Value) : Int := match v with
  | .int _ n => n
  | _ => 0
def unI (cs : List Value) : List Int := cs.map int1
def unP : List Value → List (Int × Int)
  | x :: y :: r => (int1 x, int1 y) :: unP r
  | _ => []
theorem unI_ints (l : List Int) : unI (ints l) = l := by
  simp [unI, ints, int1, Function.comp_def]
theorem unP_prs : ∀ l : List (Int × Int), unP (prs l) = l
  | [] => rfl
  | p :: r => by simp [prs, unP, unP_prs r, int1]
theorem ints_len (l : List Int) : (ints l).length = l.length := List.length_map _
theorem prs_len : ∀ l : List (Int × Int), (prs l).length = 2 * l.length
  | [] => rfl
  | p :: r => by simp [prs, prs_len r]; omega
theorem plain_ints (l : List Int) : PlainL (ints l) := by
  intro x hx
  obtain ⟨n, _, rfl⟩ := List.mem_map.1 hx
  rfl
theorem plain_prs : ∀ l : List (Int × Int), PlainL (prs l)
  | [], x, hx => by simp [prs] at hx
  | p :: r, x, hx => by
    simp only [prs, List.mem_cons] at hx
    rcases hx with rfl | rfl | hx
    · rfl
    · rfl
    · exact plain_prs r x hx
theorem nth_ints (l : List Int) (i : Nat) : nth (ints l) i = (l[i]?).map I := by rw [nth_eq, ints, List.getElem?_map]
theorem okI_ints {l : List Int} {i : Nat} (h : i < l.length) : okI .i64 (nth (ints l) i) = true := by
  rw [nth_ints, List.getElem?_eq_getElem h]; rfl
theorem intO_ints {l : List Int} {i : Nat} (h : i < l.length) : intO (nth (ints l) i) = l[i] := by
  rw [nth_ints, List.getElem?_eq_getElem h]; rfl

theorem w_id {n : Int} (h1 : -9223372036854775808 ≤ n) (h2 : n < 9223372036854775808) : w n = n := by
  have e : IntKind.i64.wrap n = if n % 18446744073709551616 ≥ 9223372036854775808 then n % 18446744073709551616 - 18446744073709551616 else n % 18446744073709551616 := by
    simp [IntKind.wrap, IntKind.bits, IntKind.signed]
  show IntKind.i64.wrap n = n
  rw [e]
  split <;> omega

def look (i : Nat) : List (Nat × AV) → AV
  | [] => .dead
  | (j, x) :: r => bif Nat.beq j i then x else look i r
/-- A frame of which some slots live. -/
def frm (n : Nat) (l : List (Nat × AV)) : List AV := (List.range n).map fun i => look i l
/-- Which slots live at the heads of loops. -/
def live (n : Nat) (l : List Nat) : List Bool := (List.range n).map fun i => l.any (Nat.beq i)
abbrev nmOf (flags : List Bool) (paths : List Pth) : Nt := { gh := [], flags := flags, paths := paths, tr := [] }
/-- The code from a loop's head on. -/
noncomputable def todoAt (fn : Func) (F : FT) (id : Nat) (fr : List AV) (h : AHeap) : List Item :=
  segK2 Try.prog F { fail := [], ret := fun _ _ => [], call := fun _ _ h k => k [.int .i64 0] h } fn [id] 60 [.code (fn.body.getD .skip)] fr (fun t _ _ => t) h

variable {w0 : World}

theorem tn_prims {W : World} : PrimOk Try.prog W tn := no_prims fun _ => rfl
theorem mixed : Try.prog.follows .mixedOrders = true := Checked.mixed Try.checked

noncomputable def con42 : Con := { f := 42, gh := [], paths := [⟨1, [], false⟩], spec := fun args bs => match args, bs with
  | [x, p], [some (.cells [t] true)] => match intV x, intV t with
    | some x, some t => bif isPtr p 0 then some (True, [.bool (x == t)], [(false, some (.cells [I t] true))]) else none
    | _, _ => none
  | _, _ => none }
theorem con42_run (x t : Int) : runK Try.prog tn 60 42 [I x, PT G] (heapB G [some (.cells [I t] true)]) = some ([.bool (x == t)], heapB G [some (.cells [I t] true)]) := by kernel_rfl
theorem con42_ok : con42.ok Try.prog w0 := by
  intro args bs p rs out e hp
  simp only [con42] at e
  split at e <;> first | (simp at e; done) | skip
  split at e <;> first | (simp at e; done) | skip
  rename_i x q t _ _ x' t' hx ht
  cases hq : isPtr q 0 with
  | false => rw [hq] at e; simp at e
  | true =>
    rw [hq] at e
    simp only [cond_true, Option.some.injEq, Prod.mk.injEq] at e
    obtain ⟨rfl, rfl, rfl⟩ := e
    rw [intV_eq hx, intV_eq ht, isPtr_eq hq]
    exact (call_run mixed tn_prims (run_of (con42_run x' t'))).mono fun _ _ hh => hh

noncomputable def isF1 (v : Value) (g i : Nat) : Bool := match v with
  | .func (.func g') xs ys => Nat.beq g' g && Nat.beq xs.size 0 && (match ys.toList with
    | [p] => isPtr p i
    | _ => false)
  | _ => false
theorem isF1_eq {v : Value} {g i : Nat} (e : isF1 v g i = true) : v = .func (.func g) #[] #[PT (G + i)] := by
  unfold isF1 at e
  split at e
  · rename_i g' xs ys
    simp only [Bool.and_eq_true] at e
    obtain ⟨⟨h1, h2⟩, h3⟩ := e
    split at h3
    · rename_i p hp
      have e1 : xs = #[] := Array.eq_empty_of_size_eq_zero (Nat.eq_of_beq_eq_true h2)
      have e2 : ys = #[p] := Array.toList_inj.1 hp
      rw [Nat.eq_of_beq_eq_true h1, e1, e2, isPtr_eq h3]
    · simp at h3
  · simp at e

def idxF (t : Int) : List Int → Int → Int
  | [], _ => -1
  | x :: r, i => bif x == t then i else idxF t r (i + 1)

noncomputable def con50 : Con := { f := 50, gh := [], paths := [⟨1, [0], false⟩, ⟨0, [], true⟩], spec := fun args bs => match args, bs with
  | [s, f], [some (.cells [t] true), some (.cells cs rw)] => match slN s 1 1, intV t with
    | some n, some t => bif isF1 f 42 0 then some (cs = ints (unI cs) ∧ cs.length = n ∧ n < 1000000000, [I (idxF t (unI cs) 0)], [(false, some (.cells [I t] true)), (true, some (.cells cs rw))]) else none
    | _, _ => none
  | _, _ => none }

def ft50 : FT := { loc := fun _ => false, mask := fun id => bif Nat.beq id 2 then live 19 [0, 1, 7, 8] else [] }
noncomputable abbrev F42 (i : Nat) : Value := .func (.func 42) #[] #[PT (G + i)]
abbrev nm50 : Nt := nmOf [false, true] []
noncomputable def hp50 (t : Int) (cs : List Value) (rw : Bool) : AHeap := heapB G [some (.cells [I t] true), some (.cells cs rw)]
noncomputable def todo50 : List Item := todoAt Try.f50 ft50 2 (startF Try.f50 [SL (G + 1) 0 1, F42 0]) (hp50 0 [] true)
noncomputable def fr50 (n : Nat) (i : Int) : List AV := frm 19 [(0, .v (SL (G + 1) n 1)), (1, .v (F42 0)), (7, .v (I n)), (8, .v (I i))]

theorem start50 (n : Nat) (t : Int) (cs : List Value) (rw : Bool) (Q : Post) (L : List Item → List AV → AHeap → Prop) :
    segK2 Try.prog ft50 (semM (callsOf G [con42]) Q) Try.f50 [2] 60 [.code (Try.f50.body.getD .skip)] (startF Try.f50 [SL (G + 1) n 1, F42 0]) (fun t fr h => canonT G nm50 (L t) fr h) (hp50 t cs rw)
    = ((plainB (.cells cs rw) ∧ True) ∧ L todo50 (fr50 n 0) (hp50 t cs rw)) := by kernel_rfl
theorem head50 (n : Nat) (i t : Int) (cs : List Value) (rw : Bool) (K : List Value → AHeap → Prop) (L : List Item → List AV → AHeap → Prop) :
    segK2 Try.prog ft50 (semM (callsOf G [con42]) (retT G nm50 K)) Try.f50 [2] 60 todo50 (fr50 n i) (fun t fr h => canonT G nm50 (L t) fr h) (hp50 t cs rw)
    = (bif decide (i < n) then bif decide (0 ≤ i) && decide (i < n) then bif okI .i64 (nth cs (0 + i.toNat * 1)) then
        ((True ∧ True ∧ True) ∧ bif (intO (nth cs (0 + i.toNat * 1)) == t) then ((plainB (.cells cs rw) ∧ True) ∧ K [I i] (hp50 t cs rw)) else ((plainB (.cells cs rw) ∧ True) ∧ L todo50 (fr50 n (w (i + 1))) (hp50 t cs rw)))
        else False else False
      else ((plainB (.cells cs rw) ∧ True) ∧ K [I (-1)] (hp50 t cs rw))) := by kernel_rfl

theorem ok42 : CallsOk Try.prog w0 (callsOf Try.prog.globals.size [con42]) := callsOf_ok fun c hc => by
  simp only [List.mem_singleton] at hc
  subst hc
  exact con42_ok

theorem loop50 (l : List Int) (t : Int) (rw : Bool) (hl : l.length < 1000000000) : ∀ k i : Nat, i + k = l.length →
    Agm.Sem Try.prog w0 (Try.prog.globals.size + nm50.flags.length) Try.f50 (retT Try.prog.globals.size nm50 fun rs' h' => rs' = [I (idxF t l 0)] ∧ h' = hp50 t (ints l) rw) todo50 (fr50 l.length (i : Int)) (hp50 t (ints l) rw) ∨ idxF t l 0 ≠ idxF t (l.drop i) i := by
  have hpl : plainB (.cells (ints l) rw) := plain_ints l
  intro k
  induction k with
  | zero =>
    intro i hi
    by_cases hx : idxF t l 0 = idxF t (l.drop i) i
    · left
      refine seg_sem2 (F := ft50) mixed ok42 (fun _ _ _ => canonT_sem) [2] 60 ((head50 l.length i t (ints l) rw _ _).mpr ?_)
      have : ¬ ((i : Int) < (l.length : Int)) := by omega
      simp only [this, decide_false, cond_false]
      refine ⟨⟨hpl, trivial⟩, ?_, by trivial⟩
      rw [hx, List.drop_eq_nil_of_le (by omega)]
      rfl
    · exact .inr hx
  | succ k ih =>
    intro i hi
    by_cases hx : idxF t l 0 = idxF t (l.drop i) i
    · left
      refine seg_sem2 (F := ft50) mixed ok42 (fun _ _ _ => canonT_sem) [2] 60 ((head50 l.length i t (ints l) rw _ _).mpr ?_)
      have h1 : (i : Int) < (l.length : Int) := by omega
      have h2 : (0 : Int) ≤ (i : Int) := by omega
      have hlt : i < l.length := by omega
      have h3 : 0 + (i : Int).toNat * 1 = i := by simp
      have hd : l.drop i = l[i] :: l.drop (i + 1) := List.drop_eq_getElem_cons hlt
      rw [hd] at hx
      simp only [h1, h2, decide_true, cond_true, Bool.and_self, h3, okI_ints hlt, intO_ints hlt]
      refine ⟨⟨trivial, trivial, trivial⟩, ?_⟩
      cases hc : (l[i] == t) with
      | true =>
        simp only [cond_true]
        refine ⟨⟨hpl, trivial⟩, ?_, by trivial⟩
        rw [hx]
        simp only [idxF, hc, cond_true]
      | false =>
        simp only [cond_false]
        refine ⟨⟨hpl, trivial⟩, ?_⟩
        simp only [idxF, hc, cond_false] at hx
        have hw : w ((i : Int) + 1) = ((i + 1 : Nat) : Int) := by rw [w_id (by omega) (by omega)]; omega
        rw [hw]
        rcases ih (i + 1) (by omega) with h | h
        · exact h
        · exact absurd (by rw [hx]; congr 1) h
    · exact .inr hx

theorem con50_ok : con50.ok Try.prog w0 := by
  intro args bs p rs out e hp
  simp only [con50] at e
  split at e <;> first | (simp at e; done) | skip
  split at e <;> first | (simp at e; done) | skip
  rename_i s f t cs rw _ _ n t' hs ht
  cases hq : isF1 f 42 0 with
  | false => rw [hq] at e; simp at e
  | true =>
    rw [hq] at e
    simp only [cond_true, Option.some.injEq, Prod.mk.injEq] at e
    obtain ⟨rfl, rfl, rfl⟩ := e
    obtain ⟨h1, h2, h3⟩ := hp
    rw [slN_eq hs, intV_eq ht, isF1_eq hq]
    rw [h1] at h2 ⊢
    rw [ints_len] at h2
    generalize unI cs = l at h2 ⊢
    subst h2
    rw [unI_ints]
    refine con_body (fn := Try.f50) (cd := Try.f50.body.getD .skip) (nt := nm50) Try.func50 (by kernel_rfl) rfl ?_
    refine seg_sem2 (F := ft50) mixed ok42 (fun _ _ _ => canonT_sem) [2] 60 ((start50 l.length t' (ints l) rw _ _).mpr ⟨⟨plain_ints l, trivial⟩, ?_⟩)
    rcases loop50 (w0 := w0) l t' rw h3 l.length 0 (by omega) with h | h
    · exact h
    · exact absurd rfl h

def ft41 : FT := { loc := fun _ => false, mask := fun id => bif Nat.beq id 5 then live 42 [0, 1, 5, 6] else [] }
abbrev nt41 : Nt := { gh := [], flags := [false, true], paths := [], tr := [(0, [])] }
noncomputable def fr41 (n : Nat) (i j : Int) : List AV := frm 42 [(0, .v (SL (G + 1) n 1)), (1, .v (F42 0)), (5, .v (I i)), (6, .v (I j))]
noncomputable def todo41 : List Item := todoAt Try.f41 ft41 5 (startF Try.f41 [SL (G + 1) 0 1, F42 0]) (hp50 0 [] true)

theorem start41 (n : Nat) (t : Int) (cs : List Value) (K : List Value → AHeap → Prop) (L : List Item → List AV → AHeap → Prop) :
    segK2 Try.prog ft41 (semM (callsOf G [con50, con42]) (retT G nt41 K)) Try.f41 [5] 60 [.code (Try.f41.body.getD .skip)] (startF Try.f41 [SL (G + 1) n 1, F42 0]) (fun t fr h => canonT G nm50 (L t) fr h) (hp50 t cs true)
    = (((plainB (.cells cs true) ∧ True) ∧ (plainB (.cells cs true) ∧ True) ∧ (cs = ints (unI cs) ∧ cs.length = n ∧ n < 1000000000)) ∧
      bif (idxF t (unI cs) 0 == -1) then ((plainB (.cells (cs.take (n * 1)) true) ∧ True) ∧ K [SL (G + 1) n 1] (hp50 t (cs.take (n * 1)) true))
      else ((plainB (.cells cs true) ∧ True) ∧ L todo41 (fr41 n (idxF t (unI cs) 0) (w (idxF t (unI cs) 0 + 1))) (hp50 t cs true))) := by kernel_rfl
theorem head41 (n : Nat) (i j t : Int) (cs : List Value) (K : List Value → AHeap → Prop) (L : List Item → List AV → AHeap → Prop) :
    segK2 Try.prog ft41 (semM (callsOf G [con50, con42]) (retT G nt41 K)) Try.f41 [5] 60 todo41 (fr41 n i j) (fun t fr h => canonT G nm50 (L t) fr h) (hp50 t cs true)
    = (bif decide (j < n) then (bif decide (0 ≤ j) && decide (j < n) then bif okI .i64 (nth cs (0 + j.toNat * 1)) then
         ((True ∧ True ∧ True) ∧ bif !(intO (nth cs (0 + j.toNat * 1)) == t) then
            (bif decide (0 ≤ i) && decide (i < n) then bif Nat.ble (0 + i.toNat * 1 + 1) cs.length then
               ((plainB (.cells (splice cs (0 + i.toNat * 1) [I (intO (nth cs (0 + j.toNat * 1)))]) true) ∧ True) ∧ L todo41 (fr41 n (w (i + 1)) (w (j + 1))) (hp50 t (splice cs (0 + i.toNat * 1) [I (intO (nth cs (0 + j.toNat * 1)))]) true))
             else False else False)
          else ((plainB (.cells cs true) ∧ True) ∧ L todo41 (fr41 n i (w (j + 1))) (hp50 t cs true))) else False else False)
       else bif decide (0 ≤ i) && decide (i ≤ n) then bif Nat.beq (n - i.toNat) 0 then
            (bif decide (0 ≤ i) && decide (i ≤ n) then ((plainB (.cells (cs.take ((i.toNat - 0) * 1)) true) ∧ True) ∧ K [SL (G + 1) (i.toNat - 0) 1] (hp50 t (cs.take ((i.toNat - 0) * 1)) true)) else False)
          else (bif Nat.ble (0 + i.toNat * 1 + (n - i.toNat) * 1) cs.length then
            (bif decide (0 ≤ i) && decide (i ≤ n) then
              ((plainB (.cells ((splice cs (0 + i.toNat * 1) (List.replicate (n - i.toNat) [I 0]).flatten).take ((i.toNat - 0) * 1)) true) ∧ True) ∧
                K [SL (G + 1) (i.toNat - 0) 1] (hp50 t ((splice cs (0 + i.toNat * 1) (List.replicate (n - i.toNat) [I 0]).flatten).take ((i.toNat - 0) * 1)) true)) else False) else False)
         else False) := by kernel_rfl

theorem ints_take (l : List Int) (k : Nat) : (ints l).take k = ints (l.take k) := by simp [ints]
theorem splice_set : ∀ {cs : List Value} {i : Nat} {x : Value}, i < cs.length → splice cs i [x] = cs.set i x
  | [], i, x, h => by simp at h
  | c :: cs, 0, x, h => by simp [splice]
  | c :: cs, i + 1, x, h => by
    have := splice_set (cs := cs) (i := i) (x := x) (by simpa using h)
    simp only [splice, List.length_singleton] at this ⊢
    rw [List.set_cons_succ, ← this]
    have e : i + 1 + 1 = (i + 1) + 1 := rfl
    rw [e, List.drop_succ_cons]; rfl
theorem splice_ints {l : List Int} {i : Nat} (x : Int) (h : i < l.length) : splice (ints l) i [I x] = ints (l.set i x) := by
  rw [splice_set (by rw [ints_len]; exact h), ints, ints, List.map_set]
theorem splice_take (cs xs : List Value) (i : Nat) (h : i ≤ cs.length) : (splice cs i xs).take i = cs.take i := by
  unfold splice
  rw [List.append_assoc, List.take_append_of_le_length (by rw [List.length_take]; omega), List.take_take, Nat.min_self]

theorem ok41 : CallsOk Try.prog w0 (callsOf Try.prog.globals.size [con50, con42]) := callsOf_ok fun c hc => by
  simp only [List.mem_cons, List.not_mem_nil, or_false] at hc
  rcases hc with rfl | rfl
  · exact con50_ok
  · exact con42_ok

theorem loop41 (t : Int) (n : Nat) (hn : n < 1000000000) (T : List Int) : ∀ (k i j : Nat) (l : List Int), l.length = n → i ≤ j → j + k = n → T = l.take i ++ (l.drop j).filter (fun x => !(x == t)) →
    Agm.Sem Try.prog w0 (Try.prog.globals.size + nm50.flags.length) Try.f41 (retT Try.prog.globals.size nt41 fun rs' h' => rs' = [SL (G + 1) T.length 1] ∧ h' = hp50 t (ints T) true) todo41 (fr41 n i j) (hp50 t (ints l) true) := by
  intro k
  induction k with
  | zero =>
    intro i j l hl hij hj hT
    refine seg_sem2 (F := ft41) mixed ok41 (fun _ _ _ => canonT_sem) [5] 60 ((head41 n i j t (ints l) _ _).mpr ?_)
    have h1 : ¬ ((j : Int) < (n : Int)) := by omega
    have h2 : (0 : Int) ≤ (i : Int) := by omega
    have h3 : (i : Int) ≤ (n : Int) := by omega
    have hT' : T = l.take i := by rw [hT, List.drop_eq_nil_of_le (by omega)]; simp
    have hTl : T.length = i := by rw [hT', List.length_take]; omega
    simp only [h1, h2, h3, decide_false, decide_true, cond_false, cond_true, Bool.and_self, Int.toNat_natCast, Nat.sub_zero, Nat.zero_add, Nat.mul_one]
    cases hb : Nat.beq (n - i) 0 with
    | true =>
      simp only [cond_true]
      rw [ints_take, ← hT']
      exact ⟨⟨plain_ints T, trivial⟩, by rw [hTl], rfl⟩
    | false =>
      simp only [cond_false]
      have h7 : Nat.ble (i + (n - i)) (ints l).length = true := Nat.ble_eq_true_of_le (by rw [ints_len]; omega)
      rw [h7, cond_true, splice_take _ _ _ (by rw [ints_len]; omega), ints_take, ← hT']
      exact ⟨⟨plain_ints T, trivial⟩, by rw [hTl], rfl⟩
  | succ k ih =>
    intro i j l hl hij hj hT
    refine seg_sem2 (F := ft41) mixed ok41 (fun _ _ _ => canonT_sem) [5] 60 ((head41 n i j t (ints l) _ _).mpr ?_)
    have h1 : (j : Int) < (n : Int) := by omega
    have h2 : (0 : Int) ≤ (j : Int) := by omega
    have h3 : (0 : Int) ≤ (i : Int) := by omega
    have h4 : (i : Int) < (n : Int) := by omega
    have h5 : 0 + (j : Int).toNat * 1 = j := by simp
    have h6 : 0 + (i : Int).toNat * 1 = i := by simp
    have hjl : j < l.length := by omega
    have hil : i < l.length := by omega
    have hw1 : w ((i : Int) + 1) = ((i + 1 : Nat) : Int) := by rw [w_id (by omega) (by omega)]; omega
    have hw2 : w ((j : Int) + 1) = ((j + 1 : Nat) : Int) := by rw [w_id (by omega) (by omega)]; omega
    have hd : l.drop j = l[j] :: l.drop (j + 1) := List.drop_eq_getElem_cons hjl
    simp only [h1, h2, h3, h4, decide_true, cond_true, Bool.and_self, h5, h6, okI_ints hjl, intO_ints hjl, hw1, hw2]
    refine ⟨⟨trivial, trivial, trivial⟩, ?_⟩
    rw [hd] at hT
    cases hc : (l[j] == t) with
    | true =>
      simp only [Bool.not_true, cond_false]
      refine ⟨⟨plain_ints l, trivial⟩, ih i (j + 1) l hl (by omega) (by omega) ?_⟩
      rw [hT, List.filter_cons_of_neg (by simp [hc])]
    | false =>
      have h7 : Nat.ble (i + 1) (ints l).length = true := Nat.ble_eq_true_of_le (by rw [ints_len]; omega)
      simp only [Bool.not_false, cond_true, h7, splice_ints _ hil]
      refine ⟨⟨plain_ints _, trivial⟩, ih (i + 1) (j + 1) (l.set i l[j]) (by rw [List.length_set]; exact hl) (by omega) (by omega) ?_⟩
      rw [hT, List.filter_cons_of_pos (by simp [hc]), List.drop_set_of_lt (by omega)]
      have : (l.set i l[j]).take (i + 1) = l.take i ++ [l[j]] := by
        rw [List.take_succ_eq_append_getElem (by rw [List.length_set]; exact hil), List.take_set_of_le (by omega), List.getElem_set_self]
      rw [this, List.append_assoc]; rfl

theorem idx_none {t : Int} : ∀ {l : List Int} {i : Int}, 0 ≤ i → idxF t l i = -1 → l.filter (fun x => !(x == t)) = l
  | [], _, _, _ => rfl
  | x :: r, i, hi, e => by
    simp only [idxF] at e
    cases hc : (x == t) with
    | true => rw [hc, cond_true] at e; omega
    | false =>
      rw [hc, cond_false] at e
      rw [List.filter_cons_of_pos (by simp [hc]), idx_none (by omega) e]
theorem idx_some {t : Int} : ∀ {l : List Int} {i : Nat}, idxF t l (i : Int) ≠ -1 → ∃ k, idxF t l (i : Int) = ((i + k : Nat) : Int) ∧ k < l.length ∧ l.filter (fun x => !(x == t)) = l.take k ++ (l.drop (k + 1)).filter (fun x => !(x == t))
  | [], _, e => absurd rfl e
  | x :: r, i, e => by
    simp only [idxF] at e ⊢
    cases hc : (x == t) with
    | true => exact ⟨0, by simp, by simp, by rw [List.filter_cons_of_neg (by simp [hc])]; rfl⟩
    | false =>
      rw [hc, cond_false] at e
      have e1 : ((i : Int) + 1) = ((i + 1 : Nat) : Int) := by omega
      rw [e1] at e ⊢
      obtain ⟨k, h1, h2, h3⟩ := idx_some (l := r) (i := i + 1) e
      refine ⟨k + 1, by rw [cond_false, h1]; congr 1; omega, by simpa using h2, ?_⟩
      rw [List.filter_cons_of_pos (by simp [hc]), h3]; rfl

noncomputable def con41 : Con := { f := 41, gh := [], paths := [⟨1, [0], false⟩, ⟨0, [], true⟩], spec := fun args bs => match args, bs with
  | [s, f], [some (.cells [t] true), some (.cells cs true)] => match slN s 1 1, intV t with
    | some n, some t => bif isF1 f 42 0 then some (cs = ints (unI cs) ∧ cs.length = n ∧ n < 1000000000, [SL (G + 1) ((unI cs).filter fun x => !(x == t)).length 1], [(false, some (.cells [I t] true)), (true, some (.cells (ints ((unI cs).filter fun x => !(x == t))) true))]) else none
    | _, _ => none
  | _, _ => none }

theorem con41_ok : con41.ok Try.prog w0 := by
  intro args bs p rs out e hp
  simp only [con41] at e
  split at e <;> first | (simp at e; done) | skip
  split at e <;> first | (simp at e; done) | skip
  rename_i s f t cs _ _ n t' hs ht
  cases hq : isF1 f 42 0 with
  | false => rw [hq] at e; simp at e
  | true =>
    rw [hq] at e
    simp only [cond_true, Option.some.injEq, Prod.mk.injEq] at e
    obtain ⟨rfl, rfl, rfl⟩ := e
    obtain ⟨h1, h2, h3⟩ := hp
    rw [slN_eq hs, intV_eq ht, isF1_eq hq]
    rw [h1] at h2 ⊢
    rw [ints_len] at h2
    generalize unI cs = l at h2 ⊢
    subst h2
    rw [unI_ints]
    refine con_body (f := 41) (args := [SL (G + 1) l.length 1, F42 0]) (bs := [some (.cells [I t'] true), some (.cells (ints l) true)]) (rs := [SL (G + 1) (l.filter fun x => !(x == t')).length 1]) (out := [some (.cells [I t'] true), some (.cells (ints (l.filter fun x => !(x == t'))) true)]) (fn := Try.f41) (cd := Try.f41.body.getD .skip) (nt := nt41) Try.func41 (by kernel_rfl) rfl ?_
    change Agm.Sem Try.prog w0 (Try.prog.globals.size + nm50.flags.length) _ _ _ _ _
    refine seg_sem2 (F := ft41) mixed ok41 (fun _ _ _ => canonT_sem) [5] 60 ((start41 l.length t' (ints l) _ _).mpr ?_)
    rw [unI_ints]
    refine ⟨⟨⟨plain_ints l, trivial⟩, ⟨plain_ints l, trivial⟩, rfl, ints_len l, h3⟩, ?_⟩
    by_cases hi : idxF t' l 0 = -1
    · have hb : (idxF t' l 0 == -1) = true := by simp [hi]
      rw [hb, cond_true, idx_none (by omega) hi, Nat.mul_one, ints_take, List.take_length]
      exact ⟨⟨plain_ints l, trivial⟩, rfl, rfl⟩
    · have hb : (idxF t' l 0 == -1) = false := by simp [hi]
      rw [hb, cond_false]
      refine ⟨⟨plain_ints l, trivial⟩, ?_⟩
      obtain ⟨k, k1, k2, k3⟩ := idx_some (l := l) (i := 0) hi
      have k1' : idxF t' l 0 = ((k : Nat) : Int) := by have := k1; simpa using this
      rw [k1']
      have hw : w ((k : Int) + 1) = ((k + 1 : Nat) : Int) := by rw [w_id (by omega) (by omega)]; omega
      rw [hw]
      exact loop41 t' l.length h3 _ (l.length - (k + 1)) k (k + 1) l rfl (by omega) (by omega) k3
end Go.Proofs.Ytdggbficiakbhaa
