/- The first of a row of things that is free. No condition. -/
import Derived.Test.YtdggbficiakbhaaHoldJ
namespace Go.Proofs.Ytdggbficiakbhaa
open Go.Agm
variable {w0 : World}

theorem ok53 : CallsOk Try.prog w0 (callsOf Try.prog.globals.size [con52]) := callsOf_ok fun c hc => by
  simp only [List.mem_singleton] at hc
  subst hc
  exact con52_ok

theorem nth_prs : ∀ {l : List (Int × Int)} {i : Nat} (h : i < l.length), nth (prs l) (i * 2) = some (I l[i].1) ∧ nth (prs l) (i * 2 + 1) = some (I l[i].2)
  | p :: r, 0, _ => ⟨rfl, rfl⟩
  | p :: r, i + 1, h => by
    have := nth_prs (l := r) (i := i) (by simpa using h)
    have e : (i + 1) * 2 = i * 2 + 1 + 1 := by omega
    rw [e]
    exact this
theorem el_prs {l : List (Int × Int)} {i : Nat} (h : i < l.length) : el (prs l) (i : Int) = true ∧ eX (prs l) (i : Int) = l[i].1 ∧ eL (prs l) (i : Int) = l[i].2 := by
  obtain ⟨h1, h2⟩ := nth_prs h
  have e0 : 0 + (i : Int).toNat * 2 + 0 = i * 2 := by simp
  have e1 : 0 + (i : Int).toNat * 2 + 1 = i * 2 + 1 := by simp
  have e2 : Nat.ble (0 + (i : Int).toNat * 2 + 2) (prs l).length = true := Nat.ble_eq_true_of_le (by rw [prs_len]; simp; omega)
  refine ⟨?_, ?_, ?_⟩
  · simp only [el, e2, e0, e1, h1, h2]; rfl
  · simp only [eX, e0, h1]; rfl
  · simp only [eL, e1, h2]; rfl

def idxD (d : Int → Bool) : List (Int × Int) → Int → Int
  | [], _ => -1
  | p :: r, i => bif d p.2 then i else idxD d r (i + 1)
def outD (d : Int → Bool) : List (Int × Int) → List Int → List Int
  | [], o => o
  | p :: r, o => bif d p.2 then o ++ [p.1] else outD d r o

theorem loop53 (la : Int) (n m : Nat) (ins : List Int) (hins : ins.length = n) (o : List Int) (ho : o.length < 1000000000) (l0 : List (Int × Int)) (chm : l0.length < 1000000000) : ∀ k i : Nat, i + k = l0.length → idxD (diesB ins) l0 0 = idxD (diesB ins) (l0.drop i) i → outD (diesB ins) l0 o = outD (diesB ins) (l0.drop i) o →
    Agm.Sem Try.prog w0 (Try.prog.globals.size + nt53.flags.length) Try.f53 (retT Try.prog.globals.size nt52 fun rs' h' => rs' = [I (idxD (diesB ins) l0 0)] ∧ h' = H1 la n m (outD (diesB ins) l0 o).length (ints ins) (prs l0) (ints (outD (diesB ins) l0 o)))
      todo53 (fr53 l0.length (i : Int)) (H1 la n m o.length (ints ins) (prs l0) (ints o)) := by
  intro k
  induction k with
  | zero =>
    intro i hi hx hy
    refine seg_sem2 (F := ft53) mixed ok53 (fun _ _ _ => canonT_sem) [2] 60 ((head53 la l0.length n m o.length (ints ins) (prs l0) (ints o) i _ _).mpr ?_)
    have h1 : ¬ ((i : Int) < (l0.length : Int)) := by omega
    rw [List.drop_eq_nil_of_le (by omega)] at hx hy
    simp only [h1, decide_false, cond_false]
    refine ⟨⟨plain_ints _, plain_prs _, plain_ints _, trivial⟩, by rw [hx]; rfl, ?_⟩
    rw [hy]; rfl
  | succ k ih =>
    intro i hi hx hy
    refine seg_sem2 (F := ft53) mixed ok53 (fun _ _ _ => canonT_sem) [2] 60 ((head53 la l0.length n m o.length (ints ins) (prs l0) (ints o) i _ _).mpr ?_)
    have h1 : (i : Int) < (l0.length : Int) := by omega
    have h2 : (0 : Int) ≤ (i : Int) := by omega
    have hlt : i < l0.length := by omega
    obtain ⟨e1, e2, e3⟩ := el_prs hlt
    have hd : l0.drop i = l0[i] :: l0.drop (i + 1) := List.drop_eq_getElem_cons hlt
    rw [hd] at hx hy
    have hw : w ((i : Int) + 1) = ((i + 1 : Nat) : Int) := by rw [w_id (by omega) (by omega)]; omega
    simp only [h1, h2, decide_true, cond_true, Bool.and_self, e1, e2, e3, hw, oX, unI_ints]
    refine ⟨⟨⟨plain_ints _, plain_prs _, plain_ints _, trivial⟩, ⟨plain_ints _, plain_prs _, plain_ints _, trivial⟩, ⟨by rw [unI_ints], by rw [ints_len, hins], plain_prs _, by rw [unI_ints], ints_len _, ho⟩⟩, ?_⟩
    cases hc : diesB ins l0[i].2 with
    | true =>
      simp only [idxD, outD, hc, cond_true] at hx hy
      simp only [cond_true, outB]
      refine ⟨⟨plain_ints _, plain_prs _, plain_ints _, trivial⟩, by rw [hx], ?_⟩
      rw [hy]
    | false =>
      simp only [idxD, outD, hc, cond_false] at hx hy
      simp only [cond_false, outB]
      refine ⟨⟨plain_ints _, plain_prs _, plain_ints _, trivial⟩, ?_⟩
      exact ih (i + 1) (by omega) (by rw [hx]; congr 1) hy

noncomputable def isF2 (v : Value) (g i j : Nat) : Bool := match v with
  | .func (.func g') xs ys => Nat.beq g' g && Nat.beq xs.size 0 && (match ys.toList with
    | [p, q] => isPtr p i && isPtr q j
    | _ => false)
  | _ => false
theorem isF2_eq {v : Value} {g i j : Nat} (e : isF2 v g i j = true) : v = .func (.func g) #[] #[PT (G + i), PT (G + j)] := by
  unfold isF2 at e
  split at e
  · rename_i g' xs ys
    simp only [Bool.and_eq_true] at e
    obtain ⟨⟨h1, h2⟩, h3⟩ := e
    split at h3
    · rename_i p q hp
      simp only [Bool.and_eq_true] at h3
      have e1 : xs = #[] := Array.eq_empty_of_size_eq_zero (Nat.eq_of_beq_eq_true h2)
      have e2 : ys = #[p, q] := Array.toList_inj.1 hp
      rw [Nat.eq_of_beq_eq_true h1, e1, e2, isPtr_eq h3.1, isPtr_eq h3.2]
    · simp at h3
  · simp at e

def pre53 (q n k : Nat) (ci ch co : List Value) : Prop := ci = ints (unI ci) ∧ ci.length = n ∧ ch = prs (unP ch) ∧ (unP ch).length = q ∧ q < 1000000000 ∧ co = ints (unI co) ∧ co.length = k ∧ k < 1000000000
abbrev paths53 : List Pth := [⟨1, [0], false⟩, ⟨1, [1], false⟩, ⟨1, [0, 0], false⟩, ⟨1, [0, 0, 1], true⟩, ⟨0, [], true⟩, ⟨1, [1, 0], true⟩]
noncomputable def con53 : Con := { f := 53, gh := [⟨1, some ([1], 0), 1⟩], paths := paths53, spec := fun args bs => match args with
  | [s, f] => match slN s 4 2, hp52s bs with
    | some q, some (la, n, m, k, ci, ch, co) => bif isF2 f 52 0 1 then
        some (pre53 q n k ci ch co, [I (idxD (diesB (unI ci)) (unP ch) 0)], res52 la n m ci ch (outD (diesB (unI ci)) (unP ch) (unI co))) else none
    | _, _ => none
  | _ => none }

theorem con53_ok : con53.ok Try.prog w0 := by
  intro args bs p rs out e hp
  simp only [con53] at e
  split at e <;> first | (simp at e; done) | skip
  split at e <;> first | (simp at e; done) | skip
  rename_i s f _ _ q la n m k ci ch co hs hb
  cases hq : isF2 f 52 0 1 with
  | false => rw [hq] at e; simp at e
  | true =>
    rw [hq] at e
    simp only [cond_true, Option.some.injEq, Prod.mk.injEq] at e
    obtain ⟨rfl, rfl, rfl⟩ := e
    rw [slN_eq hs, hp52s_eq hb, isF2_eq hq]
    obtain ⟨h1, h2, h3, h4, h5, h6, h7, h8⟩ := hp
    rw [h1] at h2 ⊢
    rw [h6] at h7 ⊢
    rw [h3]
    rw [ints_len] at h2 h7
    generalize unI ci = ins at h2 ⊢
    generalize unI co = o at h7 ⊢
    generalize unP ch = l at h4 ⊢
    subst h2 h7 h4
    rw [unI_ints, unI_ints, unP_prs]
    refine con_body (f := 53) (fn := Try.f53) (cd := Try.f53.body.getD .skip) (nt := nt52) Try.func53 (by kernel_rfl) rfl ?_
    change Agm.Sem Try.prog w0 (Try.prog.globals.size + nt53.flags.length) _ _ _ _ _
    refine seg_sem2 (F := ft53) mixed ok53 (fun _ _ _ => canonT_sem) [2] 60 ((start53 la l.length ins.length m o.length (ints ins) (prs l) (ints o) _ _).mpr ⟨⟨plain_ints _, plain_prs _, plain_ints _, plain_ints _, trivial⟩, ?_⟩)
    exact loop53 la ins.length m ins rfl o h8 l h5 l.length 0 (by omega) rfl rfl
end Go.Proofs.Ytdggbficiakbhaa
