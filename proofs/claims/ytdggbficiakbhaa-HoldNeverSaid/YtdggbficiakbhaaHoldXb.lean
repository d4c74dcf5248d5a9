/- Whether a thing is free: the closure. No condition. -/
import Derived.Test.YtdggbficiakbhaaHoldXa
namespace Go.Proofs.Ytdggbficiakbhaa
open Go.Agm
variable {w0 : World}

/-- What free's closure sees: two boxes, the holds, who is inside, what is held, what is free. -/
noncomputable def hp52 (last : Int) (n m k : Nat) (ci ch co : List Value) : List (Option ABlk) :=
  [some (.cells [PT (G + 2)] true), some (.cells [SL (G + 5) k 1] true), some (.cells [I last, SL (G + 3) n 1, SL (G + 4) m 2] true), some (.cells ci true), some (.cells ch true), some (.cells co true)]
noncomputable def ho52 (last : Int) (n m k : Nat) (ci ch co : List Value) : List (Option ABlk) :=
  [some (.cells [PT (G + 2)] true), some (.cells [SL (G + 6) k 1] true), some (.cells [I last, SL (G + 3) n 1, SL (G + 4) m 2] true), some (.cells ci true), some (.cells ch true), none, some (.cells co true)]
abbrev nt52 : Nt := { gh := [], flags := [false, false, false, true, true, true], paths := [⟨2, [0], true⟩], tr := [] }
def ft0 : FT := { loc := fun _ => false, mask := fun _ => [] }
abbrev pl (cs : List Value) : Prop := plainB (.cells cs true)
theorem run52 (x l last : Int) (n m k : Nat) (ci ch co : List Value) (K : List Value → AHeap → Prop) :
    segK2 Try.prog ft0 (semM (callsOf G []) (retT G nt52 K)) Try.f52 [] 60 [.code (Try.f52.body.getD .skip)] (startF Try.f52 [.agg #[I x, I l], PT G, PT (G + 1)]) (fun _ _ _ => False) (heapB G (hp52 last n m k ci ch co))
    = (bif decide ((n : Int) > 0) then (bif decide ((0 : Int) ≤ 0) && decide ((0 : Int) < n) then bif okI .i64 (nth ci (0 + (0 : Int).toNat * 1)) then
          (bif decide (intO (nth ci (0 + (0 : Int).toNat * 1)) ≤ l) then ((pl ci ∧ pl ch ∧ pl co ∧ pl co ∧ True) ∧ K [.bool false] (heapB G (ho52 last n m k ci ch co)))
           else (bif room (k + 1) 8 then bif Nat.ble (0 + k * 1) co.length then ((pl ci ∧ pl ch ∧ pl ((co.drop 0).take (k * 1) ++ [I x]) ∧ True) ∧ K [.bool true] (heapB G (ho52 last n m (k + 1) ci ch ((co.drop 0).take (k * 1) ++ [I x])))) else False else False)) else False else False)
       else (bif room (k + 1) 8 then bif Nat.ble (0 + k * 1) co.length then ((pl ci ∧ pl ch ∧ pl ((co.drop 0).take (k * 1) ++ [I x]) ∧ True) ∧ K [.bool true] (heapB G (ho52 last n m (k + 1) ci ch ((co.drop 0).take (k * 1) ++ [I x])))) else False else False)) := by kernel_rfl

/-- Nobody is inside who may look at it. -/
def diesB (ins : List Int) (l : Int) : Bool := match ins with
  | [] => true
  | a :: _ => !decide (a ≤ l)
def outB (d : Bool) (o : List Int) (x : Int) : List Int := bif d then o ++ [x] else o

noncomputable def hp52s (bs : List (Option ABlk)) : Option (Int × Nat × Nat × Nat × List Value × List Value × List Value) := match bs with
  | [some (.cells [p2] true), some (.cells [so] true), some (.cells [la, si, sh] true), some (.cells ci true), some (.cells ch true), some (.cells co true)] =>
    match intV la, slN si 3 1, slN sh 4 2, slN so 5 1 with
    | some la, some n, some m, some k => bif isPtr p2 2 then some (la, n, m, k, ci, ch, co) else none
    | _, _, _, _ => none
  | _ => none
theorem hp52s_eq {bs : List (Option ABlk)} {la : Int} {n m k : Nat} {ci ch co : List Value} (e : hp52s bs = some (la, n, m, k, ci, ch, co)) : bs = hp52 la n m k ci ch co := by
  unfold hp52s at e
  split at e <;> first | (simp at e; done) | skip
  split at e <;> first | (simp at e; done) | skip
  rename_i p2 so la' si sh ci' ch' co' _ _ _ _ la2 n' m' k' h1 h2 h3 h4
  cases hq : isPtr p2 2 with
  | false => rw [hq] at e; simp at e
  | true =>
    rw [hq] at e
    simp only [cond_true, Option.some.injEq, Prod.mk.injEq] at e
    obtain ⟨rfl, rfl, rfl, rfl, rfl, rfl, rfl⟩ := e
    rw [intV_eq h1, slN_eq h2, slN_eq h3, slN_eq h4, isPtr_eq hq]
    rfl

def pre52 (n k : Nat) (ci ch co : List Value) : Prop := ci = ints (unI ci) ∧ ci.length = n ∧ PlainL ch ∧ co = ints (unI co) ∧ co.length = k ∧ k < 1000000000
noncomputable def res52 (la : Int) (n m : Nat) (ci ch : List Value) (o : List Int) : List OutB :=
  [(false, some (.cells [PT (G + 2)] true)), (false, some (.cells [SL (G + 6) o.length 1] true)), (false, some (.cells [I la, SL (G + 3) n 1, SL (G + 4) m 2] true)), (true, some (.cells ci true)), (true, some (.cells ch true)), (true, none), (true, some (.cells (ints o) true))]
def dropV (v : Value) : Option (Int × Int) := match v with
  | .agg xs => match xs.toList with
    | [x, l] => match intV x, intV l with
      | some x, some l => some (x, l)
      | _, _ => none
    | _ => none
  | _ => none
theorem dropV_eq {v : Value} {p : Int × Int} (e : dropV v = some p) : v = .agg #[I p.1, I p.2] := by
  unfold dropV at e
  split at e <;> first | (simp at e; done) | skip
  rename_i xs
  split at e <;> first | (simp at e; done) | skip
  rename_i x l hx
  split at e <;> first | (simp at e; done) | skip
  rename_i x' l' h1 h2
  injection e with e
  subst e
  have : xs = #[x, l] := Array.toList_inj.1 hx
  rw [this, intV_eq h1, intV_eq h2]

noncomputable def con52 : Con := { f := 52, gh := [⟨2, some ([], 0), 1⟩], paths := [⟨1, [], false⟩, ⟨2, [], false⟩, ⟨1, [0], false⟩, ⟨1, [0, 1], true⟩, ⟨1, [0, 2], true⟩, ⟨2, [0], true⟩], spec := fun args bs => match args with
  | [d, p, q] => match dropV d, hp52s bs with
    | some d, some (la, n, m, k, ci, ch, co) => bif isPtr p 0 && isPtr q 1 then
        some (pre52 n k ci ch co, [.bool (diesB (unI ci) d.2)], res52 la n m ci ch (outB (diesB (unI ci) d.2) (unI co) d.1)) else none
    | _, _ => none
  | _ => none }

theorem room8 {k : Nat} (h : k < 1000000000) : room (k + 1) 8 = true := Nat.ble_eq_true_of_le (by omega)

theorem con52_ok : con52.ok Try.prog w0 := by
  intro args bs p rs out e hp
  simp only [con52] at e
  split at e <;> first | (simp at e; done) | skip
  split at e <;> first | (simp at e; done) | skip
  rename_i d q1 q2 _ _ d' la n m k ci ch co hd hb
  cases hq : (isPtr q1 0 && isPtr q2 1) with
  | false => rw [hq] at e; simp at e
  | true =>
    rw [hq] at e
    simp only [cond_true, Option.some.injEq, Prod.mk.injEq] at e
    obtain ⟨rfl, rfl, rfl⟩ := e
    simp only [Bool.and_eq_true] at hq
    rw [dropV_eq hd, hp52s_eq hb, isPtr_eq hq.1, isPtr_eq hq.2]
    obtain ⟨h1, h2, h3, h4, h5, h6⟩ := hp
    rw [h1] at h2 ⊢
    rw [h4] at h5 ⊢
    rw [ints_len] at h2 h5
    generalize unI ci = ins at h2 ⊢
    generalize unI co = o at h5 ⊢
    subst h2 h5
    rw [unI_ints, unI_ints]
    refine con_body (f := 52) (fn := Try.f52) (cd := Try.f52.body.getD .skip) (nt := nt52) Try.func52 (by kernel_rfl) rfl ?_
    refine seg_sem2 (F := ft0) (c := callsOf G []) (leaf := fun _ _ _ => False) mixed (callsOf_ok (by simp)) (fun _ _ _ h => h.elim) [] 60 ((run52 d'.1 d'.2 la ins.length m o.length (ints ins) ch (ints o) _).mpr ?_)
    have h7 : Nat.ble (0 + o.length * 1) (ints o).length = true := Nat.ble_eq_true_of_le (by rw [ints_len]; omega)
    have h8 : ((ints o).drop 0).take (o.length * 1) ++ [I d'.1] = ints (o ++ [d'.1]) := by
      rw [List.drop_zero, Nat.mul_one, ints_take, List.take_length]
      simp [ints]
    have h9 : (o ++ [d'.1]).length = o.length + 1 := by simp
    have hch : pl ch := h3
    have tail : diesB ins d'.2 = true → (bif room (o.length + 1) 8 then bif Nat.ble (0 + o.length * 1) (ints o).length then ((pl (ints ins) ∧ pl ch ∧ pl (((ints o).drop 0).take (o.length * 1) ++ [I d'.1]) ∧ True) ∧
        ((fun rs' h' => rs' = [.bool (diesB ins d'.2)] ∧ h' = heapB G ((res52 la ins.length m (ints ins) ch (outB (diesB ins d'.2) o d'.1)).map (·.2))) : List Value → AHeap → Prop) [.bool true] (heapB G (ho52 la ins.length m (o.length + 1) (ints ins) ch (((ints o).drop 0).take (o.length * 1) ++ [I d'.1])))) else False else False) := by
      intro hd
      rw [room8 h6, h7, h8, hd]
      refine ⟨⟨plain_ints _, hch, plain_ints _, trivial⟩, rfl, ?_⟩
      simp only [outB, cond_true, ← h9]
      rfl
    cases ins with
    | nil =>
      have hn : ¬ (((([] : List Int).length : Nat) : Int) > 0) := by simp
      simp only [hn, decide_false, cond_false]
      exact tail rfl
    | cons b r =>
      have hn : ((((b :: r).length : Nat) : Int) > 0) := by simp
      have e0 : nth (ints (b :: r)) (0 + (0 : Int).toNat * 1) = some (I b) := rfl
      have e1 : okI .i64 (some (I b)) = true := rfl
      have e2 : intO (some (I b)) = b := rfl
      simp only [hn, decide_true, cond_true, Bool.and_self, Int.le_refl, e0, e1, e2]
      by_cases hle : b ≤ d'.2
      · have hdd : diesB (b :: r) d'.2 = false := by simp [diesB, hle]
        simp only [hle, decide_true, cond_true, hdd, outB, cond_false]
        exact ⟨⟨plain_ints _, hch, plain_ints _, plain_ints _, trivial⟩, by trivial, rfl⟩
      · have hdd : diesB (b :: r) d'.2 = true := by simp [diesB, hle]
        simp only [hle, decide_false, cond_false]
        exact tail hdd

noncomputable abbrev F52 : Value := .func (.func 52) #[] #[PT G, PT (G + 1)]
def ft53 : FT := { loc := fun _ => false, mask := fun id => bif Nat.beq id 2 then live 19 [0, 1, 7, 8] else [] }
abbrev nt53 : Nt := { gh := [], flags := [false, false, false, true, true, true], paths := [⟨20, [0], true⟩], tr := [] }
noncomputable def fr53 (m : Nat) (i : Int) : List AV := frm 19 [(0, .v (SL (G + 4) m 2)), (1, .v F52), (7, .v (I m)), (8, .v (I i))]
noncomputable def todo53 : List Item := todoAt Try.f53 ft53 2 (startF Try.f53 [SL (G + 4) 0 2, F52]) (heapB G (hp52 0 0 0 0 [] [] []))
noncomputable abbrev H1 (la : Int) (n m k : Nat) (ci ch co : List Value) : AHeap := heapB G (ho52 la n m k ci ch co)
abbrev el (ch : List Value) (i : Int) : Bool := Nat.ble (0 + i.toNat * 2 + 2) ch.length && (okI .i64 (nth ch (0 + i.toNat * 2 + 0)) && (okI .i64 (nth ch (0 + i.toNat * 2 + 1)) && true))
abbrev eX (ch : List Value) (i : Int) : Int := intO (nth ch (0 + i.toNat * 2 + 0))
abbrev eL (ch : List Value) (i : Int) : Int := intO (nth ch (0 + i.toNat * 2 + 1))
abbrev oX (ci ch co : List Value) (i : Int) : List Int := outB (diesB (unI ci) (eL ch i)) (unI co) (eX ch i)

theorem start53 (la : Int) (q n m k : Nat) (ci ch co : List Value) (Q : Post) (L : List Item → List AV → AHeap → Prop) :
    segK2 Try.prog ft53 (semM (callsOf G [con52]) Q) Try.f53 [2] 60 [.code (Try.f53.body.getD .skip)] (startF Try.f53 [SL (G + 4) q 2, F52]) (fun t fr h => canonT G nt53 (L t) fr h) (heapB G (hp52 la n m k ci ch co))
    = ((pl ci ∧ pl ch ∧ pl co ∧ pl co ∧ True) ∧ L todo53 (fr53 q 0) (H1 la n m k ci ch co)) := by kernel_rfl
theorem head53 (la : Int) (q n m k : Nat) (ci ch co : List Value) (i : Int) (K : List Value → AHeap → Prop) (L : List Item → List AV → AHeap → Prop) :
    segK2 Try.prog ft53 (semM (callsOf G [con52]) (retT G nt52 K)) Try.f53 [2] 60 todo53 (fr53 q i) (fun t fr h => canonT G nt53 (L t) fr h) (H1 la n m k ci ch co)
    = (bif decide (i < q) then (bif decide (0 ≤ i) && decide (i < q) then bif el ch i then
        (((pl ci ∧ pl ch ∧ pl co ∧ True) ∧ (pl ci ∧ pl ch ∧ pl (ints (oX ci ch co i)) ∧ True) ∧ pre52 n k ci ch co) ∧
          bif diesB (unI ci) (eL ch i) then ((pl ci ∧ pl ch ∧ pl (ints (oX ci ch co i)) ∧ True) ∧ K [I i] (H1 la n m (oX ci ch co i).length ci ch (ints (oX ci ch co i))))
          else ((pl ci ∧ pl ch ∧ pl (ints (oX ci ch co i)) ∧ True) ∧ L todo53 (fr53 q (w (i + 1))) (H1 la n m (oX ci ch co i).length ci ch (ints (oX ci ch co i)))))
        else False else False)
      else ((pl ci ∧ pl ch ∧ pl co ∧ True) ∧ K [I (-1)] (H1 la n m k ci ch co))) := by kernel_rfl

theorem ok53 : CallsOk Try.prog w0 (callsOf Try.prog.globals.size [con52]) := callsOf_ok fun c hc => by
  simp only [List.mem_singleton] at hc
  subst hc
  exact con52_ok

theorem nth_prs : ∀ {l : List (Int × Int)} {i : Nat} (h : i < l.length), nth (prs l) (i * 2) = some (I l[i].1) ∧ nth (prs l) (i * 2 + 1) = some (I l[i].2)
  | p :: r, 0, _ => ⟨rfl, rfl⟩
  | p :: r, i + 1, h => by
    have := nth_prs (l := r) (i := i) (by simpa using h)
    have e : (i + 1) * 2 = i * 2 + 1 + 1 := by omega
    rw [e]
    exact this
theorem el_prs {l : List (Int × Int)} {i : Nat} (h : i < l.length) : el (prs l) (i : Int) = true ∧ eX (prs l) (i : Int) = l[i].1 ∧ eL (prs l) (i : Int) = l[i].2 := by
  obtain ⟨h1, h2⟩ := nth_prs h
  have e0 : 0 + (i : Int).toNat * 2 + 0 = i * 2 := by simp
  have e1 : 0 + (i : Int).toNat * 2 + 1 = i * 2 + 1 := by simp
  have e2 : Nat.ble (0 + (i : Int).toNat * 2 + 2) (prs l).length = true := Nat.ble_eq_true_of_le (by rw [prs_len]; simp; omega)
  refine ⟨?_, ?_, ?_⟩
  · simp only [el, e2, e0, e1, h1, h2]; rfl
  · simp only [eX, e0, h1]; rfl
  · simp only [eL, e1, h2]; rfl

def idxD (d : Int → Bool) : List (Int × Int) → Int → Int
  | [], _ => -1
  | p :: r, i => bif d p.2 then i else idxD d r (i + 1)
def outD (d : Int → Bool) : List (Int × Int) → List Int → List Int
  | [], o => o
  | p :: r, o => bif d p.2 then o ++ [p.1] else outD d r o

theorem loop53 (la : Int) (n m : Nat) (ins : List Int) (hins : ins.length = n) (o : List Int) (ho : o.length < 1000000000) (l0 : List (Int × Int)) (chm : l0.length < 1000000000) : ∀ k i : Nat, i + k = l0.length → idxD (diesB ins) l0 0 = idxD (diesB ins) (l0.drop i) i → outD (diesB ins) l0 o = outD (diesB ins) (l0.drop i) o →
    Agm.Sem Try.prog w0 (Try.prog.globals.size + nt53.flags.length) Try.f53 (retT Try.prog.globals.size nt52 fun rs' h' => rs' = [I (idxD (diesB ins) l0 0)] ∧ h' = H1 la n m (outD (diesB ins) l0 o).length (ints ins) (prs l0) (ints (outD (diesB ins) l0 o)))
      todo53 (fr53 l0.length (i : Int)) (H1 la n m o.length (ints ins) (prs l0) (ints o)) := by
  intro k
  induction k with
  | zero =>
    intro i hi hx hy
    refine seg_sem2 (F := ft53) mixed ok53 (fun _ _ _ => canonT_sem) [2] 60 ((head53 la l0.length n m o.length (ints ins) (prs l0) (ints o) i _ _).mpr ?_)
    have h1 : ¬ ((i : Int) < (l0.length : Int)) := by omega
    rw [List.drop_eq_nil_of_le (by omega)] at hx hy
    simp only [h1, decide_false, cond_false]
    refine ⟨⟨plain_ints _, plain_prs _, plain_ints _, trivial⟩, by rw [hx]; rfl, ?_⟩
    rw [hy]; rfl
  | succ k ih =>
    intro i hi hx hy
    refine seg_sem2 (F := ft53) mixed ok53 (fun _ _ _ => canonT_sem) [2] 60 ((head53 la l0.length n m o.length (ints ins) (prs l0) (ints o) i _ _).mpr ?_)
    have h1 : (i : Int) < (l0.length : Int) := by omega
    have h2 : (0 : Int) ≤ (i : Int) := by omega
    have hlt : i < l0.length := by omega
    obtain ⟨e1, e2, e3⟩ := el_prs hlt
    have hd : l0.drop i = l0[i] :: l0.drop (i + 1) := List.drop_eq_getElem_cons hlt
    rw [hd] at hx hy
    have hw : w ((i : Int) + 1) = ((i + 1 : Nat) : Int) := by rw [w_id (by omega) (by omega)]; omega
    simp only [h1, h2, decide_true, cond_true, Bool.and_self, e1, e2, e3, hw, oX, unI_ints]
    refine ⟨⟨⟨plain_ints _, plain_prs _, plain_ints _, trivial⟩, ⟨plain_ints _, plain_prs _, plain_ints _, trivial⟩, ⟨by rw [unI_ints], by rw [ints_len, hins], plain_prs _, by rw [unI_ints], ints_len _, ho⟩⟩, ?_⟩
    cases hc : diesB ins l0[i].2 with
    | true =>
      simp only [idxD, outD, hc, cond_true] at hx hy
      simp only [cond_true, outB]
      refine ⟨⟨plain_ints _, plain_prs _, plain_ints _, trivial⟩, by rw [hx], ?_⟩
      rw [hy]
    | false =>
      simp only [idxD, outD, hc, cond_false] at hx hy
      simp only [cond_false, outB]
      refine ⟨⟨plain_ints _, plain_prs _, plain_ints _, trivial⟩, ?_⟩
      exact ih (i + 1) (by omega) (by rw [hx]; congr 1) hy

noncomputable def isF2 (v : Value) (g i j : Nat) : Bool := match v with
  | .func (.func g') xs ys => Nat.beq g' g && Nat.beq xs.size 0 && (match ys.toList with
    | [p, q] => isPtr p i && isPtr q j
    | _ => false)
  | _ => false
theorem isF2_eq {v : Value} {g i j : Nat} (e : isF2 v g i j = true) : v = .func (.func g) #[] #[PT (G + i), PT (G + j)] := by
  unfold isF2 at e
  split at e
  · rename_i g' xs ys
    simp only [Bool.and_eq_true] at e
    obtain ⟨⟨h1, h2⟩, h3⟩ := e
    split at h3
    · rename_i p q hp
      simp only [Bool.and_eq_true] at h3
      have e1 : xs = #[] := Array.eq_empty_of_size_eq_zero (Nat.eq_of_beq_eq_true h2)
      have e2 : ys = #[p, q] := Array.toList_inj.1 hp
      rw [Nat.eq_of_beq_eq_true h1, e1, e2, isPtr_eq h3.1, isPtr_eq h3.2]
    · simp at h3
  · simp at e

def pre53 (q n k : Nat) (ci ch co : List Value) : Prop := ci = ints (unI ci) ∧ ci.length = n ∧ ch = prs (unP ch) ∧ (unP ch).length = q ∧ q < 1000000000 ∧ co = ints (unI co) ∧ co.length = k ∧ k < 1000000000
abbrev paths53 : List Pth := [⟨1, [0], false⟩, ⟨1, [1], false⟩, ⟨1, [0, 0], false⟩, ⟨1, [0, 0, 1], true⟩, ⟨0, [], true⟩, ⟨1, [1, 0], true⟩]
noncomputable def con53 : Con := { f := 53, gh := [⟨1, some ([1], 0), 1⟩], paths := paths53, spec := fun args bs => match args with
  | [s, f] => match slN s 4 2, hp52s bs with
    | some q, some (la, n, m, k, ci, ch, co) => bif isF2 f 52 0 1 then
        some (pre53 q n k ci ch co, [I (idxD (diesB (unI ci)) (unP ch) 0)], res52 la n m ci ch (outD (diesB (unI ci)) (unP ch) (unI co))) else none
    | _, _ => none
  | _ => none }

theorem con53_ok : con53.ok Try.prog w0 := by
  intro args bs p rs out e hp
  simp only [con53] at e
  split at e <;> first | (simp at e; done) | skip
  split at e <;> first | (simp at e; done) | skip
  rename_i s f _ _ q la n m k ci ch co hs hb
  cases hq : isF2 f 52 0 1 with
  | false => rw [hq] at e; simp at e
  | true =>
    rw [hq] at e
    simp only [cond_true, Option.some.injEq, Prod.mk.injEq] at e
    obtain ⟨rfl, rfl, rfl⟩ := e
    rw [slN_eq hs, hp52s_eq hb, isF2_eq hq]
    obtain ⟨h1, h2, h3, h4, h5, h6, h7, h8⟩ := hp
    rw [h1] at h2 ⊢
    rw [h6] at h7 ⊢
    rw [h3]
    rw [ints_len] at h2 h7
    generalize unI ci = ins at h2 ⊢
    generalize unI co = o at h7 ⊢
    generalize unP ch = l at h4 ⊢
    subst h2 h7 h4
    rw [unI_ints, unI_ints, unP_prs]
    refine con_body (f := 53) (fn := Try.f53) (cd := Try.f53.body.getD .skip) (nt := nt52) Try.func53 (by kernel_rfl) rfl ?_
    change Agm.Sem Try.prog w0 (Try.prog.globals.size + nt53.flags.length) _ _ _ _ _
    refine seg_sem2 (F := ft53) mixed ok53 (fun _ _ _ => canonT_sem) [2] 60 ((start53 la l.length ins.length m o.length (ints ins) (prs l) (ints o) _ _).mpr ⟨⟨plain_ints _, plain_prs _, plain_ints _, plain_ints _, trivial⟩, ?_⟩)
    exact loop53 la ins.length m ins rfl o h8 l h5 l.length 0 (by omega) rfl rfl

def ft51 : FT := { loc := fun _ => false, mask := fun id => bif Nat.beq id 5 then live 42 [0, 1, 5, 6] else [] }
abbrev nt51 : Nt := { gh := [], flags := [false, false, false, true, true, true], paths := [⟨43, [0], true⟩], tr := [] }
abbrev nr51 : Nt := { gh := [], flags := [false, false, false, true, true, true], paths := [⟨2, [0], true⟩], tr := [(0, [])] }
noncomputable def fr51 (q : Nat) (i j : Int) : List AV := frm 42 [(0, .v (SL (G + 4) q 2)), (1, .v F52), (5, .v (I i)), (6, .v (I j))]
noncomputable def todo51 : List Item := todoAt Try.f51 ft51 5 (startF Try.f51 [SL (G + 4) 0 2, F52]) (heapB G (hp52 0 0 0 0 [] [] []))
abbrev oD (ci ch co : List Value) : List Int := outD (diesB (unI ci)) (unP ch) (unI co)
abbrev iD (ci ch : List Value) : Int := idxD (diesB (unI ci)) (unP ch) 0

theorem start51 (la : Int) (q n m k : Nat) (ci ch co : List Value) (K : List Value → AHeap → Prop) (L : List Item → List AV → AHeap → Prop) :
    segK2 Try.prog ft51 (semM (callsOf G [con53, con52]) (retT G nr51 K)) Try.f51 [5] 60 [.code (Try.f51.body.getD .skip)] (startF Try.f51 [SL (G + 4) q 2, F52]) (fun t fr h => canonT G nt51 (L t) fr h) (heapB G (hp52 la n m k ci ch co))
    = (((pl ci ∧ pl ch ∧ pl co ∧ True) ∧ (pl ci ∧ pl ch ∧ pl (ints (oD ci ch co)) ∧ True) ∧ pre53 q n k ci ch co) ∧
      bif (iD ci ch == -1) then ((pl ci ∧ pl (ch.take (q * 2)) ∧ pl (ints (oD ci ch co)) ∧ True) ∧ K [SL (G + 4) q 2] (H1 la n m (oD ci ch co).length ci (ch.take (q * 2)) (ints (oD ci ch co))))
      else ((pl ci ∧ pl ch ∧ pl (ints (oD ci ch co)) ∧ True) ∧ L todo51 (fr51 q (iD ci ch) (w (iD ci ch + 1))) (H1 la n m (oD ci ch co).length ci ch (ints (oD ci ch co))))) := by kernel_rfl
theorem head51 (la : Int) (q n m k : Nat) (ci ch co : List Value) (i j : Int) (K : List Value → AHeap → Prop) (L : List Item → List AV → AHeap → Prop) :
    segK2 Try.prog ft51 (semM (callsOf G [con53, con52]) (retT G nr51 K)) Try.f51 [5] 60 todo51 (fr51 q i j) (fun t fr h => canonT G nt51 (L t) fr h) (H1 la n m k ci ch co)
    = (bif decide (j < q) then (bif decide (0 ≤ j) && decide (j < q) then bif el ch j then
        (((pl ci ∧ pl ch ∧ pl co ∧ True) ∧ (pl ci ∧ pl ch ∧ pl (ints (oX ci ch co j)) ∧ True) ∧ pre52 n k ci ch co) ∧
          bif !(diesB (unI ci) (eL ch j)) then (bif decide (0 ≤ i) && decide (i < q) then bif Nat.ble (0 + i.toNat * 2 + 2) ch.length then
             ((pl ci ∧ pl (splice ch (0 + i.toNat * 2) [I (eX ch j), I (eL ch j)]) ∧ pl (ints (oX ci ch co j)) ∧ True) ∧ L todo51 (fr51 q (w (i + 1)) (w (j + 1))) (H1 la n m (oX ci ch co j).length ci (splice ch (0 + i.toNat * 2) [I (eX ch j), I (eL ch j)]) (ints (oX ci ch co j))))
             else False else False)
          else ((pl ci ∧ pl ch ∧ pl (ints (oX ci ch co j)) ∧ True) ∧ L todo51 (fr51 q i (w (j + 1))) (H1 la n m (oX ci ch co j).length ci ch (ints (oX ci ch co j)))))
        else False else False)
      else bif decide (0 ≤ i) && decide (i ≤ q) then bif Nat.beq (q - i.toNat) 0 then
            (bif decide (0 ≤ i) && decide (i ≤ q) then ((pl ci ∧ pl (ch.take ((i.toNat - 0) * 2)) ∧ pl co ∧ True) ∧ K [SL (G + 4) (i.toNat - 0) 2] (H1 la n m k ci (ch.take ((i.toNat - 0) * 2)) co)) else False)
          else (bif Nat.ble (0 + i.toNat * 2 + (q - i.toNat) * 2) ch.length then
            (bif decide (0 ≤ i) && decide (i ≤ q) then
              ((pl ci ∧ pl ((splice ch (0 + i.toNat * 2) (List.replicate (q - i.toNat) [I 0, I 0]).flatten).take ((i.toNat - 0) * 2)) ∧ pl co ∧ True) ∧
                K [SL (G + 4) (i.toNat - 0) 2] (H1 la n m k ci ((splice ch (0 + i.toNat * 2) (List.replicate (q - i.toNat) [I 0, I 0]).flatten).take ((i.toNat - 0) * 2)) co)) else False) else False)
         else False) := by kernel_rfl

theorem ok51 : CallsOk Try.prog w0 (callsOf Try.prog.globals.size [con53, con52]) := callsOf_ok fun c hc => by
  simp only [List.mem_cons, List.not_mem_nil, or_false] at hc
  rcases hc with rfl | rfl
  · exact con53_ok
  · exact con52_ok

def keptD (d : Int → Bool) (l : List (Int × Int)) : List (Int × Int) := l.filter fun p => !(d p.2)
def freeD (d : Int → Bool) (l : List (Int × Int)) : List Int := (l.filter fun p => d p.2).map (·.1)

theorem kept_pos {d : Int → Bool} {p : Int × Int} {r : List (Int × Int)} (h : d p.2 = true) : keptD d (p :: r) = keptD d r := List.filter_cons_of_neg (by simp [h])
theorem kept_neg {d : Int → Bool} {p : Int × Int} {r : List (Int × Int)} (h : d p.2 = false) : keptD d (p :: r) = p :: keptD d r := List.filter_cons_of_pos (by simp [h])
theorem free_pos {d : Int → Bool} {p : Int × Int} {r : List (Int × Int)} (h : d p.2 = true) : freeD d (p :: r) = p.1 :: freeD d r := by
  unfold freeD; rw [List.filter_cons_of_pos (by simp [h])]; rfl
theorem free_neg {d : Int → Bool} {p : Int × Int} {r : List (Int × Int)} (h : d p.2 = false) : freeD d (p :: r) = freeD d r := by
  unfold freeD; rw [List.filter_cons_of_neg (by simp [h])]

theorem prs_append (a b : List (Int × Int)) : prs (a ++ b) = prs a ++ prs b := by
  induction a with
  | nil => rfl
  | cons p r ih => simp [prs, ih]
theorem prs_take : ∀ (l : List (Int × Int)) (k : Nat), (prs l).take (k * 2) = prs (l.take k)
  | [], k => by simp [prs]
  | p :: r, 0 => by simp [prs]
  | p :: r, k + 1 => by
    have e : (k + 1) * 2 = k * 2 + 1 + 1 := by omega
    rw [e, List.take_succ_cons]
    simp only [prs, List.take_succ_cons, prs_take r k]
theorem splice_prs : ∀ {l : List (Int × Int)} {i : Nat} (x y : Int), i < l.length → splice (prs l) (i * 2) [I x, I y] = prs (l.set i (x, y))
  | [], i, x, y, h => by simp at h
  | p :: r, 0, x, y, h => by simp [splice, prs]
  | p :: r, i + 1, x, y, h => by
    have := splice_prs (l := r) (i := i) x y (by simpa using h)
    have e : (i + 1) * 2 = i * 2 + 1 + 1 := by omega
    rw [List.set_cons_succ]
    simp only [prs]
    rw [← this, e]
    simp only [splice, List.take_succ_cons, List.length_cons, List.length_nil]
    have e2 : i * 2 + 1 + 1 + (0 + 1 + 1) = (i * 2 + (0 + 1 + 1)) + 1 + 1 := by omega
    rw [e2, List.drop_succ_cons, List.drop_succ_cons]; rfl

theorem loop51 (la : Int) (n m q : Nat) (ins : List Int) (hins : ins.length = n) (hq : q < 1000000000) (R : List (Int × Int)) (O : List Int) (hO : O.length < 1000000000) : ∀ (k i j : Nat) (l : List (Int × Int)) (o : List Int), l.length = q → i ≤ j → j + k = q →
    R = l.take i ++ keptD (diesB ins) (l.drop j) → O = o ++ freeD (diesB ins) (l.drop j) →
    Agm.Sem Try.prog w0 (Try.prog.globals.size + nt51.flags.length) Try.f51 (retT Try.prog.globals.size nr51 fun rs' h' => rs' = [SL (G + 4) R.length 2] ∧ h' = H1 la n m O.length (ints ins) (prs R) (ints O))
      todo51 (fr51 q (i : Int) (j : Int)) (H1 la n m o.length (ints ins) (prs l) (ints o)) := by
  intro k
  induction k with
  | zero =>
    intro i j l o hl hij hj hR hOo
    refine seg_sem2 (F := ft51) mixed ok51 (fun _ _ _ => canonT_sem) [5] 60 ((head51 la q n m o.length (ints ins) (prs l) (ints o) i j _ _).mpr ?_)
    have h1 : ¬ ((j : Int) < (q : Int)) := by omega
    have h2 : (0 : Int) ≤ (i : Int) := by omega
    have h3 : (i : Int) ≤ (q : Int) := by omega
    have hR' : R = l.take i := by rw [hR, List.drop_eq_nil_of_le (by omega)]; simp [keptD]
    have hO' : O = o := by rw [hOo, List.drop_eq_nil_of_le (by omega)]; simp [freeD]
    have hRl : R.length = i := by rw [hR', List.length_take]; omega
    simp only [h1, h2, h3, decide_false, decide_true, cond_false, cond_true, Bool.and_self, Int.toNat_natCast, Nat.sub_zero, Nat.zero_add]
    cases hb : Nat.beq (q - i) 0 with
    | true =>
      simp only [cond_true]
      rw [prs_take, ← hR', hO']
      exact ⟨⟨plain_ints _, plain_prs _, plain_ints _, trivial⟩, by rw [hRl], rfl⟩
    | false =>
      simp only [cond_false]
      have h7 : Nat.ble (i * 2 + (q - i) * 2) (prs l).length = true := Nat.ble_eq_true_of_le (by rw [prs_len]; omega)
      rw [h7, cond_true, splice_take _ _ _ (by rw [prs_len]; omega), prs_take, ← hR', hO']
      exact ⟨⟨plain_ints _, plain_prs _, plain_ints _, trivial⟩, by rw [hRl], rfl⟩
  | succ k ih =>
    intro i j l o hl hij hj hR hOo
    refine seg_sem2 (F := ft51) mixed ok51 (fun _ _ _ => canonT_sem) [5] 60 ((head51 la q n m o.length (ints ins) (prs l) (ints o) i j _ _).mpr ?_)
    have h1 : (j : Int) < (q : Int) := by omega
    have h2 : (0 : Int) ≤ (j : Int) := by omega
    have h3 : (0 : Int) ≤ (i : Int) := by omega
    have h4 : (i : Int) < (q : Int) := by omega
    have hjl : j < l.length := by omega
    have hil : i < l.length := by omega
    obtain ⟨e1, e2, e3⟩ := el_prs hjl
    have hw1 : w ((i : Int) + 1) = ((i + 1 : Nat) : Int) := by rw [w_id (by omega) (by omega)]; omega
    have hw2 : w ((j : Int) + 1) = ((j + 1 : Nat) : Int) := by rw [w_id (by omega) (by omega)]; omega
    have hd : l.drop j = l[j] :: l.drop (j + 1) := List.drop_eq_getElem_cons hjl
    have ho : o.length < 1000000000 := by rw [hOo, List.length_append] at hO; omega
    simp only [h1, h2, h3, h4, decide_true, cond_true, Bool.and_self, e1, e2, e3, hw1, hw2, oX, unI_ints, Int.toNat_natCast, Nat.zero_add]
    refine ⟨⟨⟨plain_ints _, plain_prs _, plain_ints _, trivial⟩, ⟨plain_ints _, plain_prs _, plain_ints _, trivial⟩, ⟨by rw [unI_ints], by rw [ints_len, hins], plain_prs _, by rw [unI_ints], ints_len _, ho⟩⟩, ?_⟩
    rw [hd] at hR hOo
    cases hc : diesB ins l[j].2 with
    | true =>
      simp only [Bool.not_true, cond_false, outB, cond_true]
      refine ⟨⟨plain_ints _, plain_prs _, plain_ints _, trivial⟩, ih i (j + 1) l (o ++ [l[j].1]) hl (by omega) (by omega) ?_ ?_⟩
      · rw [hR, kept_pos hc]
      · rw [hOo, free_pos hc, List.append_assoc]; rfl
    | false =>
      have h7 : Nat.ble (i * 2 + 2) (prs l).length = true := Nat.ble_eq_true_of_le (by rw [prs_len]; omega)
      simp only [Bool.not_false, cond_true, h7, splice_prs _ _ hil, outB, cond_false]
      refine ⟨⟨plain_ints _, plain_prs _, plain_ints _, trivial⟩, ih (i + 1) (j + 1) (l.set i (l[j].1, l[j].2)) o (by rw [List.length_set]; exact hl) (by omega) (by omega) ?_ ?_⟩
      · rw [hR, List.drop_set_of_lt (by omega)]
        have : (l.set i (l[j].1, l[j].2)).take (i + 1) = l.take i ++ [l[j]] := by
          rw [List.take_succ_eq_append_getElem (by rw [List.length_set]; exact hil), List.take_set_of_le (by omega), List.getElem_set_self]
        rw [this, List.append_assoc, kept_neg hc]; rfl
      · rw [hOo, List.drop_set_of_lt (by omega), free_neg hc]

theorem idxD_none {d : Int → Bool} : ∀ {l : List (Int × Int)} {i : Int} {o : List Int}, 0 ≤ i → idxD d l i = -1 → keptD d l = l ∧ outD d l o = o ∧ freeD d l = []
  | [], _, _, _, _ => ⟨rfl, rfl, rfl⟩
  | p :: r, i, o, hi, e => by
    simp only [idxD] at e
    cases hc : d p.2 with
    | true => rw [hc, cond_true] at e; omega
    | false =>
      rw [hc, cond_false] at e
      obtain ⟨h1, h2, h3⟩ := idxD_none (l := r) (o := o) (by omega) e
      refine ⟨?_, by simp [outD, hc, h2], ?_⟩
      · rw [kept_neg hc, h1]
      · rw [free_neg hc, h3]
theorem idxD_some {d : Int → Bool} : ∀ {l : List (Int × Int)} {i : Nat} {o : List Int}, idxD d l (i : Int) ≠ -1 → ∃ k, idxD d l (i : Int) = ((i + k : Nat) : Int) ∧ k < l.length ∧ keptD d l = l.take k ++ keptD d (l.drop (k + 1)) ∧ outD d l o ++ freeD d (l.drop (k + 1)) = o ++ freeD d l
  | [], _, _, e => absurd rfl e
  | p :: r, i, o, e => by
    simp only [idxD] at e ⊢
    cases hc : d p.2 with
    | true => exact ⟨0, by simp, by simp, by rw [kept_pos hc]; rfl, by simp only [outD, hc, cond_true]; rw [free_pos hc, List.append_assoc]; rfl⟩
    | false =>
      rw [hc, cond_false] at e
      have e1 : ((i : Int) + 1) = ((i + 1 : Nat) : Int) := by omega
      rw [e1] at e ⊢
      obtain ⟨k, h1, h2, h3, h4⟩ := idxD_some (l := r) (i := i + 1) (o := o) e
      refine ⟨k + 1, by rw [cond_false, h1]; congr 1; omega, by simpa using h2, ?_, ?_⟩
      · rw [kept_neg hc, h3]; rfl
      · simp only [outD, hc, cond_false]
        rw [free_neg hc]
        exact h4

def pre51 (q n k : Nat) (ci ch co : List Value) : Prop := pre53 q n k ci ch co ∧ k + q < 1000000000
noncomputable def res51 (la : Int) (n m : Nat) (ci : List Value) (R : List (Int × Int)) (O : List Int) : List OutB :=
  [(false, some (.cells [PT (G + 2)] true)), (false, some (.cells [SL (G + 6) O.length 1] true)), (false, some (.cells [I la, SL (G + 3) n 1, SL (G + 4) m 2] true)), (true, some (.cells ci true)), (true, some (.cells (prs R) true)), (true, none), (true, some (.cells (ints O) true))]
noncomputable def con51 : Con := { f := 51, gh := [⟨1, some ([1], 0), 1⟩], paths := paths53, spec := fun args bs => match args with
  | [s, f] => match slN s 4 2, hp52s bs with
    | some q, some (la, n, m, k, ci, ch, co) => bif isF2 f 52 0 1 then
        some (pre51 q n k ci ch co, [SL (G + 4) (keptD (diesB (unI ci)) (unP ch)).length 2], res51 la n m ci (keptD (diesB (unI ci)) (unP ch)) (unI co ++ freeD (diesB (unI ci)) (unP ch))) else none
    | _, _ => none
  | _ => none }

theorem con51_ok : con51.ok Try.prog w0 := by
  intro args bs p rs out e hp
  simp only [con51] at e
  split at e <;> first | (simp at e; done) | skip
  split at e <;> first | (simp at e; done) | skip
  rename_i s f _ _ q la n m k ci ch co hs hb
  cases hq : isF2 f 52 0 1 with
  | false => rw [hq] at e; simp at e
  | true =>
    rw [hq] at e
    simp only [cond_true, Option.some.injEq, Prod.mk.injEq] at e
    obtain ⟨rfl, rfl, rfl⟩ := e
    rw [slN_eq hs, hp52s_eq hb, isF2_eq hq]
    obtain ⟨⟨h1, h2, h3, h4, h5, h6, h7, h8⟩, h9⟩ := hp
    rw [h1] at h2 ⊢
    rw [h6] at h7 ⊢
    rw [h3]
    rw [ints_len] at h2 h7
    generalize unI ci = ins at h2 ⊢
    generalize unI co = o at h7 ⊢
    generalize unP ch = l at h4 ⊢
    subst h2 h7 h4
    rw [unI_ints, unI_ints, unP_prs]
    refine con_body (f := 51) (fn := Try.f51) (cd := Try.f51.body.getD .skip) (nt := nr51) Try.func51 (by kernel_rfl) rfl ?_
    change Agm.Sem Try.prog w0 (Try.prog.globals.size + nt51.flags.length) _ _ _ _ _
    refine seg_sem2 (F := ft51) mixed ok51 (fun _ _ _ => canonT_sem) [5] 60 ((start51 la l.length ins.length m o.length (ints ins) (prs l) (ints o) _ _).mpr ?_)
    simp only [oD, iD, unI_ints, unP_prs]
    refine ⟨⟨⟨plain_ints _, plain_prs _, plain_ints _, trivial⟩, ⟨plain_ints _, plain_prs _, plain_ints _, trivial⟩, ⟨by rw [unI_ints], ints_len _, by rw [unP_prs], by rw [unP_prs], h5, by rw [unI_ints], ints_len _, h8⟩⟩, ?_⟩
    by_cases hi : idxD (diesB ins) l 0 = -1
    · have hb : (idxD (diesB ins) l 0 == -1) = true := by simp [hi]
      obtain ⟨k1, k2, k3⟩ := idxD_none (o := o) (by omega) hi
      rw [hb, cond_true, k2, k1, k3, prs_take, List.take_length, List.append_nil]
      exact ⟨⟨plain_ints _, plain_prs _, plain_ints _, trivial⟩, rfl, rfl⟩
    · have hb : (idxD (diesB ins) l 0 == -1) = false := by simp [hi]
      rw [hb, cond_false]
      refine ⟨⟨plain_ints _, plain_prs _, plain_ints _, trivial⟩, ?_⟩
      obtain ⟨k, k1, k2, k3, k4⟩ := idxD_some (l := l) (i := 0) (o := o) hi
      have k1' : idxD (diesB ins) l 0 = ((k : Nat) : Int) := by have := k1; simpa using this
      rw [k1']
      have hw : w ((k : Int) + 1) = ((k + 1 : Nat) : Int) := by rw [w_id (by omega) (by omega)]; omega
      rw [hw]
      refine loop51 la ins.length m l.length ins rfl h5 _ _ ?_ (l.length - (k + 1)) k (k + 1) l _ rfl (by omega) (by omega) k3 k4.symm
      have := List.length_filter_le (fun p : Int × Int => diesB ins p.2) l
      simp only [List.length_append, freeD, List.length_map]
      omega
end Go.Proofs.Ytdggbficiakbhaa
