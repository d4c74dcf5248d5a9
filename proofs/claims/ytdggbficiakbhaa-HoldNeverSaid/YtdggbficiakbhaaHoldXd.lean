/- The law HoldAlone: step by step. No condition. -/
import Derived.Test.YtdggbficiakbhaaHoldXc
namespace Go.Proofs.Ytdggbficiakbhaa
open Go.Agm
variable {w0 : World}

abbrev and64 (x y : Int) : Int := w (BitVec.ofInt 64 x &&& BitVec.ofInt 64 y).toNat
def lo (a b : Int) : Int := if b < a then b else a
noncomputable def cs7 : List Con := [con27, con28, con29, con30, con31, con32]
def ft7 : FT := { loc := fun _ => false, mask := fun id => bif Nat.beq id 5 then live 41 [0, 1, 5, 6] else bif Nat.beq id 9 then live 41 [1, 5, 7] else [] }
abbrev nt7 : Nt := { gh := [⟨5, some ([], 1), 1⟩, ⟨5, some ([], 2), 2⟩], flags := [true], paths := [⟨5, [], false⟩, ⟨5, [1], true⟩, ⟨5, [2], true⟩], tr := [] }
abbrev nt7b : Nt := { gh := [⟨7, none, 1⟩], flags := [true], paths := [⟨5, [], false⟩, ⟨5, [1], true⟩, ⟨5, [2], true⟩, ⟨7, [], true⟩], tr := [] }
/-- The law's heap: the row, the holds. -/
noncomputable def hp7 (la : Int) (n m : Nat) (cl ci ch : List Value) (rw : Bool) : List (Option ABlk) :=
  [some (.cells cl rw), some (.cells [I la, SL (G + 2) n 1, SL (G + 3) m 2] true), some (.cells ci true), some (.cells ch true)]
noncomputable def hp7b (la : Int) (n m : Nat) (cl ci ch ct : List Value) (rw : Bool) : List (Option ABlk) :=
  [some (.cells cl rw), some (.cells [I la, SL (G + 2) n 1, SL (G + 3) m 2] true), some (.cells ci true), some (.cells ch true), some (.cells ct true)]
noncomputable def fr7 (q : Nat) (e i : Int) : List AV := frm 41 [(0, .v (SL G q 1)), (1, .v (I e)), (5, .v (PT (G + 1))), (6, .v (I i))]
noncomputable def fr7b (e : Int) (k : Nat) : List AV := frm 41 [(1, .v (I e)), (5, .v (PT (G + 1))), (7, .v (SL (G + 4) k 1))]
noncomputable def todo7 : List Item := segK2 Try.prog ft7 { fail := [], ret := fun _ _ => [], call := fun _ _ h k => k [.bool true] h } Try.f7 [5] 60 [.code (Try.f7.body.getD .skip)] (startF Try.f7 [SL G 0 1, I 0]) (fun t _ _ => t) (heapB G [some (.cells [] true)])
noncomputable def todo7b : List Item := segK2 Try.prog ft7 { fail := [], ret := fun _ _ => [], call := fun _ _ h k => k [.bool true] h } Try.f7 [9] 60 todo7 (fr7 0 0 0) (fun t _ _ => t) (heapB G (hp7 0 0 0 [] [] [] true))

abbrev leaf7 (L1 L2 : List Item → List AV → AHeap → Prop) : List Item → List AV → AHeap → Prop := fun t fr h => match t with
  | .code (.region 5 _ _) :: _ => canonT G nt7 (L1 t) fr h
  | .code (.region 9 _ _) :: _ => canonT G nt7b (L2 t) fr h
  | _ => False

theorem start7 (q : Nat) (e : Int) (cl : List Value) (rw : Bool) (Q : Post) (L1 L2 : List Item → List AV → AHeap → Prop) :
    segK2 Try.prog ft7 (semM (callsOf G cs7) Q) Try.f7 [5, 9] 60 [.code (Try.f7.body.getD .skip)] (startF Try.f7 [SL G q 1, I e]) (leaf7 L1 L2) (heapB G [some (.cells cl rw)])
    = ((True ∧ True ∧ True) ∧ (plr cl rw ∧ pl [] ∧ pl [] ∧ True) ∧ L1 todo7 (fr7 q e 0) (heapB G (hp7 0 0 0 cl [] [] rw))) := by kernel_rfl

abbrev insE (la : Int) (ci : List Value) : List Int := unI ci ++ [w (la + 1)]
abbrev insL (t : Int) (ci : List Value) : List Int := gone t (unI ci)
abbrev kL (t : Int) (ci ch : List Value) : List (Int × Int) := keptD (diesB (insL t ci)) (unP ch)
abbrev oL (t : Int) (ci ch : List Value) : List Int := freeD (diesB (insL t ci)) (unP ch)
theorem head7 (q : Nat) (e i la : Int) (n m : Nat) (cl ci ch : List Value) (rw : Bool) (Q : Post) (L1 L2 : List Item → List AV → AHeap → Prop) :
    segK2 Try.prog ft7 (semM (callsOf G cs7) Q) Try.f7 [5, 9] 60 todo7 (fr7 q e i) (leaf7 L1 L2) (heapB G (hp7 la n m cl ci ch rw))
    = (bif decide (i < and64 e 7) then
        (((pl ci ∧ pl ch ∧ True) ∧ (pl ch ∧ pl (ints (insE la ci)) ∧ True) ∧ preH n m ci ch) ∧
         ((pl (ints (insE la ci)) ∧ pl ch ∧ True) ∧ (pl (ints (insL (w (la + 1)) (ints (insE la ci)))) ∧ pl (prs (kL (w (la + 1)) (ints (insE la ci)) ch)) ∧ pl (ints (oL (w (la + 1)) (ints (insE la ci)) ch)) ∧ True) ∧ preH (n + 1) m (ints (insE la ci)) ch) ∧
         (plr cl rw ∧ pl (ints (insL (w (la + 1)) (ints (insE la ci)))) ∧ pl (prs (kL (w (la + 1)) (ints (insE la ci)) ch)) ∧ True) ∧
         L1 todo7 (fr7 q e (w (i + 1))) (heapB G (hp7 (w (la + 1)) (insL (w (la + 1)) (ints (insE la ci))).length (kL (w (la + 1)) (ints (insE la ci)) ch).length cl (ints (insL (w (la + 1)) (ints (insE la ci)))) (prs (kL (w (la + 1)) (ints (insE la ci)) ch)) rw)))
       else bif decide (0 ≤ lo q 30) && decide (lo q 30 ≤ q) then
         (bif Nat.beq ((lo q 30).toNat - 0) 0 then ((plr cl rw ∧ pl ci ∧ pl ch ∧ pl [] ∧ True) ∧ L2 todo7b (fr7b e 0) (heapB G (hp7b la n m cl ci ch [] rw)))
          else bif Nat.ble (0 + 0 * 1 + ((lo q 30).toNat - 0) * 1) cl.length then bif room ((lo q 30).toNat - 0) 8 then
            ((plr cl rw ∧ pl ci ∧ pl ch ∧ pl ((cl.drop (0 + 0 * 1)).take (((lo q 30).toNat - 0) * 1)) ∧ True) ∧ L2 todo7b (fr7b e ((lo q 30).toNat - 0)) (heapB G (hp7b la n m cl ci ch ((cl.drop (0 + 0 * 1)).take (((lo q 30).toNat - 0) * 1)) rw)))
            else False else False)
        else False) := by kernel_rfl
abbrev k31 (la : Int) (ci ch ct : List Value) : List (Int × Int) := keptD (diesB (unI ci)) (all31 la ch ct)
abbrev o31 (la : Int) (ci ch ct : List Value) : List Int := freeD (diesB (unI ci)) (all31 la ch ct)
theorem end7 (e la : Int) (n m k : Nat) (cl ci ch ct : List Value) (rw : Bool) (K : List Value → Prop) :
    segK2 Try.prog ft7 (semM (callsOf G cs7) (fun rs _ => K rs)) Try.f7 [] 60 todo7b (fr7b e k) (fun _ _ _ => False) (heapB G (hp7b la n m cl ci ch ct rw))
    = (((pl ci ∧ pl ch ∧ pl ct ∧ True) ∧ (pl ci ∧ pl ct ∧ pl (prs (k31 la ci ch ct)) ∧ pl (ints (o31 la ci ch ct)) ∧ True) ∧ preD k n m ci ch ct) ∧
       ((pl (ints (o31 la ci ch ct)) ∧ pl ct ∧ True) ∧ (pl (ints (o31 la ci ch ct)) ∧ pl ct ∧ True) ∧ (ints (o31 la ci ch ct) = ints (unI (ints (o31 la ci ch ct))) ∧ (ints (o31 la ci ch ct)).length = (o31 la ci ch ct).length ∧ ct = ints (unI ct) ∧ ct.length = k ∧ k < 1000000000)) ∧
       bif (unI (ints (o31 la ci ch ct)) == unI ct) then
         (((pl ci ∧ pl (prs (k31 la ci ch ct)) ∧ True) ∧ (pl ci ∧ pl (prs (k31 la ci ch ct)) ∧ pl (ints ((unP (prs (k31 la ci ch ct))).map (·.1))) ∧ True) ∧ (PlainL ci ∧ prs (k31 la ci ch ct) = prs (unP (prs (k31 la ci ch ct))) ∧ (unP (prs (k31 la ci ch ct))).length = (k31 la ci ch ct).length ∧ (k31 la ci ch ct).length < 1000000000)) ∧
          bif (((k31 la ci ch ct).length : Int) == 0) then
            (((pl ci ∧ pl (prs (k31 la ci ch ct)) ∧ True) ∧ (pl (prs (k31 la ci ch ct)) ∧ pl (ints (insE la ci)) ∧ True) ∧ preH n (k31 la ci ch ct).length ci (prs (k31 la ci ch ct))) ∧ K [.bool (w (la + 1) == w (1 + and64 e 7))])
          else K [.bool false])
       else K [.bool false]) := by kernel_rfl

theorem ok7 : CallsOk Try.prog w0 (callsOf G cs7) := callsOf_ok fun c hc => by
  simp only [cs7, List.mem_cons, List.not_mem_nil, or_false] at hc
  rcases hc with rfl | rfl | rfl | rfl | rfl | rfl
  · exact con27_ok
  · exact con28_ok
  · exact con29_ok
  · exact con30_ok
  · exact con31_ok
  · exact con32_ok

abbrev yes : Post := fun rs _ => rs = [.bool true]
theorem leaf7_sem (t : List Item) (fr : List AV) (h : AHeap) (x : leaf7 (Agm.Sem Try.prog w0 (Try.prog.globals.size + 1) Try.f7 yes) (Agm.Sem Try.prog w0 (Try.prog.globals.size + 1) Try.f7 yes) t fr h) : Agm.Sem Try.prog w0 (Try.prog.globals.size + 1) Try.f7 yes t fr h := by
  unfold leaf7 at x
  split at x
  · exact canonT_sem (nt := nt7) x
  · exact canonT_sem (nt := nt7b) x
  · exact x.elim

theorem kept_all (l : List (Int × Int)) : keptD (diesB []) l = [] := by
  induction l with
  | nil => rfl
  | cons p r ih => rw [kept_pos rfl, ih]
theorem free_all (l : List (Int × Int)) : freeD (diesB []) l = l.map (·.1) := by
  induction l with
  | nil => rfl
  | cons p r ih => rw [free_pos rfl, ih]; rfl
theorem drop_fst (la : Int) (xs : List Int) : (dropD la xs).map (·.1) = xs := by simp [dropD, Function.comp_def]
theorem and7 (e : Int) : 0 ≤ and64 e 7 ∧ and64 e 7 ≤ 7 := by
  have h1 : (BitVec.ofInt 64 e &&& BitVec.ofInt 64 7).toNat ≤ 7 := by
    rw [BitVec.toNat_and]
    refine Nat.le_trans Nat.and_le_right ?_
    simp only [BitVec.toNat_ofInt]
    omega
  unfold and64
  rw [w_id (by omega) (by omega)]
  omega

theorem zlt : (([] : List (Int × Int)).length) < 1000000000 := by show 0 < 1000000000; omega
theorem end7_sem (xs l : List Int) (e : Int) (rw : Bool) (hx : xs.length ≤ 30) :
    Agm.Sem Try.prog w0 (Try.prog.globals.size + 1) Try.f7 yes todo7b (fr7b e xs.length) (heapB Try.prog.globals.size (hp7b (and64 e 7) 0 0 (ints l) [] [] (ints xs) rw)) := by
  refine seg_sem2 (F := ft7) (c := callsOf G cs7) (leaf := fun _ _ _ => False) mixed ok7 (fun _ _ _ h => h.elim) [] 60 ?_
  have hh := end7 e (and64 e 7) 0 0 xs.length (ints l) [] [] (ints xs) rw (fun rs => rs = [.bool true])
  rw [hh]
  have a7 := and7 e
  have e0 : unI [] = [] := rfl
  have e1 : unP [] = [] := rfl
  have e2 : k31 (and64 e 7) [] [] (ints xs) = [] := kept_all _
  have e3 : o31 (and64 e 7) [] [] (ints xs) = xs := by
    simp only [o31, all31, e0, e1, unI_ints, List.nil_append]
    rw [free_all, drop_fst]
  rw [e2, e3, unI_ints]
  have e4 : ((([] : List (Int × Int)).length : Int) == 0) = true := rfl
  have e5 : (w (and64 e 7 + 1) == w (1 + and64 e 7)) = true := by rw [Int.add_comm]; simp
  rw [beq_self_eq_true, e4, e5]
  have pn : pl [] := plain_nil
  have pp : pl (prs []) := plain_nil
  have px : pl (ints xs) := plain_ints _
  have hz : (0 : Nat) < 1000000000 := by omega
  have h30 : xs.length < 1000000000 := by omega
  have hH : preH 0 0 [] [] := ⟨rfl, rfl, hz, rfl, rfl, hz⟩
  have hD : preD xs.length 0 0 [] [] (ints xs) := ⟨hH, by rw [unI_ints], ints_len _, by omega⟩
  refine ⟨⟨⟨pn, pn, px, trivial⟩, ⟨pn, px, pp, px, trivial⟩, hD⟩, ⟨⟨px, px, trivial⟩, ⟨px, px, trivial⟩, rfl, ints_len _, rfl, ints_len _, h30⟩, ?_⟩
  exact ⟨⟨⟨pn, pp, trivial⟩, ⟨pn, pp, plain_nil, trivial⟩, pn, rfl, rfl, hz⟩, ⟨⟨pn, pp, trivial⟩, ⟨pp, plain_ints _, trivial⟩, hH⟩, rfl⟩

theorem loop7 (l : List Int) (e : Int) (rw : Bool) : ∀ (k i : Nat), (i : Int) + k = and64 e 7 →
    Agm.Sem Try.prog w0 (Try.prog.globals.size + 1) Try.f7 yes todo7 (fr7 l.length e i) (heapB Try.prog.globals.size (hp7 i 0 0 (ints l) [] [] rw)) := by
  have pn : pl [] := plain_nil
  have pp : pl (prs []) := plain_nil
  have pr : plr (ints l) rw := plain_ints l
  have a7 := and7 e
  intro k
  induction k with
  | zero =>
    intro i hi
    refine seg_sem2 (F := ft7) (c := callsOf G cs7) mixed ok7 leaf7_sem [5, 9] 60 ?_
    have hh := head7 l.length e i i 0 0 (ints l) [] [] rw yes (Agm.Sem Try.prog w0 (Try.prog.globals.size + 1) Try.f7 yes) (Agm.Sem Try.prog w0 (Try.prog.globals.size + 1) Try.f7 yes)
    rw [hh]
    have h1 : ¬ ((i : Int) < and64 e 7) := by omega
    have h2 : (0 : Int) ≤ lo (l.length : Int) 30 := by unfold lo; split <;> omega
    have h3 : lo (l.length : Int) 30 ≤ (l.length : Int) := by unfold lo; split <;> omega
    have h4 : (lo (l.length : Int) 30).toNat ≤ 30 := by unfold lo; split <;> omega
    have h4' : (lo (l.length : Int) 30).toNat ≤ l.length := by omega
    have hi' : and64 e 7 = (i : Int) := by omega
    simp only [h1, h2, h3, decide_false, decide_true, cond_false, cond_true, Bool.and_self, Nat.sub_zero]
    obtain ⟨c, hc⟩ : ∃ c, c = (lo (l.length : Int) 30).toNat := ⟨_, rfl⟩
    rw [← hc] at h4 h4' ⊢
    have hE := end7_sem (w0 := w0) (l.take c) l e rw (by rw [List.length_take]; omega)
    rw [hi'] at hE
    have hlen : (l.take c).length = c := by rw [List.length_take]; omega
    rw [hlen] at hE
    cases hb : Nat.beq c 0 with
    | true =>
      have := Nat.eq_of_beq_eq_true hb
      subst this
      exact ⟨⟨pr, pn, pn, pn, trivial⟩, hE⟩
    | false =>
      have h5 : Nat.ble (0 + 0 * 1 + c * 1) (ints l).length = true := Nat.ble_eq_true_of_le (by rw [ints_len]; omega)
      have h6 : room c 8 = true := Nat.ble_eq_true_of_le (by omega)
      have h7 : ((ints l).drop (0 + 0 * 1)).take (c * 1) = ints (l.take c) := by rw [Nat.mul_one, Nat.zero_mul, Nat.add_zero, List.drop_zero, ints_take]
      rw [h5, h6, h7]
      exact ⟨⟨pr, pn, pn, plain_ints _, trivial⟩, hE⟩
  | succ k ih =>
    intro i hi
    refine seg_sem2 (F := ft7) (c := callsOf G cs7) mixed ok7 leaf7_sem [5, 9] 60 ?_
    have hh := head7 l.length e i i 0 0 (ints l) [] [] rw yes (Agm.Sem Try.prog w0 (Try.prog.globals.size + 1) Try.f7 yes) (Agm.Sem Try.prog w0 (Try.prog.globals.size + 1) Try.f7 yes)
    rw [hh]
    have h1 : (i : Int) < and64 e 7 := by omega
    have hw : w ((i : Int) + 1) = ((i + 1 : Nat) : Int) := by rw [w_id (by omega) (by omega)]; omega
    have e1 : insE (i : Int) [] = [((i + 1 : Nat) : Int)] := by simp only [insE]; rw [hw]; rfl
    have e2 : insL (w ((i : Int) + 1)) (ints (insE (i : Int) [])) = [] := by
      simp only [insL, unI_ints]; rw [e1, hw]; simp [gone]
    have e3 : kL (w ((i : Int) + 1)) (ints (insE (i : Int) [])) [] = [] := rfl
    have e4 : oL (w ((i : Int) + 1)) (ints (insE (i : Int) [])) [] = [] := rfl
    rw [e2, e3, e4, hw]
    simp only [h1, decide_true, cond_true]
    refine ⟨⟨⟨pn, pn, trivial⟩, ⟨pn, plain_ints _, trivial⟩, ⟨rfl, rfl, by omega, rfl, rfl, by omega⟩⟩, ⟨⟨plain_ints _, pn, trivial⟩, ⟨pn, pp, pn, trivial⟩, ⟨by rw [unI_ints], by rw [ints_len, e1]; rfl, by omega, rfl, rfl, by omega⟩⟩, ⟨pr, pn, pp, trivial⟩, ih (i + 1) (by omega)⟩

theorem alone_true (l : List Int) (e : Int) (rw : Bool) : CallS Try.prog w0 7 [SL G l.length 1, I e] (heapB Try.prog.globals.size [some (.cells (ints l) rw)]) yes := by
  have hn : (heapB Try.prog.globals.size [some (.cells (ints l) rw)]).next = Try.prog.globals.size + 1 := by rw [heapB_next]; rfl
  refine call_sem (fn := Try.f7) (cd := Try.f7.body.getD .skip) Try.func7 (by kernel_rfl) ?_
  rw [hn]
  refine seg_sem2 (F := ft7) (c := callsOf G cs7) mixed ok7 leaf7_sem [5, 9] 60 ?_
  have hh := start7 l.length e (ints l) rw yes (Agm.Sem Try.prog w0 (Try.prog.globals.size + 1) Try.f7 yes) (Agm.Sem Try.prog w0 (Try.prog.globals.size + 1) Try.f7 yes)
  rw [hh]
  have a7 := and7 e
  exact ⟨⟨trivial, trivial, trivial⟩, ⟨plain_ints l, plain_nil, plain_nil, trivial⟩, loop7 l e rw (and64 e 7).toNat 0 (by omega)⟩
end Go.Proofs.Ytdggbficiakbhaa
