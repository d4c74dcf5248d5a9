/- The law HoldAlone: it is true. No condition. -/
import Derived.Test.YtdggbficiakbhaaHoldV
namespace Go.Proofs.Ytdggbficiakbhaa
open Go.Agm
variable {w0 : World}

theorem ok7 : CallsOk Try.prog w0 (callsOf G cs7) := callsOf_ok fun c hc => by
  simp only [cs7, List.mem_cons, List.not_mem_nil, or_false] at hc
  rcases hc with rfl | rfl | rfl | rfl | rfl | rfl
  · exact con27_ok
  · exact con28_ok
  · exact con29_ok
  · exact con30_ok
  · exact con31_ok
  · exact con32_ok

abbrev yes : Post := fun rs _ => rs = [.bool true]
theorem leaf7_sem (t : List Item) (fr : List AV) (h : AHeap) (x : leaf7 (Agm.Sem Try.prog w0 (Try.prog.globals.size + 1) Try.f7 yes) (Agm.Sem Try.prog w0 (Try.prog.globals.size + 1) Try.f7 yes) t fr h) : Agm.Sem Try.prog w0 (Try.prog.globals.size + 1) Try.f7 yes t fr h := by
  unfold leaf7 at x
  split at x
  · exact canonT_sem (nt := nt7) x
  · exact canonT_sem (nt := nt7b) x
  · exact x.elim

theorem kept_all (l : List (Int × Int)) : keptD (diesB []) l = [] := by
  induction l with
  | nil => rfl
  | cons p r ih => rw [kept_pos rfl, ih]
theorem free_all (l : List (Int × Int)) : freeD (diesB []) l = l.map (·.1) := by
  induction l with
  | nil => rfl
  | cons p r ih => rw [free_pos rfl, ih]; rfl
theorem drop_fst (la : Int) (xs : List Int) : (dropD la xs).map (·.1) = xs := by simp [dropD, Function.comp_def]
theorem and7 (e : Int) : 0 ≤ and64 e 7 ∧ and64 e 7 ≤ 7 := by
  have h1 : (BitVec.ofInt 64 e &&& BitVec.ofInt 64 7).toNat ≤ 7 := by
    rw [BitVec.toNat_and]
    refine Nat.le_trans Nat.and_le_right ?_
    simp only [BitVec.toNat_ofInt]
    omega
  unfold and64
  rw [w_id (by omega) (by omega)]
  omega

theorem zlt : (([] : List (Int × Int)).length) < 1000000000 := by show 0 < 1000000000; omega
theorem end7_sem (xs l : List Int) (e : Int) (rw : Bool) (hx : xs.length ≤ 30) :
    Agm.Sem Try.prog w0 (Try.prog.globals.size + 1) Try.f7 yes todo7b (fr7b e xs.length) (heapB Try.prog.globals.size (hp7b (and64 e 7) 0 0 (ints l) [] [] (ints xs) rw)) := by
  refine seg_sem2 (F := ft7) (c := callsOf G cs7) (leaf := fun _ _ _ => False) mixed ok7 (fun _ _ _ h => h.elim) [] 60 ?_
  have hh := end7 e (and64 e 7) 0 0 xs.length (ints l) [] [] (ints xs) rw (fun rs => rs = [.bool true])
  rw [hh]
  have a7 := and7 e
  have e0 : unI [] = [] := rfl
  have e1 : unP [] = [] := rfl
  have e2 : k31 (and64 e 7) [] [] (ints xs) = [] := kept_all _
  have e3 : o31 (and64 e 7) [] [] (ints xs) = xs := by
    simp only [o31, all31, e0, e1, unI_ints, List.nil_append]
    rw [free_all, drop_fst]
  rw [e2, e3, unI_ints]
  have e4 : ((([] : List (Int × Int)).length : Int) == 0) = true := rfl
  have e5 : (w (and64 e 7 + 1) == w (1 + and64 e 7)) = true := by rw [Int.add_comm]; simp
  rw [beq_self_eq_true, e4, e5]
  have pn : pl [] := plain_nil
  have pp : pl (prs []) := plain_nil
  have px : pl (ints xs) := plain_ints _
  have hz : (0 : Nat) < 1000000000 := by omega
  have h30 : xs.length < 1000000000 := by omega
  have hH : preH 0 0 [] [] := ⟨rfl, rfl, hz, rfl, rfl, hz⟩
  have hD : preD xs.length 0 0 [] [] (ints xs) := ⟨hH, by rw [unI_ints], ints_len _, by omega⟩
  refine ⟨⟨⟨pn, pn, px, trivial⟩, ⟨pn, px, pp, px, trivial⟩, hD⟩, ⟨⟨px, px, trivial⟩, ⟨px, px, trivial⟩, rfl, ints_len _, rfl, ints_len _, h30⟩, ?_⟩
  exact ⟨⟨⟨pn, pp, trivial⟩, ⟨pn, pp, plain_nil, trivial⟩, pn, rfl, rfl, hz⟩, ⟨⟨pn, pp, trivial⟩, ⟨pp, plain_ints _, trivial⟩, hH⟩, rfl⟩

theorem loop7 (l : List Int) (e : Int) (rw : Bool) : ∀ (k i : Nat), (i : Int) + k = and64 e 7 →
    Agm.Sem Try.prog w0 (Try.prog.globals.size + 1) Try.f7 yes todo7 (fr7 l.length e i) (heapB Try.prog.globals.size (hp7 i 0 0 (ints l) [] [] rw)) := by
  have pn : pl [] := plain_nil
  have pp : pl (prs []) := plain_nil
  have pr : plr (ints l) rw := plain_ints l
  have a7 := and7 e
  intro k
  induction k with
  | zero =>
    intro i hi
    refine seg_sem2 (F := ft7) (c := callsOf G cs7) mixed ok7 leaf7_sem [5, 9] 60 ?_
    have hh := head7 l.length e i i 0 0 (ints l) [] [] rw yes (Agm.Sem Try.prog w0 (Try.prog.globals.size + 1) Try.f7 yes) (Agm.Sem Try.prog w0 (Try.prog.globals.size + 1) Try.f7 yes)
    rw [hh]
    have h1 : ¬ ((i : Int) < and64 e 7) := by omega
    have h2 : (0 : Int) ≤ lo (l.length : Int) 30 := by unfold lo; split <;> omega
    have h3 : lo (l.length : Int) 30 ≤ (l.length : Int) := by unfold lo; split <;> omega
    have h4 : (lo (l.length : Int) 30).toNat ≤ 30 := by unfold lo; split <;> omega
    have h4' : (lo (l.length : Int) 30).toNat ≤ l.length := by omega
    have hi' : and64 e 7 = (i : Int) := by omega
    simp only [h1, h2, h3, decide_false, decide_true, cond_false, cond_true, Bool.and_self, Nat.sub_zero]
    obtain ⟨c, hc⟩ : ∃ c, c = (lo (l.length : Int) 30).toNat := ⟨_, rfl⟩
    rw [← hc] at h4 h4' ⊢
    have hE := end7_sem (w0 := w0) (l.take c) l e rw (by rw [List.length_take]; omega)
    rw [hi'] at hE
    have hlen : (l.take c).length = c := by rw [List.length_take]; omega
    rw [hlen] at hE
    cases hb : Nat.beq c 0 with
    | true =>
      have := Nat.eq_of_beq_eq_true hb
      subst this
      exact ⟨⟨pr, pn, pn, pn, trivial⟩, hE⟩
    | false =>
      have h5 : Nat.ble (0 + 0 * 1 + c * 1) (ints l).length = true := Nat.ble_eq_true_of_le (by rw [ints_len]; omega)
      have h6 : room c 8 = true := Nat.ble_eq_true_of_le (by omega)
      have h7 : ((ints l).drop (0 + 0 * 1)).take (c * 1) = ints (l.take c) := by rw [Nat.mul_one, Nat.zero_mul, Nat.add_zero, List.drop_zero, ints_take]
      rw [h5, h6, h7]
      exact ⟨⟨pr, pn, pn, plain_ints _, trivial⟩, hE⟩
  | succ k ih =>
    intro i hi
    refine seg_sem2 (F := ft7) (c := callsOf G cs7) mixed ok7 leaf7_sem [5, 9] 60 ?_
    have hh := head7 l.length e i i 0 0 (ints l) [] [] rw yes (Agm.Sem Try.prog w0 (Try.prog.globals.size + 1) Try.f7 yes) (Agm.Sem Try.prog w0 (Try.prog.globals.size + 1) Try.f7 yes)
    rw [hh]
    have h1 : (i : Int) < and64 e 7 := by omega
    have hw : w ((i : Int) + 1) = ((i + 1 : Nat) : Int) := by rw [w_id (by omega) (by omega)]; omega
    have e1 : insE (i : Int) [] = [((i + 1 : Nat) : Int)] := by simp only [insE]; rw [hw]; rfl
    have e2 : insL (w ((i : Int) + 1)) (ints (insE (i : Int) [])) = [] := by
      simp only [insL, unI_ints]; rw [e1, hw]; simp [gone]
    have e3 : kL (w ((i : Int) + 1)) (ints (insE (i : Int) [])) [] = [] := rfl
    have e4 : oL (w ((i : Int) + 1)) (ints (insE (i : Int) [])) [] = [] := rfl
    rw [e2, e3, e4, hw]
    simp only [h1, decide_true, cond_true]
    refine ⟨⟨⟨pn, pn, trivial⟩, ⟨pn, plain_ints _, trivial⟩, ⟨rfl, rfl, by omega, rfl, rfl, by omega⟩⟩, ⟨⟨plain_ints _, pn, trivial⟩, ⟨pn, pp, pn, trivial⟩, ⟨by rw [unI_ints], by rw [ints_len, e1]; rfl, by omega, rfl, rfl, by omega⟩⟩, ⟨pr, pn, pp, trivial⟩, ih (i + 1) (by omega)⟩

theorem alone_true (l : List Int) (e : Int) (rw : Bool) : CallS Try.prog w0 7 [SL G l.length 1, I e] (heapB Try.prog.globals.size [some (.cells (ints l) rw)]) yes := by
  have hn : (heapB Try.prog.globals.size [some (.cells (ints l) rw)]).next = Try.prog.globals.size + 1 := by rw [heapB_next]; rfl
  refine call_sem (fn := Try.f7) (cd := Try.f7.body.getD .skip) Try.func7 (by kernel_rfl) ?_
  rw [hn]
  refine seg_sem2 (F := ft7) (c := callsOf G cs7) mixed ok7 leaf7_sem [5, 9] 60 ?_
  have hh := start7 l.length e (ints l) rw yes (Agm.Sem Try.prog w0 (Try.prog.globals.size + 1) Try.f7 yes) (Agm.Sem Try.prog w0 (Try.prog.globals.size + 1) Try.f7 yes)
  rw [hh]
  have a7 := and7 e
  exact ⟨⟨trivial, trivial, trivial⟩, ⟨plain_ints l, plain_nil, plain_nil, trivial⟩, loop7 l e rw (and64 e 7).toNat 0 (by omega)⟩
end Go.Proofs.Ytdggbficiakbhaa
