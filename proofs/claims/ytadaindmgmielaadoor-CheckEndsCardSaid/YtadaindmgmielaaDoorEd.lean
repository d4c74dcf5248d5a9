/- The law's two lists; no error's number. No condition. -/
import Derived.Test.YtadaindmgmielaaDoorEc
import Derived.Test.YtadaindmgmielaaDoorKc
import Derived.ProofKit
import Derived.HandedShaped
import Derived.LaidLaws
import Derived.LaidHandle
import Derived.JoinedOf
import Derived.Stop.Joined
namespace Go.Proofs.YtadaindmgmielaaDoor
open Go.Agm
variable {w0 : World}
noncomputable def ft8 : FT := { loc := fun _ => false, mask := fun id => bif Nat.beq id 4 then live 33 [0, 4, 5, 6] else [] }
noncomputable def todo8 : List Item := todoOf Tryd.f8 4
abbrev nt8 : Nt := { gh := [⟨4, none, 4⟩, ⟨5, none, 4⟩], flags := [true], paths := [⟨4, [], true⟩, ⟨5, [], true⟩], tr := [(4, []), (5, [])] }
abbrev ntO8 : Nt := { gh := [⟨0, none, 4⟩, ⟨1, none, 4⟩], flags := [true], paths := [⟨0, [], true⟩, ⟨1, [], true⟩], tr := [(0, []), (1, [])] }
noncomputable def fr8 (n k1 k2 : Nat) (i : Int) : List AV := frm 33 [(0, .v (SL G n 4)), (4, .v (SL (G + 1) k1 4)), (5, .v (SL (G + 2) k2 4)), (6, .v (I i))]
abbrev seg8 (K : List Value → AHeap → Prop) (L : List Item → List AV → AHeap → Prop) (t : List Item) (fr : List AV) (h : AHeap) : Prop :=
  segK3 Tryd.prog ft8 (semI Tryd.prog (fun _ => ft0) (callsOf G []) 400 20 (retT G ntO8 K)) Tryd.f8 [4] 400 t fr (fun t fr h => match t with
  | .code (.region 4 _ _) :: _ => canonT G nt8 (L t) fr h
  | _ => False) h
section
variable (n k1 k2 : Nat) (i : Int) (rw : Bool) (cl c1 c2 : List Value) (K : List Value → AHeap → Prop) (L : List Item → List AV → AHeap → Prop)
theorem start8 : seg8 K L [.code (Tryd.f8.body.getD .skip)] (startF Tryd.f8 [SL G n 4]) (heapB G [some (.cells cl rw)])
    = ((PlainL cl ∧ PlainL [] ∧ PlainL [] ∧ True) ∧ L todo8 (fr8 n 0 0 0) (heapB G [some (.cells cl rw), some (.cells [] true), some (.cells [] true)])) := by kernel_rfl
abbrev okX8 (cl : List Value) (i : Int) : Bool := (0 + i.toNat * 4 + 4).ble cl.length && (ox cl i 0 && (ox cl i 1 && (ox cl i 2 && (ox cl i 3 && true))))
abbrev agX8 (cl : List Value) (i : Int) : Value := AG [I (ix cl i 0), I (ix cl i 1), I (ix cl i 2), I (ix cl i 3)]
abbrev veX8 (cl : List Value) (i : Int) : Bool := okX8 cl i && veq 4 (agX8 cl i) (agX8 cl i) && true
abbrev apX8 (k : Nat) (c : List Value) (cl : List Value) (i : Int) : List Value := List.take ((k + 1) * 4) (List.take (k * 4) (List.drop 0 c) ++ [I (ix cl i 0), I (ix cl i 1), I (ix cl i 2), I (ix cl i 3)])
abbrev nx8 (n k1 k2 : Nat) (i : Int) (rw : Bool) (cl c1 c2 : List Value) (L : List Item → List AV → AHeap → Prop) : Prop :=
  (PlainL cl ∧ PlainL (apX8 k1 c1 cl i) ∧ PlainL (apX8 k2 c2 cl i) ∧ True) ∧ L todo8 (fr8 n (k1 + 1) (k2 + 1) (w (i + 1))) (heapB G [some (.cells cl rw), some (.cells (apX8 k1 c1 cl i) true), some (.cells (apX8 k2 c2 cl i) true)])
abbrev en8 (k1 k2 : Nat) (rw : Bool) (cl c1 c2 : List Value) (K : List Value → AHeap → Prop) : Prop :=
  (PlainL cl ∧ PlainL (List.take (k1 * 4) c1) ∧ PlainL (List.take (k2 * 4) c2) ∧ True) ∧ K [SL (G + 1) k1 4, SL (G + 2) k2 4] (heapB G [some (.cells cl rw), some (.cells (List.take (k1 * 4) c1) true), some (.cells (List.take (k2 * 4) c2) true)])
theorem head8 : seg8 K L todo8 (fr8 n k1 k2 i) (heapB G [some (.cells cl rw), some (.cells c1 true), some (.cells c2 true)])
    = (bif decide (i < (n : Int)) then bif decide (i < 130) then
        (bif decide (0 ≤ i) && decide (i < (n : Int)) then bif okX8 cl i then bif decide (0 ≤ i) && decide (i < (n : Int)) then bif okX8 cl i then bif veX8 cl i then bif room (k1 + 1) 32 then bif (0 + k1 * 4).ble c1.length then bif veX8 cl i then bif room (k2 + 1) 32 then bif (0 + k2 * 4).ble c2.length then
          nx8 n k1 k2 i rw cl c1 c2 L else False else False else False else False else False else False else False else False else False else False) ∧
        (bif decide (0 ≤ i) && decide (i < (n : Int)) then bif okX8 cl i then bif decide (0 ≤ i) && decide (i < (n : Int)) then bif okX8 cl i then bif veX8 cl i then bif room (k1 + 1) 32 then bif (0 + k1 * 4).ble c1.length then bif room (k2 + 1) 32 then bif (0 + k2 * 4).ble c2.length then
          nx8 n k1 k2 i rw cl c1 c2 L else False else False else False else False else False else False else False else False else False) ∧
        (bif decide (0 ≤ i) && decide (i < (n : Int)) then bif okX8 cl i then bif decide (0 ≤ i) && decide (i < (n : Int)) then bif okX8 cl i then bif veX8 cl i then bif room (k1 + 1) 32 then bif (0 + k1 * 4).ble c1.length then bif room (k2 + 1) 32 then bif (0 + k2 * 4).ble c2.length then
          nx8 n k1 k2 i rw cl c1 c2 L else False else False else False else False else False else False else False else False else False)
      else en8 k1 k2 rw cl c1 c2 K else en8 k1 k2 rw cl c1 c2 K) := by kernel_rfl
end
theorem insC_app : ∀ (l r : List Ins), insC (l ++ r) = insC l ++ insC r
  | [], r => rfl
  | x :: l, r => by
    have := insC_app l r
    simp only [insC, List.cons_append] at this ⊢
    simp [this]
abbrev Sem8 (w0 : World) (K : List Value → AHeap → Prop) (t : List Item) (fr : List AV) (h : AHeap) : Prop := Agm.Sem Tryd.prog w0 (Tryd.prog.globals.size + nt8.flags.length) Tryd.f8 (retT G ntO8 K) t fr h
theorem leaf8 {K : List Value → AHeap → Prop} : ∀ t fr h, (match t with
    | .code (.region 4 _ _) :: _ => canonT G nt8 (Sem8 w0 K t) fr h
    | _ => False) → Sem8 w0 K t fr h := by
  intro t fr h e
  split at e
  · exact canonT_semN (nt := nt8) rfl e
  · exact e.elim
set_option maxRecDepth 100000 in
theorem loop8 {K : List Value → AHeap → Prop} {rw : Bool} {l : List Ins} {m : Nat} (hm : m ≤ l.length) (hK : K [SL (G + 1) (l.take (min m 130)).length 4, SL (G + 2) (l.take (min m 130)).length 4] (heapB G [some (.cells (insC l) rw), some (.cells (insC (l.take (min m 130))) true), some (.cells (insC (l.take (min m 130))) true)])) :
    ∀ (f i : Nat), 130 - i < f → i ≤ 130 → i ≤ m → Sem8 w0 K todo8 (fr8 m i i i) (heapB G [some (.cells (insC l) rw), some (.cells (insC (l.take i)) true), some (.cells (insC (l.take i)) true)]) := by
  intro f
  induction f with
  | zero => intro i h; omega
  | succ f ih =>
    intro i h1 h2 h3
    refine seg_semI3 (F := ft8) mixed (callsOf_ok ok_none) leaf8 [4] 20 400 ((head8 m i i i rw (insC l) (insC (l.take i)) (insC (l.take i)) K _).mpr ?_)
    have hti : (l.take i).length = i := by rw [List.length_take]; omega
    have hlen : (insC (l.take i)).length = i * 4 := by rw [insC_len, hti]
    have hall : List.take (i * 4) (insC (l.take i)) = insC (l.take i) := List.take_of_length_le (by omega)
    have fin : i = m ∨ i = 130 → en8 i i rw (insC l) (insC (l.take i)) (insC (l.take i)) K := by
      intro h
      have e : min m 130 = i := by omega
      rw [e, hti] at hK
      unfold en8
      rw [hall]
      exact ⟨⟨plain_insC _, plain_insC _, plain_insC _, trivial⟩, hK⟩
    refine bifP (fun c1 => ?_) (fun c1 => ?_)
    · refine bifP (fun c2 => ?_) (fun c2 => ?_)
      · simp only [decide_eq_true_eq] at c1 c2
        have him : i < m := by omega
        have hi : i < l.length := by omega
        obtain ⟨e1, ⟨e2, e3, e4, e5⟩, e6, e7, e8, e9⟩ := at_insC hi
        have hr : room (i + 1) 32 = true := Nat.ble_eq_true_of_le (by omega)
        have hb : (0 + i * 4).ble (insC (l.take i)).length = true := Nat.ble_eq_true_of_le (by omega)
        have hw : w ((i : Int) + 1) = ((i + 1 : Nat) : Int) := by rw [w_id (by omega) (by omega)]; omega
        have hx : okX8 (insC l) (i : Int) = true := by unfold okX8; rw [e1, e2, e3, e4, e5]; rfl
        have hv : veX8 (insC l) (i : Int) = true := by
          unfold veX8
          rw [hx]
          simp [veq, veq.go]
        have ha : apX8 i (insC (l.take i)) (insC l) (i : Int) = insC (l.take (i + 1)) := by
          unfold apX8
          rw [e6, e7, e8, e9, List.drop_zero, hall, List.take_of_length_le (by rw [List.length_append, hlen]; simp; omega), List.take_succ_eq_append_getElem hi, insC_app]; rfl
        have nx : nx8 m i i i rw (insC l) (insC (l.take i)) (insC (l.take i)) (Sem8 w0 K) := by
          unfold nx8
          rw [ha, hw]
          exact ⟨⟨plain_insC _, plain_insC _, plain_insC _, trivial⟩, ih (i + 1) (by omega) (by omega) (by omega)⟩
        rw [decide_eq_true (show (0 : Int) ≤ (i : Int) by omega), decide_eq_true (show (i : Int) < (m : Int) by omega), hx, hv, hr, hb]
        exact ⟨nx, nx, nx⟩
      · exact fin (.inr (by simp only [decide_eq_false_iff_not] at c2; omega))
    · exact fin (.inl (by simp only [decide_eq_false_iff_not] at c1; omega))
abbrev tk8 (cl : List Value) (m : Nat) : List Ins := (unIns cl).take (min m 130)
noncomputable def con8 : Con := { f := 8, gh := [⟨0, none, 4⟩], paths := [⟨0, [], true⟩], spec := fun args bs => match args, bs with
  | [s], [some (.cells cl rw)] => match slN s 0 4 with
    | some m => some (cl = insC (unIns cl) ∧ m ≤ (unIns cl).length, [SL (G + 1) (tk8 cl m).length 4, SL (G + 2) (tk8 cl m).length 4], [(true, some (.cells cl rw)), (true, some (.cells (insC (tk8 cl m)) true)), (true, some (.cells (insC (tk8 cl m)) true))])
    | none => none
  | _, _ => none }
set_option maxRecDepth 100000 in
theorem con8_ok : con8.ok Tryd.prog w0 := by
  intro args bs p rs out e hp
  simp only [con8] at e
  split at e <;> first | (simp at e; done) | skip
  split at e <;> first | (simp at e; done) | skip
  rename_i s cl rw _ m hs
  simp only [Option.some.injEq, Prod.mk.injEq] at e
  obtain ⟨rfl, rfl, rfl⟩ := e
  obtain ⟨p1, p2⟩ := hp
  rw [slN_eq hs]
  unfold tk8
  generalize unIns cl = l at p1 p2 ⊢
  subst p1
  have hn : (heapB Tryd.prog.globals.size [some (.cells (insC l) rw)]).next = Tryd.prog.globals.size + ntO8.flags.length := by rw [heapB_next]; rfl
  change CallS Tryd.prog w0 8 [SL G m 4] (heapB Tryd.prog.globals.size [some (.cells (insC l) rw)]) _
  refine retT_call (nt := ntO8) hn (call_sem (cd := Tryd.f8.body.getD .skip) Tryd.func8 (by kernel_rfl) ?_)
  rw [hn]
  refine seg_semI3 (F := ft8) mixed (callsOf_ok ok_none) leaf8 [4] 20 400 ((start8 m rw (insC l) _ _).mpr ?_)
  refine ⟨⟨plain_insC _, fun x hx => by simp at hx, fun x hx => by simp at hx, trivial⟩, ?_⟩
  exact loop8 (l := l) p2 ⟨rfl, rfl⟩ 131 0 (by omega) (by omega) (by omega)
theorem eval11n (K : List Value → AHeap → Prop) :
    evSeg Tryd.f11 [] nt0 [.nilIface] [] K = (True ∧ K [I 0] (heapB G [])) := by kernel_rfl
noncomputable def con11n : Con := { f := 11, gh := [], paths := [], spec := fun args bs => match args, bs with
  | [.nilIface], [] => some (True, [I 0], [])
  | _, _ => none }
set_option maxRecDepth 100000 in
theorem con11n_ok : con11n.ok Tryd.prog w0 := by
  intro args bs p rs out e _
  simp only [con11n] at e
  split at e <;> first | (simp at e; done) | skip
  simp only [Option.some.injEq, Prod.mk.injEq] at e
  obtain ⟨rfl, rfl, rfl⟩ := e
  change CallS Tryd.prog w0 11 [.nilIface] (heapB Tryd.prog.globals.size []) fun rs' h' => rs' = [I 0] ∧ h' = heapB Tryd.prog.globals.size []
  refine ev_callS (nt := nt0) (cs := []) (f := 11) (bs := []) Tryd.func11 (by kernel_rfl) (fun c hc => by simp at hc) rfl ?_
  exact (eval11n _).mpr ⟨trivial, rfl, rfl⟩

theorem eval10c (n : Nat) (cl : List Value) (rw : Bool) (K : List Value → AHeap → Prop) : evSeg Tryd.f10 [con22b] nt1 [SL G n 4] [some (.cells cl rw)] K
    = (((PlainL cl ∧ True) ∧ (PlainL cl ∧ True) ∧ cl = insC (unIns cl) ∧ (unIns cl).length = n ∧ (128 < n ∨ ∃ x ∈ unIns cl, right x = false)) ∧ (PlainL cl ∧ True) ∧
      K [AG [I 0, .slice none 0 0, .slice none 0 0], I 0, .iface 77 (I (putE n))] (heapB G [some (.cells cl rw)])) := by kernel_rfl
noncomputable def con10c : Con := { f := 10, gh := [⟨0, none, 4⟩], paths := [⟨0, [], true⟩], spec := fun args bs => putS args bs (fun l n => 128 < n ∨ ∃ x ∈ l, right x = false) fun n => [AG [I 0, .slice none 0 0, .slice none 0 0], I 0, .iface 77 (I (putE n))] }
set_option maxRecDepth 100000 in
theorem con10c_ok : con10c.ok Tryd.prog w0 := by
  intro args bs p rs out e hp
  simp only [con10c] at e
  obtain ⟨l, rw, rfl, rfl, hl, rfl, rfl⟩ := putS_some e hp
  change CallS Tryd.prog w0 10 [SL G l.length 4] (heapB Tryd.prog.globals.size [some (.cells (insC l) rw)]) fun rs' h' => rs' = [AG [I 0, .slice none 0 0, .slice none 0 0], I 0, .iface 77 (I (putE l.length))] ∧ h' = heapB Tryd.prog.globals.size [some (.cells (insC l) rw)]
  refine ev_callS (nt := nt1) (cs := [con22b]) Tryd.func10 (by kernel_rfl) (fun c hc => by
    simp only [List.mem_cons, List.not_mem_nil, or_false] at hc
    subst hc
    exact con22b_ok) rfl ((eval10c l.length (insC l) rw _).mpr ?_)
  have hp : PlainL (insC l) ∧ True := ⟨plain_insC l, trivial⟩
  exact ⟨⟨hp, hp, by rw [unIns_insC], by rw [unIns_insC], by rw [unIns_insC]; exact hl⟩, hp, rfl, rfl⟩

noncomputable def ft9 : FT := { loc := fun _ => false, mask := fun id => bif Nat.beq id 3 then live 103 [6, 7, 8, 9, 10, 11, 12] else bif Nat.beq id 6 then live 103 [6, 9, 12, 13] else bif Nat.beq id 9 then live 103 [6, 9, 12, 13, 14] else [] }
noncomputable abbrev cs9 : List Con := [con10, con21, con11n]
abbrev nt9 : Nt := { gh := [], flags := [true, true], paths := [⟨6, [], false⟩, ⟨6, [1], true⟩, ⟨6, [2], true⟩, ⟨9, [], true⟩], tr := [] }
abbrev nt2 : Nt := { gh := [], flags := [true, true], paths := [], tr := [] }
noncomputable def t9a : List Item := todoOf Tryd.f9 3
noncomputable def t9b : List Item := todoOf Tryd.f9 6
noncomputable def t9c : List Item := todoOf Tryd.f9 9
abbrev seg9 (K : List Value → AHeap → Prop) (L : List Item → List AV → AHeap → Prop) (t : List Item) (fr : List AV) (h : AHeap) : Prop :=
  segK3 Tryd.prog ft9 (semI Tryd.prog (fun _ => ft0) (callsOf G cs9) 400 20 (retT G nt2 K)) Tryd.f9 [3, 6, 9] 400 t fr (fun t fr h => match t with
  | .code (.region _ _ _) :: _ => canonT G nt9 (L t) fr h
  | _ => False) h
/-- The blocks at work: the lists, the verdict, its tables, the document's states. -/
noncomputable def bs9 (ca cb : List Value) (ra rb : Bool) (v : Int) (n : Nat) (kn sp C : List Value) : List (Option ABlk) :=
  [some (.cells ca ra), some (.cells cb rb), some (.cells [I v, SL (G + 3) n 8, SL (G + 4) n 16] true), some (.cells kn true), some (.cells sp true), some (.cells C true)]
noncomputable def fr9a (n : Nat) (a : Int) (e : Value) (fu b f : Int) : List AV := frm 103 [(6, .v (PT (G + 2))), (7, .v (I a)), (8, .v e), (9, .v (SL (G + 5) n 25)), (10, .v (I fu)), (11, .v (I b)), (12, .v (I f))]
noncomputable def fr9b (n : Nat) (f i : Int) : List AV := frm 103 [(6, .v (PT (G + 2))), (9, .v (SL (G + 5) n 25)), (12, .v (I f)), (13, .v (I i))]
noncomputable def fr9c (n : Nat) (f i r : Int) : List AV := frm 103 [(6, .v (PT (G + 2))), (9, .v (SL (G + 5) n 25)), (12, .v (I f)), (13, .v (I i)), (14, .v (I r))]

section
variable (n m : Nat) (ra rb : Bool) (ca cb : List Value) (v v2 i r : Int) (kn sp C : List Value) (K : List Value → AHeap → Prop) (L : List Item → List AV → AHeap → Prop)
abbrev PL9 (ca cb kn sp C : List Value) : Prop := PlainL ca ∧ PlainL cb ∧ PlainL kn ∧ PlainL sp ∧ PlainL C ∧ True
abbrev k9 (ca cb : List Value) (ra rb : Bool) (K : List Value → AHeap → Prop) (a b : Bool) : Prop := (PlainL ca ∧ PlainL cb ∧ True) ∧ K [B a, B b] (heapB G [some (.cells ca ra), some (.cells cb rb)])
theorem start9 : seg9 K L [.code (Tryd.f9.body.getD .skip)] (startF Tryd.f9 [SL G n 4, SL (G + 1) m 4]) (heapB G [some (.cells ca ra), some (.cells cb rb)])
    = (((PlainL ca ∧ True) ∧ (PlainL ca ∧ PlainL (knR (wk (unIns ca)).2 (unIns ca).length 0) ∧ PlainL (spR (wk (unIns ca)).2 (unIns ca).length 0) ∧ True) ∧ ca = insC (unIns ca) ∧ (unIns ca).length = n ∧ n ≤ 128 ∧ (unIns ca).all right = true ∧ badAt (unIns ca) = none)
      ∧ ((PlainL cb ∧ True) ∧ (PlainL cb ∧ PlainL (wk (unIns cb)).2 ∧ True) ∧ cb = insC (unIns cb) ∧ (unIns cb).length = m ∧ m ≤ 128 ∧ (unIns cb).all right = true ∧ badAt (unIns cb) = none)
      ∧ PL9 ca cb (knR (wk (unIns ca)).2 (unIns ca).length 0) (spR (wk (unIns ca)).2 (unIns ca).length 0) (wk (unIns cb)).2
      ∧ L t9a (fr9a (unIns cb).length 0 .nilIface (fu (unIns cb)) 0 0) (heapB G [some (.cells ca ra), some (.cells cb rb), some (.cells [I (fu (unIns ca)), SL (G + 3) (unIns ca).length 8, SL (G + 4) (unIns ca).length 16] true), some (.cells (knR (wk (unIns ca)).2 (unIns ca).length 0) true), some (.cells (spR (wk (unIns ca)).2 (unIns ca).length 0) true), some (.cells (wk (unIns cb)).2 true)])) := by kernel_rfl
theorem mid9 : seg9 K L t9a (fr9a n 0 .nilIface v2 0 0) (heapB G (bs9 ca cb ra rb v n kn sp C))
    = ((True ∧ True ∧ True) ∧ bif v != v2 then k9 ca cb ra rb K false false else bif (n : Int) != (n : Int) then k9 ca cb ra rb K false false else bif (n : Int) != (n : Int) then k9 ca cb ra rb K false false
      else PL9 ca cb kn sp C ∧ L t9b (fr9b n 0 0) (heapB G (bs9 ca cb ra rb v n kn sp C))) := by kernel_rfl
theorem head9 : seg9 K L t9b (fr9b n 0 i) (heapB G (bs9 ca cb ra rb v n kn sp C))
    = (bif decide (i < (n : Int)) then PL9 ca cb kn sp C ∧ L t9c (fr9c n 0 i 0) (heapB G (bs9 ca cb ra rb v n kn sp C)) else k9 ca cb ra rb K true true) := by kernel_rfl
theorem in9 : seg9 K L t9c (fr9c n 0 i r) (heapB G (bs9 ca cb ra rb v n kn sp C))
    = (bif decide (r < 8) then bN i n (b8 r (bif okB (nth kn (0 + i.toNat * 8 + r.toNat * 1)) then bN i n (b8 r (bif okB (nth C (0 + i.toNat * 25 + 1 + r.toNat * 1)) then
        bif !(boolO (nth kn (0 + i.toNat * 8 + r.toNat * 1)) == boolO (nth C (0 + i.toNat * 25 + 1 + r.toNat * 1))) then k9 ca cb ra rb K false false
        else bN i n (b8 r (bif (0 + i.toNat * 16 + r.toNat * 2 + 2).ble sp.length && (okI .i64 (nth sp (0 + i.toNat * 16 + r.toNat * 2 + 0)) && (okI .i64 (nth sp (0 + i.toNat * 16 + r.toNat * 2 + 1)) && true)) then
          bN i n (b8 r (bif (0 + i.toNat * 25 + 9 + r.toNat * 2 + 2).ble C.length && (okI .i64 (nth C (0 + i.toNat * 25 + 9 + r.toNat * 2 + 0)) && (okI .i64 (nth C (0 + i.toNat * 25 + 9 + r.toNat * 2 + 1)) && true)) then
            bif !(intO (nth sp (0 + i.toNat * 16 + r.toNat * 2 + 0)) == intO (nth C (0 + i.toNat * 25 + 9 + r.toNat * 2 + 0)) && (intO (nth sp (0 + i.toNat * 16 + r.toNat * 2 + 1)) == intO (nth C (0 + i.toNat * 25 + 9 + r.toNat * 2 + 1)) && true)) then k9 ca cb ra rb K false false
            else PL9 ca cb kn sp C ∧ L t9c (fr9c n 0 i (w (r + 1))) (heapB G (bs9 ca cb ra rb v n kn sp C)) else False)) else False)) else False)) else False))
      else PL9 ca cb kn sp C ∧ L t9b (fr9b n 0 (w (i + 1))) (heapB G (bs9 ca cb ra rb v n kn sp C))) := by kernel_rfl
theorem bad9c : evSeg Tryd.f9 [con10b, con21b, con11] nt2 [SL G n 4, SL (G + 1) m 4] [some (.cells ca ra), some (.cells cb rb)] K
    = (((PlainL ca ∧ True) ∧ (PlainL ca ∧ True) ∧ ca = insC (unIns ca) ∧ (unIns ca).length = n ∧ n ≤ 128 ∧ (unIns ca).all right = true ∧ (badAt (unIns ca)).isSome = true) ∧ ((PlainL cb ∧ True) ∧ (PlainL cb ∧ True) ∧ cb = insC (unIns cb) ∧ (unIns cb).length = m ∧ m ≤ 128 ∧ (unIns cb).all right = true ∧ (badAt (unIns cb)).isSome = true) ∧ (True ∧ True ∧ True) ∧
      bif (ba (unIns ca)).2 != (ba (unIns cb)).2 then k9 ca cb ra rb K false false else bif (ba (unIns ca)).1 != (ba (unIns cb)).1 then k9 ca cb ra rb K false false else k9 ca cb ra rb K true ((ba (unIns cb)).2 == 0)) := by kernel_rfl
theorem put9c : evSeg Tryd.f9 [con10c, con21c, con11] nt2 [SL G n 4, SL (G + 1) m 4] [some (.cells ca ra), some (.cells cb rb)] K
    = (((PlainL ca ∧ True) ∧ (PlainL ca ∧ True) ∧ ca = insC (unIns ca) ∧ (unIns ca).length = n ∧ (128 < n ∨ ∃ x, x ∈ unIns ca ∧ right x = false)) ∧ ((PlainL cb ∧ True) ∧ (PlainL cb ∧ True) ∧ cb = insC (unIns cb) ∧ (unIns cb).length = m ∧ (128 < m ∨ ∃ x, x ∈ unIns cb ∧ right x = false)) ∧ (True ∧ True ∧ True) ∧
      bif putE n != putE m then k9 ca cb ra rb K false false else k9 ca cb ra rb K true (putE m == 0)) := by kernel_rfl
end
theorem kr_nth (C : List Value) (i : Int) {r : Nat} (h : r < 8) : nth (kr C i) r = some (B (boolO (nth C (0 + i.toNat * 25 + (1 + r))))) := by
  rcases r with _ | _ | _ | _ | _ | _ | _ | _ | r <;> first | rfl | (exfalso; omega)
theorem sr_nth (C : List Value) (i : Int) {r : Nat} (h : r < 16) : nth (sr C i) r = some (I (intO (nth C (0 + i.toNat * 25 + (9 + r))))) := by
  rcases r with _ | _ | _ | _ | _ | _ | _ | _ | _ | _ | _ | _ | _ | _ | _ | _ | r <;> first | rfl | (exfalso; omega)
theorem knR_nth (C : List Value) : ∀ (k i0 q r : Nat), q < k → r < 8 → nth (knR C k i0) (q * 8 + r) = nth (kr C ((i0 + q : Nat) : Int)) r
  | 0, _, _, _, h, _ => by omega
  | k + 1, i0, 0, r, _, hr => by
    rw [knR, nthL (by simp; omega)]
    simp
  | k + 1, i0, q + 1, r, hq, hr => by
    rw [knR, nth_eq, List.getElem?_append_right (by simp; omega), ← nth_eq]
    have := knR_nth C k (i0 + 1) q r (by omega) hr
    rw [show i0 + 1 + q = i0 + (q + 1) by omega] at this
    rw [← this]
    congr 1
    simp; omega
theorem spR_nth (C : List Value) : ∀ (k i0 q r : Nat), q < k → r < 16 → nth (spR C k i0) (q * 16 + r) = nth (sr C ((i0 + q : Nat) : Int)) r
  | 0, _, _, _, h, _ => by omega
  | k + 1, i0, 0, r, _, hr => by
    rw [spR, nthL (by simp; omega)]
    simp
  | k + 1, i0, q + 1, r, hq, hr => by
    rw [spR, nth_eq, List.getElem?_append_right (by simp; omega), ← nth_eq]
    have := spR_nth C k (i0 + 1) q r (by omega) hr
    rw [show i0 + 1 + q = i0 + (q + 1) by omega] at this
    rw [← this]
    congr 1
    simp; omega
theorem spR_len (C : List Value) : ∀ k i, (spR C k i).length = k * 16
  | 0, _ => rfl
  | k + 1, i => by rw [spR, List.length_append, spR_len C k (i + 1)]; simp; omega
abbrev Sem9 (w0 : World) (K : List Value → AHeap → Prop) (t : List Item) (fr : List AV) (h : AHeap) : Prop := Agm.Sem Tryd.prog w0 (Tryd.prog.globals.size + nt2.flags.length) Tryd.f9 (retT G nt2 K) t fr h
theorem leaf9 {K : List Value → AHeap → Prop} : ∀ t fr h, (match t with
    | .code (.region _ _ _) :: _ => canonT G nt9 (Sem9 w0 K t) fr h
    | _ => False) → Sem9 w0 K t fr h := by
  intro t fr h e
  split at e
  · exact canonT_semN (nt := nt9) rfl e
  · exact e.elim
theorem ok9 : ∀ c ∈ cs9, c.ok Tryd.prog w0 := fun c hc => by
  simp only [List.mem_cons, List.not_mem_nil, or_false] at hc
  rcases hc with rfl | rfl | rfl
  · exact con10_ok
  · exact con21_ok
  · exact con11n_ok
section
variable {K : List Value → AHeap → Prop} {n : Nat} {ra rb : Bool} {ca cb : List Value} {v : Int} {C : List Value}
set_option maxRecDepth 100000 in
theorem in9_sem (pa : PlainL ca) (pb : PlainL cb) (pC : PlainL C) (hst : StsOk C n) {i : Nat} (hi : i < n) (hn : n < 1000000000)
    (hK : Sem9 w0 K t9b (fr9b n 0 (i + 1 : Nat)) (heapB G (bs9 ca cb ra rb v n (knR C n 0) (spR C n 0) C))) :
    ∀ (f r : Nat), r + f = 8 → Sem9 w0 K t9c (fr9c n 0 i r) (heapB G (bs9 ca cb ra rb v n (knR C n 0) (spR C n 0) C)) := by
  have p9 : PL9 ca cb (knR C n 0) (spR C n 0) C := ⟨pa, pb, knR_plain _ _ _, spR_plain _ _ _, pC, trivial⟩
  intro f
  induction f with
  | zero =>
    intro r hr
    refine seg_semI3 (F := ft9) mixed (callsOf_ok ok9) leaf9 [3, 6, 9] 20 400 ((in9 n ra rb ca cb v i r (knR C n 0) (spR C n 0) C K _).mpr ?_)
    have hw1 : w ((i : Int) + 1) = ((i + 1 : Nat) : Int) := by rw [w_id (by omega) (by omega)]; omega
    rw [decide_eq_false (show ¬ (r : Int) < 8 by omega), cond_false, hw1]
    exact ⟨p9, hK⟩
  | succ f ih =>
    intro r hr
    refine seg_semI3 (F := ft9) mixed (callsOf_ok ok9) leaf9 [3, 6, 9] 20 400 ((in9 n ra rb ca cb v i r (knR C n 0) (spR C n 0) C K _).mpr ?_)
    have hr8 : r < 8 := by omega
    have hw1 : w ((r : Int) + 1) = ((r + 1 : Nat) : Int) := by rw [w_id (by omega) (by omega)]; omega
    have t := hst.st i hi
    have hlen := t.len
    have e1 : nth (knR C n 0) (0 + (i : Int).toNat * 8 + (r : Int).toNat * 1) = some (B (boolO (nth C (0 + (i : Int).toNat * 25 + 1 + (r : Int).toNat * 1)))) := by
      have a := knR_nth C n 0 i r hi hr8
      rw [Nat.zero_add, kr_nth _ _ hr8] at a
      rw [Int.toNat_natCast, Int.toNat_natCast, Nat.mul_one, Nat.zero_add, a]
      simp only [Int.toNat_natCast, Nat.zero_add, Nat.add_assoc]
    have e2 : ∀ q, q < 2 → nth (spR C n 0) (0 + (i : Int).toNat * 16 + (r : Int).toNat * 2 + q) = some (I (intO (nth C (0 + (i : Int).toNat * 25 + 9 + (r : Int).toNat * 2 + q)))) := fun q hq => by
      have a := spR_nth C n 0 i (r * 2 + q) hi (by omega)
      rw [Nat.zero_add, sr_nth _ _ (by omega)] at a
      rw [Int.toNat_natCast, Int.toNat_natCast, Nat.zero_add, Nat.add_assoc, a]
      simp only [Int.toNat_natCast, Nat.zero_add, Nat.add_assoc]
    have k1 : okB (nth C (0 + (i : Int).toNat * 25 + 1 + (r : Int).toNat * 1)) = true := by
      rw [Int.toNat_natCast, Int.toNat_natCast, Nat.zero_add, Nat.mul_one]; exact t.kn r hr8
    have k2 : okI .i64 (nth C (0 + (i : Int).toNat * 25 + 9 + (r : Int).toNat * 2 + 0)) = true := by
      rw [Int.toNat_natCast, Int.toNat_natCast, Nat.zero_add]; exact t.lo r hr8
    have k3 : okI .i64 (nth C (0 + (i : Int).toNat * 25 + 9 + (r : Int).toNat * 2 + 1)) = true := by
      rw [Int.toNat_natCast, Int.toNat_natCast, Nat.zero_add]; exact t.hi r hr8
    have b1 : (0 + (i : Int).toNat * 16 + (r : Int).toNat * 2 + 2).ble (spR C n 0).length = true := Nat.ble_eq_true_of_le (by rw [spR_len, Int.toNat_natCast, Int.toNat_natCast]; omega)
    have b2 : (0 + (i : Int).toNat * 25 + 9 + (r : Int).toNat * 2 + 2).ble C.length = true := Nat.ble_eq_true_of_le (by rw [Int.toNat_natCast, Int.toNat_natCast]; omega)
    have q0 : (0 : Int) ≤ (r : Int) := by omega
    have q8 : (r : Int) < 8 := by omega
    have i0 : (0 : Int) ≤ (i : Int) := by omega
    have i8 : (i : Int) < (n : Int) := by omega
    have o1 : ∀ b, okB (some (B b)) = true := fun _ => rfl
    have o2 : ∀ b, boolO (some (B b)) = b := fun _ => rfl
    have o3 : ∀ b, okI .i64 (some (I b)) = true := fun _ => rfl
    have o4 : ∀ b, intO (some (I b)) = b := fun _ => rfl
    have fin := ih (r + 1) (by omega)
    rw [decide_eq_true q8, cond_true]
    unfold bN b8
    rw [decide_eq_true q0, decide_eq_true q8, decide_eq_true i0, decide_eq_true i8, e1, e2 0 (by omega), e2 1 (by omega), k1, k2, k3, b1, b2, hw1]
    simp only [o1, o2, o3, o4, Bool.and_self, cond_true, cond_false, beq_self_eq_true, Bool.not_true]
    exact ⟨p9, fin⟩
set_option maxRecDepth 100000 in
theorem head9_sem (pa : PlainL ca) (pb : PlainL cb) (pC : PlainL C) (hst : StsOk C n) (hn : n < 1000000000) (hK : K [B true, B true] (heapB G [some (.cells ca ra), some (.cells cb rb)])) :
    ∀ (f i : Nat), n - i < f → i ≤ n → Sem9 w0 K t9b (fr9b n 0 i) (heapB G (bs9 ca cb ra rb v n (knR C n 0) (spR C n 0) C)) := by
  have p9 : PL9 ca cb (knR C n 0) (spR C n 0) C := ⟨pa, pb, knR_plain _ _ _, spR_plain _ _ _, pC, trivial⟩
  intro f
  induction f with
  | zero => intro i h; omega
  | succ f ih =>
    intro i h1 h2
    refine seg_semI3 (F := ft9) mixed (callsOf_ok ok9) leaf9 [3, 6, 9] 20 400 ((head9 n ra rb ca cb v i (knR C n 0) (spR C n 0) C K _).mpr ?_)
    refine bifP (fun c => ?_) (fun c => ?_)
    · simp only [decide_eq_true_eq] at c
      exact ⟨p9, in9_sem pa pb pC hst (by omega) hn (ih (i + 1) (by omega) (by omega)) 8 0 rfl⟩
    · exact ⟨⟨pa, pb, trivial⟩, hK⟩
end
/-- May a program be run? -/
def goodP (l : List Ins) : Bool := decide (l.length ≤ 128) && l.all right && (badAt l).isNone
theorem ba_num {l : List Ins} (h : (badAt l).isSome = true) : ((ba l).2 == 0) = false := by
  unfold ba
  unfold badAt at h ⊢
  cases c0 : (l.length : Int) == 0 with
  | true => rfl
  | false =>
    rw [c0] at h
    simp only [cond_false] at h ⊢
    cases c1 : decide ((lo0 l).1 ≥ 0) with
    | true => rfl
    | false =>
      rw [c1] at h
      simp only [cond_false] at h ⊢
      cases c2 : decide ((wk l).1 ≥ 0) with
      | true => rfl
      | false =>
        rw [c2] at h
        simp only [cond_false] at h ⊢
        cases c3 : decide (fu l > 4096) with
        | true => rfl
        | false => rw [c3] at h; cases h
noncomputable def con9 : Con := { f := 9, gh := [⟨0, none, 4⟩, ⟨1, none, 4⟩], paths := [⟨0, [], true⟩, ⟨1, [], true⟩], spec := fun args bs => match args, bs with
  | [s1, s2], [some (.cells ca ra), some (.cells cb rb)] => match slN s1 0 4, slN s2 1 4 with
    | some n, some m => some (ca = insC (unIns ca) ∧ cb = ca ∧ (unIns ca).length = n ∧ m = n, [B true, B (goodP (unIns ca))], [(true, some (.cells ca ra)), (true, some (.cells cb rb))])
    | _, _ => none
  | _, _ => none }
set_option maxRecDepth 100000 in
theorem con9_ok (hg : Laid w0) : con9.ok Tryd.prog w0 := by
  intro args bs p rs out e hp
  simp only [con9] at e
  split at e <;> first | (simp at e; done) | skip
  split at e <;> first | (simp at e; done) | skip
  rename_i s1 s2 ca ra cb rb _ _ n m hs1 hs2
  simp only [Option.some.injEq, Prod.mk.injEq] at e
  obtain ⟨rfl, rfl, rfl⟩ := e
  obtain ⟨h1, rfl, h2, rfl⟩ := hp
  rw [slN_eq hs1, slN_eq hs2]
  generalize unIns cb = l at h1 h2 ⊢
  subst h1 h2
  have p1 := plain_insC l
  change CallS Tryd.prog w0 9 [SL G l.length 4, SL (G + 1) l.length 4] (heapB Tryd.prog.globals.size [some (.cells (insC l) ra), some (.cells (insC l) rb)]) fun rs' h' => rs' = [B true, B (goodP l)] ∧ h' = heapB Tryd.prog.globals.size [some (.cells (insC l) ra), some (.cells (insC l) rb)]
  by_cases hput : 128 < l.length ∨ ∃ x ∈ l, right x = false
  · have hgd : goodP l = false := by
      unfold goodP
      rcases hput with h | ⟨x, h1, h2⟩
      · rw [decide_eq_false (by omega)]; rfl
      · have : l.all right = false := by
          rw [← Bool.not_eq_true, List.all_eq_true]
          intro ha
          rw [ha x h1] at h2; cases h2
        rw [this, Bool.and_false, Bool.false_and]
    refine ev_callS (nt := nt2) (cs := [con10c, con21c, con11]) (f := 9) Tryd.func9 (by kernel_rfl) (fun c hc => by
      simp only [List.mem_cons, List.not_mem_nil, or_false] at hc
      rcases hc with rfl | rfl | rfl
      · exact con10c_ok
      · exact con21c_ok
      · exact con11_ok hg) rfl ((put9c l.length l.length ra rb (insC l) (insC l) _).mpr ?_)
    rw [unIns_insC]
    refine ⟨⟨⟨p1, trivial⟩, ⟨p1, trivial⟩, rfl, rfl, hput⟩, ⟨⟨p1, trivial⟩, ⟨p1, trivial⟩, rfl, rfl, hput⟩, ⟨trivial, trivial, trivial⟩, ?_⟩
    have e : (putE l.length == 0) = false := by unfold putE; split <;> rfl
    rw [bne_self_eq_false, cond_false, e, hgd]
    exact ⟨⟨p1, p1, trivial⟩, rfl, rfl⟩
  · have hn : l.length ≤ 128 := by omega
    have hl : ∀ x ∈ l, right x = true := fun x hx => by
      cases c : right x with
      | true => rfl
      | false => exact absurd (.inr ⟨x, hx, c⟩) hput
    have hall : l.all right = true := List.all_eq_true.2 hl
    cases hb : badAt l with
    | some q =>
      have hsome : (badAt l).isSome = true := by rw [hb]; rfl
      have hgd : goodP l = false := by unfold goodP; rw [hb]; simp
      refine ev_callS (nt := nt2) (cs := [con10b, con21b, con11]) (f := 9) Tryd.func9 (by kernel_rfl) (fun c hc => by
        simp only [List.mem_cons, List.not_mem_nil, or_false] at hc
        rcases hc with rfl | rfl | rfl
        · exact con10b_ok
        · exact con21b_ok
        · exact con11_ok hg) rfl ((bad9c l.length l.length ra rb (insC l) (insC l) _).mpr ?_)
      rw [unIns_insC]
      refine ⟨⟨⟨p1, trivial⟩, ⟨p1, trivial⟩, rfl, rfl, hn, hall, hsome⟩, ⟨⟨p1, trivial⟩, ⟨p1, trivial⟩, rfl, rfl, hn, hall, hsome⟩, ⟨trivial, trivial, trivial⟩, ?_⟩
      rw [bne_self_eq_false, bne_self_eq_false, cond_false, cond_false, ba_num hsome, hgd]
      exact ⟨⟨p1, p1, trivial⟩, rfl, rfl⟩
    | none =>
      have hgd : goodP l = true := by unfold goodP; rw [hb, hall, decide_eq_true hn]; rfl
      have h0 : 0 < l.length := by
        unfold badAt at hb
        cases c0 : (l.length : Int) == 0 with
        | true => rw [c0] at hb; cases hb
        | false => have := beq_eq_false_iff_ne.mp c0; omega
      have hh : (heapB Tryd.prog.globals.size [some (.cells (insC l) ra), some (.cells (insC l) rb)]).next = Tryd.prog.globals.size + nt2.flags.length := by rw [heapB_next]; rfl
      refine retT_call (nt := nt2) hh (call_sem (cd := Tryd.f9.body.getD .skip) Tryd.func9 (by kernel_rfl) ?_)
      rw [hh, hgd]
      have hst : StsOk (wk l).2 l.length ∧ PlainL (wk l).2 := by
        have key : ∀ (f i : Nat) (cst : List Value), StsOk cst l.length → PlainL cst → StsOk (walkF l (lo0 l).2.1 (lo0 l).2.2 f i cst).2 l.length ∧ PlainL (walkF l (lo0 l).2.1 (lo0 l).2.2 f i cst).2 := by
          intro f
          induction f with
          | zero => intro i cst a b; exact ⟨a, b⟩
          | succ f ih =>
            intro i cst a b
            rw [walkF]
            by_cases hi : i < l.length
            · rw [decide_eq_true hi, cond_true]
              obtain ⟨s1, s2⟩ := stepF_sts (lp := (lo0 l).2.1) (en := (lo0 l).2.2) hl hi a b
              cases (stepF l (lo0 l).2.1 (lo0 l).2.2 i cst).1 with
              | false => exact ⟨a, b⟩
              | true => exact ih (i + 1) _ s1 s2
            · rw [decide_eq_false hi, cond_false]
              exact ⟨a, b⟩
        exact key _ _ _ (st0_sts h0) (st0_plain _)
      have p9 : PL9 (insC l) (insC l) (knR (wk l).2 l.length 0) (spR (wk l).2 l.length 0) (wk l).2 := ⟨p1, p1, knR_plain _ _ _, spR_plain _ _ _, hst.2, trivial⟩
      refine seg_semI3 (F := ft9) mixed (callsOf_ok ok9) leaf9 [3, 6, 9] 20 400 ((start9 l.length l.length ra rb (insC l) (insC l) _ _).mpr ?_)
      rw [unIns_insC]
      refine ⟨⟨⟨p1, trivial⟩, ⟨p1, knR_plain _ _ _, spR_plain _ _ _, trivial⟩, rfl, rfl, hn, hall, hb⟩, ⟨⟨p1, trivial⟩, ⟨p1, hst.2, trivial⟩, rfl, rfl, hn, hall, hb⟩, p9, ?_⟩
      refine seg_semI3 (F := ft9) mixed (callsOf_ok ok9) leaf9 [3, 6, 9] 20 400 ((mid9 l.length ra rb (insC l) (insC l) (fu l) (fu l) (knR (wk l).2 l.length 0) (spR (wk l).2 l.length 0) (wk l).2 _ _).mpr ?_)
      rw [bne_self_eq_false, bne_self_eq_false, cond_false, cond_false]
      refine ⟨⟨trivial, trivial, trivial⟩, p9, ?_⟩
      exact head9_sem p1 p1 hst.2 hst.1 (by omega) ⟨rfl, rfl⟩ (l.length + 1) 0 (by omega) (by omega)

noncomputable def ft3 : FT := { loc := fun _ => false, mask := fun id => bif Nat.beq id 7 then live 89 [3, 5] else bif Nat.beq id 10 then live 89 [5, 9] else bif Nat.beq id 11 then live 89 [5, 10, 12] else [] }
abbrev nt3a : Nt := { gh := [⟨5, none, 4⟩], flags := [true], paths := [⟨3, [], true⟩, ⟨5, [], true⟩], tr := [(5, [])] }
abbrev nt3b : Nt := { gh := [⟨5, none, 4⟩, ⟨9, none, 4⟩], flags := [true], paths := [⟨5, [], true⟩, ⟨9, [], true⟩], tr := [(5, []), (9, [])] }
abbrev nt3g : Nt := { gh := [⟨5, none, 4⟩], flags := [true], paths := [⟨5, [], true⟩, ⟨10, [], false⟩, ⟨10, [1], true⟩, ⟨10, [2], true⟩], tr := [(5, [])] }
abbrev nt3w : Nt := { gh := [⟨5, none, 4⟩], flags := [true], paths := [⟨5, [], true⟩, ⟨10, [], false⟩], tr := [(5, [])] }
noncomputable def t3a : List Item := todoOf Tryd.f3 7
noncomputable def t3b : List Item := todoOf Tryd.f3 10
noncomputable def t3c : List Item := todoOf Tryd.f3 11
abbrev seg3 (cs : List Con) (ntx : Nt) (K : List Value → AHeap → Prop) (L : List Item → List AV → AHeap → Prop) (t : List Item) (fr : List AV) (h : AHeap) : Prop :=
  segK3 Tryd.prog ft3 (semI Tryd.prog (fun _ => ft0) (callsOf G cs) 400 20 (retT G nt1 K)) Tryd.f3 [7, 10, 11] 400 t fr (fun t fr h => match t with
  | .code (.region 7 _ _) :: _ => canonT G nt3a (L t) fr h
  | .code (.region 10 _ _) :: _ => canonT G nt3b (L t) fr h
  | .code (.region 11 _ _) :: _ => canonT G ntx (L t) fr h
  | _ => False) h
noncomputable def fr3a (m : Nat) : List AV := frm 89 [(3, .v (PT (G + 1))), (5, .v (SL (G + 2) m 4))]
noncomputable def fr3b (m k : Nat) : List AV := frm 89 [(5, .v (SL (G + 1) m 4)), (9, .v (SL (G + 2) k 4))]
noncomputable def fr3c (m : Nat) (e : Value) : List AV := frm 89 [(5, .v (SL (G + 1) m 4)), (10, .v (PT (G + 2))), (12, .v e)]

section
variable (n m k : Nat) (rw : Bool) (cl ca cn kn sp : List Value) (op d s imm v e : Int) (K : List Value → AHeap → Prop) (L : List Item → List AV → AHeap → Prop)
abbrev lm3 (n : Nat) : Int := if 100 < (n : Int) then 100 else (n : Int)
abbrev A3 (cl : List Value) (n : Nat) : List Ins := tk8 cl ((lm3 n).toNat - 0)
abbrev k3 (cl : List Value) (rw : Bool) (K : List Value → AHeap → Prop) (b : Bool) : Prop := (PlainL cl ∧ True) ∧ K [B b] (heapB G [some (.cells cl rw)])
theorem start3 : seg3 [con7, con8, con9] nt3g K L [.code (Tryd.f3.body.getD .skip)] (startF Tryd.f3 [SL G n 4, AG [I op, I d, I s, I imm]]) (heapB G [some (.cells cl rw)])
    = ((True ∧ True ∧ True) ∧ bif decide (0 ≤ lm3 n) && decide (lm3 n ≤ (n : Int)) then
        ((PlainL cl ∧ True) ∧ (PlainL cl ∧ PlainL (insC (A3 cl n)) ∧ PlainL (insC (A3 cl n)) ∧ True) ∧ cl = insC (unIns cl) ∧ (lm3 n).toNat - 0 ≤ (unIns cl).length) ∧
        ((PlainL (insC (A3 cl n)) ∧ PlainL (insC (A3 cl n)) ∧ True) ∧ (PlainL (insC (A3 cl n)) ∧ PlainL (insC (A3 cl n)) ∧ True) ∧ insC (A3 cl n) = insC (unIns (insC (A3 cl n))) ∧ insC (A3 cl n) = insC (A3 cl n) ∧ (unIns (insC (A3 cl n))).length = (A3 cl n).length ∧ (A3 cl n).length = (A3 cl n).length) ∧
        bif !goodP (unIns (insC (A3 cl n))) then k3 cl rw K true
        else (PlainL cl ∧ PlainL [I op, I d, I s, I imm] ∧ PlainL (List.take ((A3 cl n).length * 4) (insC (A3 cl n))) ∧ True) ∧ L t3a (fr3a (A3 cl n).length) (heapB G [some (.cells cl rw), some (.cells [I op, I d, I s, I imm] true), some (.cells (List.take ((A3 cl n).length * 4) (insC (A3 cl n))) true)])
      else False) := by kernel_rfl
abbrev dM (d : Int) : Int := w (((BitVec.ofInt 64 d).and (BitVec.ofInt 64 7)).toNat : Int)
abbrev iM (imm : Int) : Int := w (((BitVec.ofInt 64 imm).and (BitVec.ofInt 64 65535)).toNat : Int)
abbrev x1I (d imm : Int) : Ins := ⟨0, dM d, 0, iM imm⟩
abbrev x2I : Ins := ⟨20, 0, 0, 0⟩
abbrev xs3 (d imm : Int) : List Value := [I 0, I (dM d), I 0, I (iM imm), I 20, I 0, I 0, I 0]
abbrev cn3 (m : Nat) (ca : List Value) (d imm : Int) : List Value := List.take ((m + 2) * 4) (List.take (m * 4) (List.drop 0 (List.take (m * 4) (List.drop 0 ca))) ++ xs3 d imm)
abbrev nx3 (m k : Nat) (rw : Bool) (cl ca cn : List Value) (L : List Item → List AV → AHeap → Prop) : Prop := (PlainL cl ∧ PlainL (List.take (m * 4) ca) ∧ PlainL cn ∧ True) ∧ L t3b (fr3b m k) (heapB G [some (.cells cl rw), some (.cells (List.take (m * 4) ca) true), some (.cells cn true)])
theorem mid3 : seg3 [] nt3g K L t3a (fr3a m) (heapB G [some (.cells cl rw), some (.cells [I op, I d, I s, I imm] true), some (.cells ca true)])
    = ((bif m.beq 0 then bif imm == imm && (d == d && true) then nx3 m 2 rw cl ca (xs3 d imm) L else False
        else bif (0 + m * 4).ble ca.length then bif room m 32 then bif imm == imm && (d == d && true) then bif room (m + 2) 32 then bif (0 + m * 4).ble (List.take (m * 4) (List.drop 0 ca)).length then
          bif decide (((m + 2 : Nat) : Int) > 128) then k3 cl rw K true else nx3 m (m + 2) rw cl ca (cn3 m ca d imm) L
          else False else False else False else False else False)
      ∧ bif m.beq 0 then nx3 m 2 rw cl ca (xs3 d imm) L
        else bif (0 + m * 4).ble ca.length then bif room m 32 then bif room (m + 2) 32 then bif (0 + m * 4).ble (List.take (m * 4) (List.drop 0 ca)).length then
          bif decide (((m + 2 : Nat) : Int) > 128) then k3 cl rw K true else nx3 m (m + 2) rw cl ca (cn3 m ca d imm) L
          else False else False else False else False) := by kernel_rfl
theorem good3 : seg3 [con10] nt3g K L t3b (fr3b m k) (heapB G [some (.cells cl rw), some (.cells ca true), some (.cells cn true)])
    = (((PlainL cn ∧ True) ∧ (PlainL cn ∧ PlainL (knR (wk (unIns cn)).2 (unIns cn).length 0) ∧ PlainL (spR (wk (unIns cn)).2 (unIns cn).length 0) ∧ True) ∧ cn = insC (unIns cn) ∧ (unIns cn).length = k ∧ k ≤ 128 ∧ (unIns cn).all right = true ∧ badAt (unIns cn) = none)
      ∧ (PlainL cl ∧ PlainL (List.take (m * 4) ca) ∧ PlainL (knR (wk (unIns cn)).2 (unIns cn).length 0) ∧ PlainL (spR (wk (unIns cn)).2 (unIns cn).length 0) ∧ True)
      ∧ L t3c (fr3c m .nilIface) (heapB G [some (.cells cl rw), some (.cells (List.take (m * 4) ca) true), some (.cells [I (fu (unIns cn)), SL (G + 3) (unIns cn).length 8, SL (G + 4) (unIns cn).length 16] true), some (.cells (knR (wk (unIns cn)).2 (unIns cn).length 0) true), some (.cells (spR (wk (unIns cn)).2 (unIns cn).length 0) true)])) := by kernel_rfl
theorem bad3w : seg3 [con10b] nt3w K L t3b (fr3b m k) (heapB G [some (.cells cl rw), some (.cells ca true), some (.cells cn true)])
    = (((PlainL cn ∧ True) ∧ (PlainL cn ∧ True) ∧ cn = insC (unIns cn) ∧ (unIns cn).length = k ∧ k ≤ 128 ∧ (unIns cn).all right = true ∧ (badAt (unIns cn)).isSome = true)
      ∧ (PlainL cl ∧ PlainL (List.take (m * 4) ca) ∧ True)
      ∧ L t3c (fr3c m (.iface 77 (I (ba (unIns cn)).2))) (heapB G [some (.cells cl rw), some (.cells (List.take (m * 4) ca) true), some (.cells [I 0, .slice none 0 0, .slice none 0 0] true)])) := by kernel_rfl
abbrev a10 (m : Nat) (ca : List Value) : Prop := (PlainL ca ∧ True) ∧ (PlainL ca ∧ PlainL (knR (wk (unIns ca)).2 (unIns ca).length 0) ∧ PlainL (spR (wk (unIns ca)).2 (unIns ca).length 0) ∧ True) ∧ ca = insC (unIns ca) ∧ (unIns ca).length = m ∧ m ≤ 128 ∧ (unIns ca).all right = true ∧ badAt (unIns ca) = none
theorem endg3 : seg3 [con10] nt3w K L t3c (fr3c m .nilIface) (heapB G [some (.cells cl rw), some (.cells ca true), some (.cells [I v, SL (G + 3) k 8, SL (G + 4) k 16] true), some (.cells kn true), some (.cells sp true)])
    = (a10 m ca ∧ bif v == w (fu (unIns ca) + 2) then k3 cl rw K true else k3 cl rw K false) := by kernel_rfl
theorem endb3 : seg3 [con10, con11] nt3w K L t3c (fr3c m (.iface 77 (I e))) (heapB G [some (.cells cl rw), some (.cells ca true), some (.cells [I v, .slice none 0 0, .slice none 0 0] true)])
    = (a10 m ca ∧ (True ∧ True ∧ True) ∧ bif e == 12 then k3 cl rw K (decide (w (fu (unIns ca) + 2) > 4096)) else k3 cl rw K false) := by kernel_rfl
end
abbrev Sem3 (w0 : World) (K : List Value → AHeap → Prop) (t : List Item) (fr : List AV) (h : AHeap) : Prop := Agm.Sem Tryd.prog w0 (Tryd.prog.globals.size + nt1.flags.length) Tryd.f3 (retT G nt1 K) t fr h
theorem leaf3 {ntx : Nt} (hx : ntx.flags = [true]) {K : List Value → AHeap → Prop} : ∀ t fr h, (match t with
    | .code (.region 7 _ _) :: _ => canonT G nt3a (Sem3 w0 K t) fr h
    | .code (.region 10 _ _) :: _ => canonT G nt3b (Sem3 w0 K t) fr h
    | .code (.region 11 _ _) :: _ => canonT G ntx (Sem3 w0 K t) fr h
    | _ => False) → Sem3 w0 K t fr h := by
  intro t fr h e
  split at e
  · exact canonT_semN (nt := nt3a) rfl e
  · exact canonT_semN (nt := nt3b) rfl e
  · exact canonT_semN (nt := ntx) (by rw [hx]) e
  · exact e.elim
theorem okG3 : ∀ c ∈ [con10], c.ok Tryd.prog w0 := fun c hc => by
  simp only [List.mem_cons, List.not_mem_nil, or_false] at hc
  subst hc
  exact con10_ok
theorem okB3 : ∀ c ∈ [con10b], c.ok Tryd.prog w0 := fun c hc => by
  simp only [List.mem_cons, List.not_mem_nil, or_false] at hc
  subst hc
  exact con10b_ok
theorem okE3 (hg : Laid w0) : ∀ c ∈ [con10, con11], c.ok Tryd.prog w0 := fun c hc => by
  simp only [List.mem_cons, List.not_mem_nil, or_false] at hc
  rcases hc with rfl | rfl
  · exact con10_ok
  · exact con11_ok hg
theorem okS3 (hg : Laid w0) : ∀ c ∈ [con7, con8, con9], c.ok Tryd.prog w0 := fun c hc => by
  simp only [List.mem_cons, List.not_mem_nil, or_false] at hc
  rcases hc with rfl | rfl | rfl
  · exact con7_ok hg
  · exact con8_ok
  · exact con9_ok hg
theorem and_in (x : Int) (k : Nat) (hk : k < 100000) : 0 ≤ w (((BitVec.ofInt 64 x).and (BitVec.ofInt 64 k)).toNat : Int) ∧ w (((BitVec.ofInt 64 x).and (BitVec.ofInt 64 k)).toNat : Int) ≤ k := by
  have h : ((BitVec.ofInt 64 x).and (BitVec.ofInt 64 k)).toNat ≤ k := by
    show ((BitVec.ofInt 64 x) &&& (BitVec.ofInt 64 k)).toNat ≤ k
    rw [BitVec.toNat_and]
    have e : (BitVec.ofInt 64 (k : Int)).toNat = k := by
      rw [BitVec.toNat_ofInt]
      omega
    rw [e]
    exact Nat.and_le_right
  generalize ((BitVec.ofInt 64 x).and (BitVec.ofInt 64 k)).toNat = q at h
  rw [w_id (n := (q : Int)) (by omega) (by omega)]
  omega
theorem right_set {d i : Int} (h0 : 0 ≤ d) (h7 : d ≤ 7) (i0 : 0 ≤ i) (i1 : i ≤ 65535) : right ⟨0, d, 0, i⟩ = true := by
  show r29 0 d 0 i = true
  have e1 : r50 d = true := by
    unfold r50
    rw [decide_eq_true (show d ≥ 0 from h0), cond_true, decide_eq_true_iff]
    omega
  have e2 : r50 0 = true := rfl
  have e3 : r51 0 d 0 i = true := rfl
  unfold r29
  rw [e1, e2, e3, decide_eq_false (show ¬ i < -2147483648 by omega), decide_eq_false (show ¬ i ≥ 2147483648 by omega)]
  rfl
set_option maxRecDepth 100000 in
set_option maxHeartbeats 4000000 in
theorem tail3 (hg : Laid w0) {cl : List Value} {rw : Bool} {a : List Ins} {op d s imm : Int} (hc : PlainL cl) (ha : a.length ≤ 100) (hgood : goodP a = true) :
    Sem3 w0 (fun rs' _ => rs' = [B true]) t3a (fr3a a.length) (heapB G [some (.cells cl rw), some (.cells [I op, I d, I s, I imm] true), some (.cells (insC a) true)]) := by
  have hb : badAt a = none := by
    unfold goodP at hgood
    cases h : badAt a with
    | none => rfl
    | some q => rw [h] at hgood; simp at hgood
  have hall : a.all right = true := by
    unfold goodP at hgood
    cases h : a.all right with
    | true => rfl
    | false => rw [h] at hgood; simp at hgood
  have hl : ∀ x ∈ a, right x = true := List.all_eq_true.1 hall
  obtain ⟨h0, hfu⟩ : 0 < a.length ∧ fu a ≤ 4096 := by
    unfold badAt at hb
    cases c0 : (a.length : Int) == 0 with
    | true => rw [c0] at hb; cases hb
    | false =>
      rw [c0, cond_false] at hb
      have := beq_eq_false_iff_ne.mp c0
      cases c1 : decide ((lo0 a).1 ≥ 0) with
      | true => rw [c1] at hb; cases hb
      | false =>
        rw [c1, cond_false] at hb
        cases c2 : decide ((wk a).1 ≥ 0) with
        | true => rw [c2] at hb; cases hb
        | false =>
          rw [c2, cond_false] at hb
          cases c3 : decide (fu a > 4096) with
          | true => rw [c3] at hb; cases hb
          | false =>
            simp only [decide_eq_false_iff_not] at c3
            omega
  have hlow : -9223372036854775808 ≤ fu a := fuelF_in a _ _ _ _ (by decide)
  have hw2 : w (fu a + 2) = fu a + 2 := w_id (by omega) (by omega)
  obtain ⟨d0, d7⟩ := and_in d 7 (by decide)
  obtain ⟨i0, i1⟩ := and_in imm 65535 (by decide)
  have r1 : right (x1I d imm) = true := right_set d0 d7 i0 i1
  have r2 : right x2I = true := by kernel_rfl
  have hN : (a ++ [x1I d imm, x2I]).length = a.length + 2 := by simp
  have hNall : (a ++ [x1I d imm, x2I]).all right = true := by
    rw [List.all_append, hall, Bool.true_and, List.all_cons, List.all_cons, List.all_nil, r1, r2]; rfl
  obtain ⟨f1, f2⟩ := ends_ok (a := a) (x1 := x1I d imm) (x2 := x2I) hl hb (by show (0 : Int) ≠ 17; decide) (by show (0 : Int) ≠ 18; decide) (by decide) (by decide) rfl rfl
  have htk : List.take (a.length * 4) (insC a) = insC a := List.take_of_length_le (by rw [insC_len]; omega)
  have hcn : cn3 a.length (insC a) d imm = insC (a ++ [x1I d imm, x2I]) := by
    have hal : (insC a).length = a.length * 4 := insC_len a
    unfold cn3
    simp only [List.drop_zero, htk]
    rw [List.take_of_length_le (by rw [List.length_append, hal]; simp; omega), insC_app]
    rfl
  have pa := plain_insC a
  have a10' : a10 a.length (insC a) := by
    unfold a10
    rw [unIns_insC]
    exact ⟨⟨pa, trivial⟩, ⟨pa, knR_plain _ _ _, spR_plain _ _ _, trivial⟩, rfl, rfl, by omega, hall, hb⟩
  generalize hNN : (a ++ [x1I d imm, x2I]) = N at hN hNall f1 f2 hcn
  have pN := plain_insC N
  -- behind the appends
  have next : Sem3 w0 (fun rs' _ => rs' = [B true]) t3b (fr3b a.length (a.length + 2)) (heapB G [some (.cells cl rw), some (.cells (insC a) true), some (.cells (insC N) true)]) := by
    cases c : decide (fu a + 2 > 4096) with
    | false =>
      rw [c, cond_false] at f2
      refine seg_semI3 (F := ft3) mixed (callsOf_ok okG3) (leaf3 (ntx := nt3g) rfl) [7, 10, 11] 20 400 ((good3 a.length (a.length + 2) rw cl (insC a) (insC N) _ _).mpr ?_)
      rw [unIns_insC, htk]
      refine ⟨⟨⟨pN, trivial⟩, ⟨pN, knR_plain _ _ _, spR_plain _ _ _, trivial⟩, rfl, hN, by omega, hNall, f2⟩, ⟨hc, pa, knR_plain _ _ _, spR_plain _ _ _, trivial⟩, ?_⟩
      refine seg_semI3 (F := ft3) mixed (callsOf_ok okG3) (leaf3 (ntx := nt3w) rfl) [7, 10, 11] 20 400 ((endg3 a.length N.length rw cl (insC a) (knR (wk N).2 N.length 0) (spR (wk N).2 N.length 0) (fu N) _ _).mpr ⟨a10', ?_⟩)
      rw [unIns_insC, hw2, f1, beq_self_eq_true]
      exact ⟨⟨hc, trivial⟩, rfl⟩
    | true =>
      rw [c, cond_true] at f2
      refine seg_semI3 (F := ft3) mixed (callsOf_ok okB3) (leaf3 (ntx := nt3w) rfl) [7, 10, 11] 20 400 ((bad3w a.length (a.length + 2) rw cl (insC a) (insC N) _ _).mpr ?_)
      have e12 : (ba N).2 = 12 := by unfold ba; rw [f2]; rfl
      rw [unIns_insC, htk, e12]
      refine ⟨⟨⟨pN, trivial⟩, ⟨pN, trivial⟩, rfl, hN, by omega, hNall, by rw [f2]; rfl⟩, ⟨hc, pa, trivial⟩, ?_⟩
      refine seg_semI3 (F := ft3) mixed (callsOf_ok (okE3 hg)) (leaf3 (ntx := nt3w) rfl) [7, 10, 11] 20 400 ((endb3 a.length rw cl (insC a) 0 12 _ _).mpr ⟨a10', ⟨trivial, trivial, trivial⟩, ?_⟩)
      rw [unIns_insC, hw2, c]
      exact ⟨⟨hc, trivial⟩, rfl⟩
  refine seg_semI3 (F := ft3) mixed (callsOf_ok ok_none) (leaf3 (ntx := nt3g) rfl) [7, 10, 11] 20 400 ((mid3 a.length rw cl (insC a) op d s imm _ _).mpr ?_)
  have hm : a.length.beq 0 = false := by
    cases h : a.length.beq 0 with
    | false => rfl
    | true => have := Nat.eq_of_beq_eq_true h; omega
  have b1 : (0 + a.length * 4).ble (insC a).length = true := Nat.ble_eq_true_of_le (by rw [insC_len]; omega)
  have b2 : room a.length 32 = true := Nat.ble_eq_true_of_le (by omega)
  have b3 : room (a.length + 2) 32 = true := Nat.ble_eq_true_of_le (by omega)
  have b4 : (0 + a.length * 4).ble (List.take (a.length * 4) (List.drop 0 (insC a))).length = true := by rw [List.drop_zero, htk]; exact b1
  have nx : nx3 a.length (a.length + 2) rw cl (insC a) (cn3 a.length (insC a) d imm) (Sem3 w0 fun rs' _ => rs' = [B true]) := by
    unfold nx3
    rw [hcn, htk]
    exact ⟨⟨hc, pa, pN, trivial⟩, next⟩
  rw [hm, b1, b2, b3, b4, beq_self_eq_true, beq_self_eq_true, decide_eq_false (show ¬ ((a.length + 2 : Nat) : Int) > 128 by omega)]
  exact ⟨nx, nx⟩
set_option maxRecDepth 100000 in
theorem call3 (hg : Laid w0) (l : List Ins) (rw : Bool) (op d s imm : Int) :
    CallS Tryd.prog w0 3 [SL G l.length 4, AG [I op, I d, I s, I imm]] (heapB Tryd.prog.globals.size [some (.cells (insC l) rw)]) fun rs' _ => rs' = [B true] := by
  have hn : (heapB Tryd.prog.globals.size [some (.cells (insC l) rw)]).next = Tryd.prog.globals.size + nt1.flags.length := by rw [heapB_next]; rfl
  refine retT_call (nt := nt1) hn (call_sem (cd := Tryd.f3.body.getD .skip) Tryd.func3 (by kernel_rfl) ?_)
  rw [hn]
  refine seg_semI3 (F := ft3) mixed (callsOf_ok (okS3 hg)) (leaf3 (ntx := nt3g) rfl) [7, 10, 11] 20 400 ((start3 l.length rw (insC l) op d s imm _ _).mpr ?_)
  have hm : 0 ≤ lm3 l.length ∧ lm3 l.length ≤ (l.length : Int) ∧ lm3 l.length ≤ 100 := by unfold lm3; split <;> omega
  have p1 := plain_insC l
  rw [decide_eq_true hm.1, decide_eq_true hm.2.1]
  have hA : (A3 (insC l) l.length).length ≤ 100 := by
    unfold A3 tk8
    rw [List.length_take]
    omega
  generalize A3 (insC l) l.length = a at hA
  have pa := plain_insC a
  have htk : List.take (a.length * 4) (insC a) = insC a := List.take_of_length_le (by rw [insC_len]; omega)
  rw [unIns_insC, unIns_insC, htk]
  refine ⟨⟨trivial, trivial, trivial⟩, ⟨⟨p1, trivial⟩, ⟨p1, pa, pa, trivial⟩, rfl, by omega⟩, ⟨⟨pa, pa, trivial⟩, ⟨pa, pa, trivial⟩, rfl, rfl, rfl, rfl⟩, ?_⟩
  refine bifN (fun c => ⟨⟨p1, trivial⟩, rfl⟩) (fun c => ⟨⟨p1, plain_ins4 _ _ _ _, pa, trivial⟩, tail3 hg p1 hA c⟩)

open Go.ChangeShapes Go.WideShapes Go.ChangeAt Go.RowKit

theorem Tryd.own : ownKnob Tryd.prog.godebug = none := by kernel_rfl
theorem Tryd.laidOut : laidOutB Tryd.prog = true := by kernel_rfl
theorem Tryd.et : Tryd.prog.globalNamed "errors.errorType" = some 0 := by kernel_rfl
theorem Tryd.rt : (Tryd.prog.cutTypes.find? (·.1 == "internal/reflectlite.rtype")).map (·.2) = some 154 := by kernel_rfl
theorem Tryd.oneRow : ((List.range Tryd.prog.types.size).filter fun t => Tryd.prog.rowNamed t [101, 114, 114, 111, 114]) = [38] := by kernel_rfl
abbrev laidL : List (String × DataW Unit) := [("errors.errorType", Rows.laid_errors_errorType)]
theorem laid_of {W : World} (h : laidMetH Tryd.prog laidL W) : Laid W := by
  have h' : laidMet Tryd.prog [] W ∧ handlesMet Tryd.prog laidL W := h
  obtain ⟨name, u, ty, e1, e2, e3, e4, e5⟩ := h'.2 _ (List.mem_singleton.2 rfl)
  have en : name = [101, 114, 114, 111, 114] := (Option.some.inj e1).symm
  subst en
  obtain rfl := Option.some.inj (Tryd.rt.symm.trans e2)
  have hm : ty ∈ (List.range Tryd.prog.types.size).filter fun t => Tryd.prog.rowNamed t [101, 114, 114, 111, 114] := List.mem_filter.2 ⟨List.mem_range.2 e3, e4⟩
  rw [Tryd.oneRow] at hm
  obtain rfl := List.mem_singleton.1 hm
  have hh : typeHandle Tryd.prog 38 = .pointer (some ⟨2, 38, none⟩) := by kernel_rfl
  rw [hh] at e5
  show W.cell? ⟨0, 0, none⟩ = _
  simpa using World.var?_cell Tryd.et e5 0
/-- A world with the variable laid. -/
noncomputable def laidWorld (os : Os) : World :=
  let w0 := World.holding Tryd.prog os ⟨#[], #[], []⟩
  { w0 with heap := w0.heap.modify 0 fun
      | .cells _ t frozen => .cells #[.iface 154 (.agg #[.pointer (some ⟨2, 38, none⟩)])] t frozen
      | o => o }
theorem laidWorld_met (os : Os) (args : Array Value) : laidMetH Tryd.prog laidL ((laidWorld os).forCall (fun _ _ => 0) ⟨#[], args, []⟩).memory :=
  laidMetH_of_parts (laidMet_nil _ _) (by kernel_rfl)

/-- A row with a further condition on memory, where the world's shape is told too. -/
theorem handed_and_shaped {H : Type} {enc : TypeId × Value → H} {a : Assume} {C : Checked} {os : Os} {f : FuncId} {fn : Func} {s : ChangeSpec} {conds : List PathCond} {apart fresh handsOn again : Bool} {X : World → Array Value → Prop}
    (hX : ∀ (w w' : World) (args : Array Value), w.heap = w'.heap → X w args → X w' args)
    (own : ownKnob C.prog.godebug = none) (started : os.Started) (noInit : C.prog.inits.idxOf? f = none) (hfn : C.prog.funcs[f]? = some fn)
    (witness : ∃ (w : World) (tape : Tape) (i : Input), w.os = os ∧ (w.forCall tape i).Shaped C.prog ∧ i.vars = [] ∧ Input.okWide C.prog (w.forCall tape i) .any w.heap.size f i ∧
      ((s.pre enc C.prog fn conds apart (w.forCall tape i).memory i.args ∧ X (w.forCall tape i).memory i.args) ∧ sizedMet enc C.prog fn (OpenSpec.ofChange s) apart (w.forCall tape i).memory i.args) ∧ a.holds C.prog (lone (Frame.enter C.prog f i.args .normal) [] (w.forCall tape i)))
    (contract : ∀ (W : World) (base : Nat) (args : Array Value) (ds gs : List (DataW H)) (before : List MemPlace),
      (∀ (j : Nat) t v, fn.params[j]? = some t → args[j]? = some v → Value.okWide C.prog W .any base t v) →
      DataW.Whole enc C.prog fn.params.toList s.vars apart W args.toList ds gs before → X W args → W.ShapedOpen C.prog →
      Calls C.prog f args W fun e W' => ∃ v, e = .returned v ∧ s.post enc C.prog fn apart fresh handsOn again W args v W') :
    ReturnsInHanded a C os f .any (fun w args => (s.pre enc C.prog fn conds apart w args ∧ X w args) ∧ sizedMet enc C.prog fn (OpenSpec.ofChange s) apart w args) (s.post enc C.prog fn apart fresh handsOn again) := by
  refine returnsInHanded_of_calls own started noInit witness ?_
  intro w tape i _ hshape _ hok hpre _
  obtain ⟨_, _, _, fn', hfn', _, _, _, _, hval⟩ := hok
  have hee : fn' = fn := Option.some.inj (hfn'.symm.trans hfn)
  subst hee
  obtain ⟨⟨⟨ds, gs, before, hw, _⟩, hx⟩, _⟩ := hpre
  refine (contract (w.forCall tape i) w.heap.size i.args ds gs before hval (DataW.Whole.of_heap (w' := w.forCall tape i) (by rfl) hw) (hX _ _ _ (by rfl) hx) hshape).mono fun e W' ⟨v, he, hp⟩ => ?_
  subst he
  exact ChangeSpec.post_blind hp
end Go.Proofs.YtadaindmgmielaaDoor
