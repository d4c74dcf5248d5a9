/- AsmLines: words. No condition. -/
import Derived.Test.YtkjdfkodclednaaDoorZw
import Derived.Test.YtkjdfkodclednaaDoorZs
import Derived.ProofKit
import Derived.HandedShaped
import Derived.LaidLaws
import Derived.LaidHandle
import Derived.LaidMore
import Derived.LaidSub
import Derived.JoinedOf
import Derived.Stop.Joined
import Derived.Lib.LaidU8
import Derived.OpenShut
namespace Go.Proofs.YtkjdfkodclednaaDoor
section
open Go.Agm
variable {w0 : World}
noncomputable def ft4 : FT := { loc := fun _ => false, mask := fun id => bif Nat.beq id 5 then live 141 [0, 1, 5, 6] else bif Nat.beq id 10 then live 141 [1, 5] else bif Nat.beq id 16 then live 141 [5, 8, 10, 11, 12, 13] else bif Nat.beq id 25 then live 141 [5, 11] else bif Nat.beq id 29 then live 141 [5, 14, 17] else [] }
abbrev nt4A : Nt := { gh := [⟨5, none, 4⟩], flags := [true], paths := [⟨5, [], true⟩], tr := [] }
abbrev nt4B : Nt := { gh := [], flags := [true], paths := [⟨5, [], true⟩, ⟨14, [], true⟩], tr := [] }
noncomputable def t4a : List Item := todoOf Tryd.f4 5
noncomputable def t4b : List Item := todoOf Tryd.f4 10
noncomputable def t4c : List Item := todoOf Tryd.f4 16
noncomputable def t4d : List Item := todoOf Tryd.f4 25
noncomputable def t4e : List Item := todoOf Tryd.f4 29
abbrev seg4 (cs : List Con) (K : List Value → AHeap → Prop) (L : List Item → List AV → AHeap → Prop) (t : List Item) (fr : List AV) (h : AHeap) : Prop :=
  segK3 Tryd.prog ft4 (semI Tryd.prog (fun _ => ft0) (callsOf G cs) 400 20 (retT G nt1 K)) Tryd.f4 [5, 10, 16, 25, 29] 100 t fr (fun t fr h => match t with
  | .code (.region 29 _ _) :: _ => canonT G nt4B (L t) fr h
  | .code (.region _ _ _) :: _ => canonT G nt4A (L t) fr h
  | _ => False) h
noncomputable def fr4a (n : Nat) (at' : Int) (np : Nat) (i : Int) : List AV := frm 141 [(0, .v (SL G n 4)), (1, .v (I at')), (5, .v (SL (G + 1) np 4)), (6, .v (I i))]
noncomputable def fr4b (at' : Int) (np : Nat) : List AV := frm 141 [(1, .v (I at')), (5, .v (SL (G + 1) np 4))]
noncomputable def fr4c (np : Nat) (t : ByteArray) (k : Int) (o : ByteArray) (ln i : Int) : List AV := frm 141 [(5, .v (SL (G + 1) np 4)), (8, .v (ST t)), (10, .v (I k)), (11, .v (ST o)), (12, .v (I ln)), (13, .v (I i))]
noncomputable def fr4d (np : Nat) (o : ByteArray) : List AV := frm 141 [(5, .v (SL (G + 1) np 4)), (11, .v (ST o))]
noncomputable def fr4e (np ng : Nat) (i : Int) : List AV := frm 141 [(5, .v (SL (G + 1) np 4)), (14, .v (SL (G + 2) ng 4)), (17, .v (I i))]
noncomputable def hp2 (cs : List Value) (rw : Bool) (p : List Value) : AHeap := heapB G [some (.cells cs rw), some (.cells p true)]
noncomputable def hp3 (cs : List Value) (rw : Bool) (p g : List Value) : AHeap := heapB G [some (.cells cs rw), some (.cells p true), some (.cells g true)]
end
section
open Go.Agm
variable {w0 : World}
abbrev P2 (cs p : List Value) : Prop := PlainL cs ∧ PlainL p ∧ True
abbrev P3 (cs a b : List Value) : Prop := PlainL cs ∧ PlainL a ∧ PlainL b ∧ True
theorem s4 (n : Nat) (at' : Int) (cs : List Value) (rw : Bool) (K : List Value → AHeap → Prop) (L : List Item → List AV → AHeap → Prop) : seg4 [con8] K L [.code (Tryd.f4.body.getD .skip)] (startF Tryd.f4 [SL G n 4, I at']) (heapB G [some (.cells cs rw)])
    = ((True ∧ True ∧ True) ∧ P2 cs [] ∧ L t4a (fr4a n at' 0 0) (hp2 cs rw [])) := by kernel_rfl
abbrev C4 (cs : List Value) (i : Int) : List Value := [I (cf cs i 0), I (cf cs i 1), I (cf cs i 2), I (cf cs i 3)]
abbrev apI (a : List Value) (na : Nat) (cs : List Value) (i : Int) : List Value := List.take (na * 4) (List.drop 0 a) ++ C4 cs i
abbrev lt3 (i : Int) (n : Nat) (cs : List Value) (X : Prop) : Prop := bif decide (0 ≤ i) && decide (i < (n : Int)) then bif ok4 cs i then X else False else False
theorem h4a (n np : Nat) (at' i : Int) (cs : List Value) (rw : Bool) (p : List Value) (K : List Value → AHeap → Prop) (L : List Item → List AV → AHeap → Prop) : seg4 [con29, con44] K L t4a (fr4a n at' np i) (hp2 cs rw p)
    = (bif decide (i < (n : Int)) then bif decide (i < 40) then lt3 i n cs ((True ∧ True ∧ True) ∧
        bif r29 (cf cs i 0) (cf cs i 1) (cf cs i 2) (cf cs i 3) then (True ∧ True ∧ True) ∧
          bif !r44 (cf cs i 0) then bif room (np + 1) 32 then bif (0 + np * 4).ble p.length then P2 cs (apI p np cs i) ∧ L t4a (fr4a n at' (np + 1) (w (i + 1))) (hp2 cs rw (apI p np cs i)) else False else False
          else P2 cs p ∧ L t4a (fr4a n at' np (w (i + 1))) (hp2 cs rw p)
        else P2 cs p ∧ L t4a (fr4a n at' np (w (i + 1))) (hp2 cs rw p))
      else P2 cs p ∧ L t4b (fr4b at' np) (hp2 cs rw p)
      else P2 cs p ∧ L t4b (fr4b at' np) (hp2 cs rw p)) := by kernel_rfl
abbrev tx3 (a : List Value) (n : Nat) (X : Prop) : Prop := (PlainL a ∧ True) ∧ (PlainL a ∧ True) ∧ a = insC (unIns a) ∧ (unIns a).length = n ∧ X
abbrev plc (at' : Int) (np : Nat) : Int := (w (w (at'.tmod (w ((np : Int) + 1)) + (np : Int)) + 1)).tmod (w ((np : Int) + 1))
theorem h4b (np : Nat) (at' : Int) (cs : List Value) (rw : Bool) (p : List Value) (t : ByteArray) (K : List Value → AHeap → Prop) (L : List Item → List AV → AHeap → Prop) : seg4 [con9 t .nilIface] K L t4b (fr4b at' np) (hp2 cs rw p)
    = (tx3 p np ((textP (unIns p)).1 = t ∧ errE (textP (unIns p)).2 = .nilIface) ∧ bif w ((np : Int) + 1) == 0 then False else bif w ((np : Int) + 1) == 0 then False else
      P2 cs p ∧ L t4c (fr4c np t (plc at' np) noS 0 0) (hp2 cs rw p)) := by kernel_rfl
abbrev apS (t s : ByteArray) : ByteArray := ⟨⟨t.data.toList ++ s.data.toList⟩⟩
def hereS : ByteArray := ⟨#[104, 101, 114, 101, 58, 10]⟩
abbrev ixB (t : ByteArray) (i : Int) (X : Prop) : Prop := bif decide (0 ≤ i) && decide (i < (t.size : Int)) then X else False
abbrev e10 (t : ByteArray) (i : Int) : Bool := ((t.data.toList.getD i.toNat 0).toNat : Int) == 10
abbrev oneB (t : ByteArray) (i : Int) : ByteArray := t.extract i.toNat (w (i + 1)).toNat
abbrev tail4 (t : ByteArray) (i : Int) (o : ByteArray) (ln : Int) (X : ByteArray → Int → Prop) : Prop :=
  bif decide (i < (t.size : Int)) then bif decide (0 ≤ w (i + 1)) && decide (w (i + 1) ≤ (t.size : Int)) && decide (0 ≤ i) && decide (i ≤ w (i + 1)) then bif (o.size + (oneB t i).size).ble big then
    ixB t i (bif e10 t i then X (apS o (oneB t i)) (w (ln + 1)) else X (apS o (oneB t i)) ln) else False else False else X o ln
abbrev here4 (t : ByteArray) (i : Int) (o : ByteArray) (ln : Int) (X : ByteArray → Int → Prop) : Prop :=
  bif (o.size + hereS.size).ble big then tail4 t i (apS o hereS) (w (ln + 1)) X else False
theorem h4c (np : Nat) (t o : ByteArray) (k ln i : Int) (cs : List Value) (rw : Bool) (p : List Value) (K : List Value → AHeap → Prop) (L : List Item → List AV → AHeap → Prop) : seg4 [] K L t4c (fr4c np t k o ln i) (hp2 cs rw p)
    = (bif decide (i ≤ (t.size : Int)) then
        bif ln == k then bif i == 0 then here4 t i o ln (fun o' l' => P2 cs p ∧ L t4c (fr4c np t k o' l' (w (i + 1))) (hp2 cs rw p))
          else ixB t (w (i - 1)) (bif e10 t (w (i - 1)) then here4 t i o ln (fun o' l' => P2 cs p ∧ L t4c (fr4c np t k o' l' (w (i + 1))) (hp2 cs rw p))
            else tail4 t i o ln (fun o' l' => P2 cs p ∧ L t4c (fr4c np t k o' l' (w (i + 1))) (hp2 cs rw p)))
        else tail4 t i o ln (fun o' l' => P2 cs p ∧ L t4c (fr4c np t k o' l' (w (i + 1))) (hp2 cs rw p))
      else P2 cs p ∧ L t4d (fr4d np o) (hp2 cs rw p)) := by kernel_rfl
theorem h4d (np : Nat) (o : ByteArray) (g : List Ins) (cs : List Value) (rw : Bool) (p : List Value) (K : List Value → AHeap → Prop) (L : List Item → List AV → AHeap → Prop) : seg4 [con12p g [I 0, .nilIface]] K L t4d (fr4d np o) (hp2 cs rw p)
    = ((True ∧ (PlainL (insC g) ∧ True) ∧ o.size ≤ 100000 ∧ (parseP o).2 = g ∧ errV (parseP o).1 = [I 0, .nilIface]) ∧
      bif (g.length : Int) != (np : Int) then (PlainL cs ∧ True) ∧ K [B false] (heapB G [some (.cells cs rw)]) else P3 cs p (insC g) ∧ L t4e (fr4e np g.length 0) (hp3 cs rw p (insC g))) := by kernel_rfl
abbrev eq4 (a b : List Value) (i : Int) : Bool := intO (nth a (at4 i 0)) == intO (nth b (at4 i 0)) && (intO (nth a (at4 i 1)) == intO (nth b (at4 i 1)) && (intO (nth a (at4 i 2)) == intO (nth b (at4 i 2)) && (intO (nth a (at4 i 3)) == intO (nth b (at4 i 3)) && true)))
theorem h4e (np ng : Nat) (i : Int) (cs : List Value) (rw : Bool) (p g : List Value) (K : List Value → AHeap → Prop) (L : List Item → List AV → AHeap → Prop) : seg4 [] K L t4e (fr4e np ng i) (hp3 cs rw p g)
    = (bif decide (i < (np : Int)) then lt3 i np p (lt3 i ng g (bif !eq4 p g i then (PlainL cs ∧ True) ∧ K [B false] (heapB G [some (.cells cs rw)]) else P3 cs p g ∧ L t4e (fr4e np ng (w (i + 1))) (hp3 cs rw p g)))
    else (PlainL cs ∧ True) ∧ K [B true] (heapB G [some (.cells cs rw)])) := by kernel_rfl
end
section
open Go.Agm
variable {w0 : World}
def hereN : ByteArray := ⟨#[104, 101, 114, 101]⟩
def hereL : List UInt8 := [104, 101, 114, 101, 58, 10]
/-- The text with the line, from a place on: whether a line begins there, and how many were before. -/
def insH (k : Nat) : Bool → Nat → List UInt8 → List UInt8
  | st, n, [] => bif n == k && st then hereL else []
  | st, n, c :: r => (bif n == k && st then hereL else []) ++ c :: insH k (c == 10) ((bif n == k && st then n + 1 else n) + (bif c == 10 then 1 else 0)) r
theorem insH_past (k : Nat) : ∀ (t : List UInt8) (st : Bool) (n : Nat), k < n → insH k st n t = t
  | [], st, n, h => by
    have : (n == k) = false := by rw [beq_eq_false_iff_ne]; omega
    simp [insH, this]
  | c :: r, st, n, h => by
    have : (n == k) = false := by rw [beq_eq_false_iff_ne]; omega
    rw [insH, this, Bool.false_and, cond_false, cond_false, insH_past k r _ _ (by omega)]
    rfl
theorem insH_mid (k : Nat) : ∀ (w : List UInt8) (st : Bool) (n : Nat) (r : List UInt8), 10 ∉ w → (n == k && st) = false → insH k st n (w ++ 10 :: r) = w ++ 10 :: insH k true (n + 1) r
  | [], st, n, r, _, hs => by
    rw [List.nil_append, insH, hs, cond_false, cond_false, List.nil_append]
    rfl
  | c :: w, st, n, r, hw, hs => by
    have hc : (c == 10) = false := by
      rw [beq_eq_false_iff_ne]
      exact fun e => hw (by rw [e]; simp)
    rw [List.cons_append, insH, hs, cond_false, cond_false, hc, cond_false, List.nil_append, Nat.add_zero, insH_mid k w false n r (fun h => hw (List.mem_cons_of_mem _ h)) (by rw [Bool.and_false])]
    rfl
theorem insH_at (k : Nat) (t : List UInt8) : insH k true k t = hereL ++ t := by
  cases t with
  | nil => simp [insH]
  | cons c r => rw [insH, beq_self_eq_true, Bool.and_self, cond_true, cond_true, insH_past k r _ _ (by omega)]
section
variable {ν : Nat → ByteArray}
theorem ins_ok {x : Ins} (h : right x = true) (hj : r44 x.op = false) : itmOk (.ins (zj x) (nj ν x)) ∧ (lineB (.ins (zj x) (nj ν x))).data.toList ++ [10] = (WL x).data.toList := by
  have e1 : zj x = x := by unfold zj; rw [hj]; rfl
  have e2 : nj ν x = noS := by unfold nj; rw [hj]; rfl
  have e3 : nj nuA x = noS := by unfold nj; rw [hj]; rfl
  rw [e1, e2]
  refine ⟨⟨h, fun hu => ?_, fun _ => rfl⟩, ?_⟩
  · rw [hj] at hu; simp at hu
  · have := line_ins h
    rw [e1, e3] at this
    exact this
/-- The lines of a program without jumps, where no place is named. -/
theorem lines_no {J : Nat → Bool} : ∀ (r : List Ins) (i : Nat), (∀ j, i ≤ j → J j = false) → (∀ x ∈ r, right x = true ∧ r44 x.op = false) → textI (itsF ν J r i) = r.flatMap fun x => (WL x).data.toList
  | [], i, hJ, _ => by rw [itsF, hJ i (Nat.le_refl _)]; rfl
  | x :: r, i, hJ, hr => by
    rw [itsF, hJ i (Nat.le_refl _), cond_false, List.nil_append, textI_cons, (ins_ok (hr x (by simp)).1 (hr x (by simp)).2).2, List.flatMap_cons,
      lines_no r (i + 1) (fun j hj => hJ j (by omega)) (fun y hy => hr y (List.mem_cons_of_mem _ hy))]
theorem lines_at (k : Nat) : ∀ (r : List Ins) (i : Nat), i ≤ k → (∀ x ∈ r, right x = true ∧ r44 x.op = false) → insH k true i (r.flatMap fun x => (WL x).data.toList) = textI (itsF (fun _ => hereN) (fun j => j == k) r i)
  | [], i, _, _ => by
    rw [List.flatMap_nil, itsF, insH, Bool.and_true]
    cases h : (i == k) <;> rfl
  | x :: r, i, hi, hr => by
    by_cases h : i = k
    · subst h
      rw [insH_at, itsF, beq_self_eq_true, cond_true, textI_app, textI_cons (.ins (zj x) _), (ins_ok (ν := fun _ => hereN) (hr x (by simp)).1 (hr x (by simp)).2).2, List.flatMap_cons,
        lines_no r (i + 1) (fun j hj => by rw [beq_eq_false_iff_ne]; omega) (fun y hy => hr y (List.mem_cons_of_mem _ hy))]
      rfl
    · have hik : (i == k) = false := by rw [beq_eq_false_iff_ne]; exact h
      obtain ⟨o1, o2⟩ := ins_ok (ν := fun _ => hereN) (hr x (by simp)).1 (hr x (by simp)).2
      rw [itsF, hik, cond_false, List.nil_append, textI_cons, List.flatMap_cons, ← o2, List.append_assoc, List.singleton_append,
        insH_mid k _ true i _ (line_chars o1) (by rw [hik, Bool.false_and]), lines_at k r (i + 1) (by omega) (fun y hy => hr y (List.mem_cons_of_mem _ hy))]
      simp
end
theorem here_name : nameR hereN = true := by kernel_rfl
/-- A program without jumps: its text, and what is read where a name is put before a line. -/
theorem here_back {p : List Ins} (hl : p.length ≤ 40) (hp : ∀ x ∈ p, right x = true ∧ r44 x.op = false) (k : Nat) :
    ∃ t : ByteArray, textP p = (t, 0) ∧ t.size ≤ 6200 ∧ parseR ⟨⟨insH k true 0 t.data.toList⟩⟩ = (none, p) := by
  have hr : ∀ x ∈ p, right x = true := fun x hx => (hp x hx).1
  have hno : ∀ x ∈ p, r44 x.op = false := fun x hx => (hp x hx).2
  have hJ : ∀ i : Nat, isJ p (i : Int) = false := fun i => by
    unfold isJ
    rw [List.any_eq_false]
    intro x hx
    rw [hno x hx]; simp
  have ht : textTo p (p.length + 1) = p.flatMap fun x => (WL x).data.toList := by
    rw [text_eq hr]
    exact lines_no p 0 (fun j _ => hJ j) hp
  have hln := text_len2 hr (p.length + 1) (by omega)
  refine ⟨⟨⟨textTo p (p.length + 1)⟩⟩, ?_, ?_, ?_⟩
  · unfold textP
    rw [if_neg (by omega), if_neg (by
      rw [Bool.not_eq_true, List.any_eq_false]
      intro x hx
      rw [hr x hx]; simp), if_neg (by
      rw [Bool.not_eq_true, List.any_eq_false]
      intro x hx
      rw [hno x hx]; simp)]
  · show (textTo p (p.length + 1)).length ≤ 6200
    omega
  · show parseR ⟨⟨insH k true 0 (textTo p (p.length + 1))⟩⟩ = (none, p)
    rw [ht, lines_at k p 0 (Nat.zero_le _) hp]
    refine prog_back (ν := fun _ => hereN) (J := fun j => j == k) hr (by omega) (fun i _ _ => here_name) (fun a b ha hb _ => ?_) (fun x hx hu => ?_)
    · rw [eq_of_beq ha, eq_of_beq hb]
    · rw [hno x hx] at hu; simp at hu
theorem insH_len (k : Nat) : ∀ (t : List UInt8) (st : Bool) (n : Nat), (insH k st n t).length ≤ t.length + (if n ≤ k then 6 else 0)
  | [], st, n => by
    rw [insH]
    by_cases h : n = k
    · subst h; cases st <;> simp [hereL]
    · have : (n == k) = false := by rw [beq_eq_false_iff_ne]; exact h
      rw [this]; simp
  | c :: r, st, n => by
    rw [insH]
    cases hs : (n == k && st) with
    | true =>
      have hn : n = k := by simp only [Bool.and_eq_true, beq_iff_eq] at hs; exact hs.1
      rw [cond_true, cond_true, insH_past k r _ _ (by omega)]
      simp [hereL, hn]
    | false =>
      have ih := insH_len k r (c == 10) (n + (bif c == 10 then 1 else 0))
      rw [cond_false, cond_false, List.nil_append, List.length_cons, List.length_cons]
      refine Nat.le_trans (Nat.succ_le_succ ih) ?_
      cases (c == 10) <;> simp only [cond_true, cond_false] <;> split <;> split <;> omega
end
section
open Go.Agm
variable {w0 : World}
abbrev Sem4 (w0 : World) (K : List Value → AHeap → Prop) (t : List Item) (fr : List AV) (h : AHeap) : Prop := Agm.Sem Tryd.prog w0 (Tryd.prog.globals.size + nt1.flags.length) Tryd.f4 (retT Tryd.prog.globals.size nt1 K) t fr h
theorem leaf4 {K : List Value → AHeap → Prop} : ∀ t fr h, (match t with
    | .code (.region 29 _ _) :: _ => canonT G nt4B (Sem4 w0 K t) fr h
    | .code (.region _ _ _) :: _ => canonT G nt4A (Sem4 w0 K t) fr h
    | _ => False) → Sem4 w0 K t fr h := by
  intro t fr h e
  split at e
  · exact canonT_semN (nt := nt4B) rfl e
  · exact canonT_semN (nt := nt4A) rfl e
  · exact e.elim
theorem via4 {cs : List Con} (hc : ∀ c ∈ cs, c.ok Tryd.prog w0) {K : List Value → AHeap → Prop} {t : List Item} {fr : List AV} {h : AHeap} {R : Prop} (ev : seg4 cs K (Sem4 w0 K) t fr h = R) (r : R) : Sem4 w0 K t fr h :=
  seg_semI3 (F := ft4) mixed (callsOf_ok hc) leaf4 [5, 10, 16, 25, 29] 20 100 (ev.mpr r)
theorem C4_read {l : List Ins} {i : Nat} (h : i < l.length) : C4 (insC l) (i : Int) = insC [l[i]] := by
  obtain ⟨h1, h2, h3, h4⟩ := cf_read h
  obtain ⟨k1, k2, k3, k4⟩ := nth_insC h
  simp only [C4, cf, at4, Int.toNat_natCast, Nat.zero_add, Nat.add_zero, k1, k2, k3, k4, insC]; rfl
theorem eq4_same (l : List Ins) (i : Int) : eq4 (insC l) (insC l) i = true := by simp
/-- Right, and no jump. -/
def plainI (x : Ins) : Bool := right x && !r44 x.op
theorem cf4_read {l : List Ins} {i : Nat} (h : i < l.length) : r29 (cf (insC l) i 0) (cf (insC l) i 1) (cf (insC l) i 2) (cf (insC l) i 3) = right l[i] ∧ cf (insC l) i 0 = l[i].op := by
  obtain ⟨h1, h2, h3, h4⟩ := cf_read h
  refine ⟨?_, h2⟩
  rw [← h4]
theorem c10 (c : UInt8) : ((c.toNat : Int) == 10) = (c == 10) := by
  rw [Bool.eq_iff_iff, beq_iff_eq, beq_iff_eq]
  constructor
  · intro h
    exact UInt8.toNat_inj.1 (by show c.toNat = 10; omega)
  · intro h
    subst h; rfl
theorem oneB_eq {t : ByteArray} {i : Nat} (h : i < t.data.toList.length) (hb : i ≤ 100000) : oneB t (i : Int) = ⟨⟨[t.data.toList[i]]⟩⟩ := by
  refine ba_eq ?_
  show (t.extract (i : Int).toNat (w ((i : Int) + 1)).toNat).data.toList = [t.data.toList[i]]
  rw [w_succ (by omega), Int.toNat_natCast, Int.toNat_natCast, ByteArray.data_extract, Array.toList_extract]
  rw [List.extract_eq_take_drop, show i + 1 - i = 1 by omega, List.drop_eq_getElem_cons h]
  rfl
/-- Whether a line begins at a place. -/
def stb (T : List UInt8) (i : Nat) : Bool := i == 0 || (T.getD (i - 1) 0 == 10)
section
variable {t o : ByteArray} {i n k : Nat} {X : ByteArray → Int → Prop}
theorem tail4_ok (h : i < t.data.toList.length) (hb : i ≤ 100000) (hn : n ≤ 100000) (ho : o.size ≤ 100000) (hX : X ⟨⟨o.data.toList ++ [t.data.toList[i]]⟩⟩ ((n + (bif t.data.toList[i] == 10 then 1 else 0) : Nat) : Int)) : tail4 t i o n X := by
  have hs := Lib.size_eq t
  unfold tail4 ixB
  rw [oneB_eq h hb]
  rw [decide_eq_true (show (i : Int) < (t.size : Int) by omega), w_succ (by omega), w_succ (by omega), decide_eq_true (show (0 : Int) ≤ ((i + 1 : Nat) : Int) by omega), decide_eq_true (show ((i + 1 : Nat) : Int) ≤ (t.size : Int) by omega),
    decide_eq_true (show (0 : Int) ≤ (i : Int) by omega), decide_eq_true (show (i : Int) ≤ ((i + 1 : Nat) : Int) by omega),
    Nat.ble_eq_true_of_le (show o.size + (ByteArray.mk ⟨[t.data.toList[i]]⟩).size ≤ big by rw [show (ByteArray.mk ⟨[t.data.toList[i]]⟩).size = 1 from rfl]; unfold big; omega)]
  have e : e10 t (i : Int) = (t.data.toList[i] == 10) := by
    unfold e10
    rw [Int.toNat_natCast, List.getD_eq_getElem?_getD, List.getElem?_eq_getElem h, Option.getD_some, c10]
  rw [e]
  cases hc : (t.data.toList[i] == 10) with
  | true => rw [hc] at hX; exact hX
  | false => rw [hc] at hX; exact hX
theorem tail4_end (h : i = t.data.toList.length) (hX : X o n) : tail4 t i o n X := by
  have hs := Lib.size_eq t
  unfold tail4
  rw [decide_eq_false (show ¬ (i : Int) < (t.size : Int) by omega)]
  exact hX
theorem head4_ok (hi : i ≤ t.data.toList.length) (hb : i ≤ 100000) (hn : n ≤ 100000) (ho : o.size ≤ 100000)
    (hX : tail4 t i ⟨⟨o.data.toList ++ (bif n == k && stb t.data.toList i then hereL else [])⟩⟩ ((bif n == k && stb t.data.toList i then n + 1 else n : Nat) : Int) X) :
    bif (n : Int) == (k : Int) then bif (i : Int) == 0 then here4 t i o n X else ixB t (w ((i : Int) - 1)) (bif e10 t (w ((i : Int) - 1)) then here4 t i o n X else tail4 t i o n X) else tail4 t i o n X := by
  have hs := Lib.size_eq t
  have hh : (bif n == k && stb t.data.toList i then true else false) = true → here4 t i o n X := fun h => by
    have h' : (n == k && stb t.data.toList i) = true := by simpa using h
    rw [h', cond_true, cond_true] at hX
    unfold here4
    rw [Nat.ble_eq_true_of_le (show o.size + hereS.size ≤ big by rw [show hereS.size = 6 from rfl]; unfold big; omega), cond_true, w_succ (by omega)]
    exact hX
  have hf : (n == k && stb t.data.toList i) = false → tail4 t i o n X := fun h => by
    rw [h, cond_false, cond_false, List.append_nil] at hX
    exact hX
  by_cases hk : n = k
  · subst hk
    rw [beq_self_eq_true, cond_true]
    by_cases h0 : i = 0
    · subst h0
      rw [show (((0 : Nat) : Int) == 0) = true from rfl, cond_true]
      exact hh (by simp [stb])
    · rw [show ((i : Int) == 0) = false by rw [beq_eq_false_iff_ne]; omega, cond_false]
      have hw : w ((i : Int) - 1) = ((i - 1 : Nat) : Int) := by
        rw [show ((i : Int) - 1) = ((i - 1 : Nat) : Int) by omega]
        exact w_id (by omega) (by omega)
      rw [hw]
      unfold ixB e10
      rw [decide_eq_true (show (0 : Int) ≤ ((i - 1 : Nat) : Int) by omega), decide_eq_true (show ((i - 1 : Nat) : Int) < (t.size : Int) by omega), Bool.and_self, cond_true, Int.toNat_natCast, c10]
      have hst : stb t.data.toList i = (t.data.toList.getD (i - 1) 0 == 10) := by
        unfold stb
        rw [show (i == 0) = false by rw [beq_eq_false_iff_ne]; exact h0, Bool.false_or]
      cases hc : (t.data.toList.getD (i - 1) 0 == 10) with
      | true => exact hh (by rw [hst, hc]; simp)
      | false => exact hf (by rw [hst, hc]; simp)
  · rw [show ((n : Int) == (k : Int)) = false by rw [beq_eq_false_iff_ne]; omega, cond_false]
    exact hf (by rw [show (n == k) = false by rw [beq_eq_false_iff_ne]; exact hk, Bool.false_and])
end
end
section
open Go.Agm
variable {w0 : World}
theorem pl2 (l p : List Ins) : P2 (insC l) (insC p) := ⟨plain_insC l, plain_insC p, trivial⟩
theorem okA : ∀ c ∈ [con29, con44], c.ok Tryd.prog w0 := fun c hc => by
  simp only [List.mem_cons, List.not_mem_nil, or_false] at hc
  rcases hc with rfl | rfl
  · exact con29_ok
  · exact con44_ok
theorem plc_nat (at' : Int) {np : Nat} (h : np ≤ 1000) : ∃ k : Nat, plc at' np = k := by
  have hn : w ((np : Int) + 1) = ((np + 1 : Nat) : Int) := w_succ (by omega)
  have hpos : (0 : Int) < ((np + 1 : Nat) : Int) := by omega
  have h1 := Int.tmod_lt_of_pos at' hpos
  have h2 : -((np + 1 : Nat) : Int) < at'.tmod ((np + 1 : Nat) : Int) := by
    have := Int.tmod_lt_of_pos (-at') hpos
    rw [Int.neg_tmod] at this
    omega
  unfold plc
  rw [hn]
  generalize at'.tmod ((np + 1 : Nat) : Int) = r at h1 h2
  rw [w_id (show -9223372036854775808 ≤ r + (np : Int) by omega) (by omega), w_id (show -9223372036854775808 ≤ r + (np : Int) + 1 by omega) (by omega)]
  have h3 : 0 ≤ (r + (np : Int) + 1).tmod ((np + 1 : Nat) : Int) := Int.tmod_nonneg _ (by omega)
  exact ⟨((r + (np : Int) + 1).tmod ((np + 1 : Nat) : Int)).toNat, by omega⟩
section
variable {K : List Value → AHeap → Prop} {l : List Ins} {rw : Bool}
theorem loop4a {at' : Int} (hend : Sem4 w0 K t4b (fr4b at' ((l.take 40).filter plainI).length) (hp2 (insC l) rw (insC ((l.take 40).filter plainI)))) :
    ∀ (q i : Nat), i + q = (l.take 40).length → Sem4 w0 K t4a (fr4a l.length at' ((l.take i).filter plainI).length i) (hp2 (insC l) rw (insC ((l.take i).filter plainI))) := by
  intro q
  induction q with
  | zero =>
    intro i hi
    refine via4 okA (h4a _ _ at' i _ rw _ K (Sem4 w0 K)) ?_
    have ht : l.take i = l.take 40 := by
      rw [Nat.add_zero] at hi
      rw [hi, List.length_take]
      by_cases h : 40 ≤ l.length
      · rw [Nat.min_eq_left h]
      · rw [Nat.min_eq_right (by omega), List.take_length, List.take_of_length_le (by omega)]
    rw [ht]
    rw [Nat.add_zero, List.length_take] at hi
    by_cases h1 : i < l.length
    · rw [decide_eq_true (show (i : Int) < (l.length : Int) by omega), cond_true, decide_eq_false (show ¬ (i : Int) < 40 by omega), cond_false]
      exact ⟨pl2 _ _, hend⟩
    · rw [decide_eq_false (show ¬ (i : Int) < (l.length : Int) by omega), cond_false]
      exact ⟨pl2 _ _, hend⟩
  | succ q ih =>
    intro i hi
    refine via4 okA (h4a _ _ at' i _ rw _ K (Sem4 w0 K)) ?_
    rw [List.length_take] at hi
    have hlt : i < l.length := by omega
    have hn := ih (i + 1) (by rw [List.length_take]; omega)
    have hl1 : ((l.take i).filter plainI).length ≤ 40 := by
      have := List.length_filter_le plainI (l.take i)
      rw [List.length_take] at this; omega
    obtain ⟨c1, c2⟩ := cf4_read hlt
    rw [List.take_succ_eq_append_getElem hlt, List.filter_append] at hn
    unfold lt3
    rw [decide_eq_true (show (i : Int) < (l.length : Int) by omega), decide_eq_true (show (i : Int) < 40 by omega), decide_eq_true (show (0 : Int) ≤ (i : Int) by omega), (cf_read hlt).1, c1, c2, w_succ (by omega)]
    refine ⟨⟨trivial, trivial, trivial⟩, ?_⟩
    have no : plainI l[i] = false → P2 (insC l) (insC ((l.take i).filter plainI)) ∧ Sem4 w0 K t4a (fr4a l.length at' ((l.take i).filter plainI).length ((i + 1 : Nat) : Int)) (hp2 (insC l) rw (insC ((l.take i).filter plainI))) := fun h => by
      rw [List.filter_cons_of_neg (by rw [h]; simp), List.filter_nil, List.append_nil] at hn
      exact ⟨pl2 _ _, hn⟩
    cases h1 : right l[i] with
    | false => exact no (by unfold plainI; rw [h1, Bool.false_and])
    | true =>
      refine ⟨⟨trivial, trivial, trivial⟩, ?_⟩
      cases h2 : r44 l[i].op with
      | true => exact no (by unfold plainI; rw [h1, h2]; rfl)
      | false =>
        rw [List.filter_cons_of_pos (by unfold plainI; rw [h1, h2]; rfl), List.filter_nil] at hn
        rw [Bool.not_false, cond_true, room_ok (show ((l.take i).filter plainI).length + 1 ≤ 1000 by omega),
          Nat.ble_eq_true_of_le (show 0 + ((l.take i).filter plainI).length * 4 ≤ (insC ((l.take i).filter plainI)).length by rw [insC_len]; omega), cond_true, cond_true]
        unfold apI
        rw [C4_read hlt, take_insC, ← insC_app]
        rw [List.length_append] at hn
        exact ⟨pl2 _ _, hn⟩
theorem loop4e (hl : l.length ≤ 1000) {cs : List Value} (hc : PlainL cs) (hK : K [B true] (heapB G [some (.cells cs rw)])) : ∀ (q i : Nat), i + q = l.length → Sem4 w0 K t4e (fr4e l.length l.length i) (hp3 cs rw (insC l) (insC l)) := by
  intro q
  induction q with
  | zero =>
    intro i hi
    refine via4 okNo (h4e _ _ i _ rw _ _ K (Sem4 w0 K)) ?_
    rw [decide_eq_false (show ¬ (i : Int) < (l.length : Int) by omega), cond_false]
    exact ⟨⟨hc, trivial⟩, hK⟩
  | succ q ih =>
    intro i hi
    refine via4 okNo (h4e _ _ i _ rw _ _ K (Sem4 w0 K)) ?_
    have hlt : i < l.length := by omega
    unfold lt3
    rw [decide_eq_true (show (i : Int) < (l.length : Int) by omega), decide_eq_true (show (0 : Int) ≤ (i : Int) by omega), (ok_insC hlt).1, eq4_same, w_succ (by omega)]
    exact ⟨⟨hc, plain_insC l, plain_insC l, trivial⟩, ih (i + 1) (by omega)⟩
/-- The text is walked: what comes out is the text with the line. -/
theorem loop4c {np k : Nat} {t : ByteArray} {p : List Ins} {OUT : List UInt8} (hT : t.data.toList.length ≤ 6200) (hO : OUT.length ≤ 10000) (hK : Sem4 w0 K t4d (fr4d np ⟨⟨OUT⟩⟩) (hp2 (insC l) rw (insC p))) :
    ∀ (b : List UInt8) (i n : Nat) (o : ByteArray), t.data.toList.drop i = b → i ≤ t.data.toList.length → n ≤ 2 * i → o.data.toList ++ insH k (stb t.data.toList i) n b = OUT → Sem4 w0 K t4c (fr4c np t k o n i) (hp2 (insC l) rw (insC p)) := by
  have hs := Lib.size_eq t
  have fin : ∀ (o : ByteArray) (n : Int), o.data.toList = OUT → Sem4 w0 K t4c (fr4c np t k o n ((t.data.toList.length + 1 : Nat) : Int)) (hp2 (insC l) rw (insC p)) := fun o n he => by
    refine via4 okNo (h4c np t o k n _ _ rw _ K (Sem4 w0 K)) ?_
    rw [decide_eq_false (show ¬ ((t.data.toList.length + 1 : Nat) : Int) ≤ (t.size : Int) by omega), cond_false]
    have : o = ⟨⟨OUT⟩⟩ := ba_eq he
    rw [this]
    exact ⟨pl2 _ _, hK⟩
  intro b
  induction b with
  | nil =>
    intro i n o hb hi hn ho
    have := congrArg List.length hb
    simp only [List.length_drop, List.length_nil] at this
    have hie : i = t.data.toList.length := by omega
    have hos : o.size ≤ 10000 := by
      rw [Lib.size_eq]
      have := congrArg List.length ho
      rw [List.length_append] at this; omega
    refine via4 okNo (h4c np t o k n i _ rw _ K (Sem4 w0 K)) ?_
    rw [decide_eq_true (show (i : Int) ≤ (t.size : Int) by omega), cond_true]
    refine head4_ok hi (by omega) (by omega) (by omega) (tail4_end hie ⟨pl2 _ _, ?_⟩)
    rw [w_succ (by omega), hie]
    refine fin _ _ ?_
    rw [← ho, insH, hie]
  | cons c r ih =>
    intro i n o hb hi hn ho
    have hlt : i < t.data.toList.length := by
      have := congrArg List.length hb
      simp only [List.length_drop, List.length_cons] at this
      omega
    have hx : t.data.toList[i] = c ∧ t.data.toList.drop (i + 1) = r := by
      rw [List.drop_eq_getElem_cons hlt] at hb
      injection hb with h1 h2
      exact ⟨h1, h2⟩
    rw [insH] at ho
    have hle := congrArg List.length ho
    simp only [List.length_append, List.length_cons] at hle
    have hos : o.size ≤ 10000 := by rw [Lib.size_eq]; omega
    refine via4 okNo (h4c np t o k n i _ rw _ K (Sem4 w0 K)) ?_
    rw [decide_eq_true (show (i : Int) ≤ (t.size : Int) by omega), cond_true]
    have hn' : (bif n == k && stb t.data.toList i then n + 1 else n) ≤ n + 1 := by cases (n == k && stb t.data.toList i) <;> simp
    refine head4_ok hi (by omega) (by omega) (by omega) (tail4_ok hlt (by omega) (by omega) ?_ ⟨pl2 _ _, ?_⟩)
    · show (o.data.toList ++ (bif n == k && stb t.data.toList i then hereL else [])).length ≤ 100000
      rw [List.length_append]; omega
    · rw [w_succ (by omega)]
      refine ih (i + 1) _ _ hx.2 (by omega) ?_ ?_
      · have : (bif t.data.toList[i] == 10 then 1 else 0) ≤ 1 := by cases (t.data.toList[i] == 10) <;> simp
        omega
      · rw [← ho, hx.1]
        have hst : stb t.data.toList (i + 1) = (c == 10) := by
          unfold stb
          rw [show (i + 1 == 0) = false from rfl, Bool.false_or, Nat.add_sub_cancel, List.getD_eq_getElem?_getD, List.getElem?_eq_getElem hlt, Option.getD_some, hx.1]
        rw [hst]
        simp only [List.append_assoc, List.singleton_append]
theorem all4 (hL : Lw w0) {at' : Int} (hK : K [B true] (heapB G [some (.cells (insC l) rw)])) (t0 : List Item) (fr : List AV)
    (st : ∀ (L : List Item → List AV → AHeap → Prop), seg4 [con8] K L t0 fr (heapB G [some (.cells (insC l) rw)]) = ((True ∧ True ∧ True) ∧ P2 (insC l) [] ∧ L t4a (fr4a l.length at' 0 0) (hp2 (insC l) rw []))) : Sem4 w0 K t0 fr (heapB G [some (.cells (insC l) rw)]) := by
  refine via4 (fun c hc => ?_) (st (Sem4 w0 K)) ⟨⟨trivial, trivial, trivial⟩, pl2 l [], ?_⟩
  · simp only [List.mem_cons, List.not_mem_nil, or_false] at hc
    subst hc
    exact con8_ok hL
  refine loop4a ?_ _ 0 (Nat.zero_add _)
  have hp : ∀ x ∈ (l.take 40).filter plainI, right x = true ∧ r44 x.op = false := fun x hx => by
    have := (List.mem_filter.1 hx).2
    unfold plainI at this
    simpa using this
  have hlp : ((l.take 40).filter plainI).length ≤ 40 := by
    have := List.length_filter_le plainI (l.take 40)
    rw [List.length_take] at this; omega
  generalize (l.take 40).filter plainI = p at hp hlp
  obtain ⟨k, hk⟩ := plc_nat at' (np := p.length) (by omega)
  obtain ⟨t, e1, e2, e3⟩ := here_back hlp hp k
  have hpl : PlainL (insC p) ∧ True := ⟨plain_insC p, trivial⟩
  have hln : w ((p.length : Int) + 1) = ((p.length + 1 : Nat) : Int) := w_succ (by omega)
  have hts : t.data.toList.length ≤ 6200 := by rw [← Lib.size_eq]; exact e2
  have hol := insH_len k t.data.toList true 0
  have hol' : (insH k true 0 t.data.toList).length ≤ 10000 := by split at hol <;> omega
  refine via4 (fun c hc => ?_) (h4b p.length at' _ rw _ t K (Sem4 w0 K)) ⟨⟨hpl, hpl, by rw [unIns_insC], by rw [unIns_insC], by rw [unIns_insC, e1], by rw [unIns_insC, e1]; rfl⟩, ?_⟩
  · simp only [List.mem_cons, List.not_mem_nil, or_false] at hc
    subst hc
    exact con9_ok hL _ _
  rw [hln, show (((p.length + 1 : Nat) : Int) == 0) = false by rw [beq_eq_false_iff_ne]; omega, cond_false, cond_false, hk]
  refine ⟨pl2 l p, loop4c (OUT := insH k true 0 t.data.toList) hts hol' ?_ t.data.toList 0 0 noS rfl (Nat.zero_le _) (Nat.zero_le _) rfl⟩
  refine via4 (fun c hc => ?_) (h4d p.length _ p _ rw _ K (Sem4 w0 K)) ⟨⟨trivial, hpl, ?_, by rw [parse_eq, e3], by rw [parse_eq, e3]; rfl⟩, ?_⟩
  · simp only [List.mem_cons, List.not_mem_nil, or_false] at hc
    subst hc
    exact con12p_ok hL _ _
  · show (insH k true 0 t.data.toList).length ≤ 100000
    omega
  · rw [bne_self_eq_false, cond_false]
    exact ⟨⟨plain_insC l, plain_insC p, plain_insC p, trivial⟩, loop4e (by omega) (plain_insC l) hK _ 0 (Nat.zero_add _)⟩
end
set_option maxRecDepth 100000 in
theorem call4 (hL : Lw w0) (l : List Ins) (at' : Int) (rw : Bool) : CallS Tryd.prog w0 4 [SL Tryd.prog.globals.size l.length 4, I at'] (heapB Tryd.prog.globals.size [some (.cells (insC l) rw)]) fun rs h => rs = [B true] ∧ h = heapB Tryd.prog.globals.size [some (.cells (insC l) rw)] := by
  have hn : (heapB Tryd.prog.globals.size [some (.cells (insC l) rw)]).next = Tryd.prog.globals.size + nt1.flags.length := by rw [heapB_next]; rfl
  refine retT_call (nt := nt1) hn (call_sem (cd := Tryd.f4.body.getD .skip) Tryd.func4 (by kernel_rfl) ?_)
  rw [hn]
  generalize hK : (fun rs h => rs = [B true] ∧ h = heapB Tryd.prog.globals.size [some (.cells (insC l) rw)] : List Value → AHeap → Prop) = K
  have hKK : K [B true] (heapB G [some (.cells (insC l) rw)]) := by rw [← hK]; exact ⟨rfl, rfl⟩
  clear hK
  exact all4 hL hKK _ _ (fun L => s4 l.length at' (insC l) rw K L)
end
section
open Go.Agm
variable {w0 : World}
noncomputable def ftN : FT := { loc := fun _ => false, mask := fun id => bif Nat.beq id 5 then live 198 [0, 1, 5, 6] else bif Nat.beq id 8 then live 198 [0, 1, 5, 6, 7] else bif Nat.beq id 10 then live 198 [0, 1, 5, 6, 7] else bif Nat.beq id 13 then live 198 [1, 5, 8] else bif Nat.beq id 17 then live 198 [1, 5] else bif Nat.beq id 22 then live 198 [1, 5, 9, 11, 12] else bif Nat.beq id 27 then live 198 [5, 9, 11, 13, 14] else bif Nat.beq id 30 then live 198 [5, 9, 11, 13, 14, 15] else bif Nat.beq id 33 then live 198 [5, 13] else bif Nat.beq id 37 then live 198 [5, 16, 19] else [] }
abbrev ntNA : Nt := { gh := [⟨5, none, 4⟩], flags := [true], paths := [⟨5, [], true⟩], tr := [] }
abbrev ntNB : Nt := { gh := [], flags := [true], paths := [⟨5, [], true⟩, ⟨16, [], true⟩], tr := [] }
noncomputable def tNa : List Item := todoOf Tryd.f3 5
noncomputable def tNb : List Item := todoOf Tryd.f3 13
noncomputable def tNc : List Item := todoOf Tryd.f3 17
noncomputable def tNd : List Item := todoOf Tryd.f3 22
noncomputable def tNe : List Item := todoOf Tryd.f3 27
noncomputable def tNi : List Item := todoOf Tryd.f3 30
noncomputable def tNf : List Item := todoOf Tryd.f3 33
noncomputable def tNg : List Item := todoOf Tryd.f3 37
abbrev segN (cs : List Con) (K : List Value → AHeap → Prop) (L : List Item → List AV → AHeap → Prop) (t : List Item) (fr : List AV) (h : AHeap) : Prop :=
  segK3 Tryd.prog ftN (semI Tryd.prog (fun _ => ft0) (callsOf G cs) 400 20 (retT G nt1 K)) Tryd.f3 [5, 13, 17, 22, 27, 30, 33, 37] 100 t fr (fun t fr h => match t with
  | .code (.region 37 _ _) :: _ => canonT G ntNB (L t) fr h
  | .code (.region _ _ _) :: _ => canonT G ntNA (L t) fr h
  | _ => False) h
noncomputable def frNa (n : Nat) (s : ByteArray) (np : Nat) (i : Int) : List AV := frm 198 [(0, .v (SL G n 4)), (1, .v (ST s)), (5, .v (SL (G + 1) np 4)), (6, .v (I i))]
noncomputable def frNb (s : ByteArray) (np : Nat) (i : Int) : List AV := frm 198 [(1, .v (ST s)), (5, .v (SL (G + 1) np 4)), (8, .v (I i))]
noncomputable def frNc (s : ByteArray) (np : Nat) : List AV := frm 198 [(1, .v (ST s)), (5, .v (SL (G + 1) np 4))]
noncomputable def frNd (s : ByteArray) (np : Nat) (t nm : ByteArray) (i : Int) : List AV := frm 198 [(1, .v (ST s)), (5, .v (SL (G + 1) np 4)), (9, .v (ST t)), (11, .v (ST nm)), (12, .v (I i))]
noncomputable def frNe (np : Nat) (t nm o : ByteArray) (i : Int) : List AV := frm 198 [(5, .v (SL (G + 1) np 4)), (9, .v (ST t)), (11, .v (ST nm)), (13, .v (ST o)), (14, .v (I i))]
noncomputable def frNi (np : Nat) (t nm o : ByteArray) (i : Int) (b : Bool) : List AV := frm 198 [(5, .v (SL (G + 1) np 4)), (9, .v (ST t)), (11, .v (ST nm)), (13, .v (ST o)), (14, .v (I i)), (15, .v (B b))]
noncomputable def frNf (np : Nat) (o : ByteArray) : List AV := frm 198 [(5, .v (SL (G + 1) np 4)), (13, .v (ST o))]
noncomputable def frNg (np ng : Nat) (i : Int) : List AV := frm 198 [(5, .v (SL (G + 1) np 4)), (16, .v (SL (G + 2) ng 4)), (19, .v (I i))]
end
section
open Go.Agm
variable {w0 : World}
def isD (d : UInt8) : Bool := decide (48 ≤ d.toNat) && decide (d.toNat ≤ 57)
def hdD : List UInt8 → Bool
  | d :: _ => isD d
  | [] => false
/-- The text with the names' beginnings turned. -/
def ren (N : List UInt8) : Bool → List UInt8 → List UInt8
  | _, [] => []
  | h, c :: r => (bif h && c == 97 && hdD r then N else [c]) ++ ren N (c == 10 || c == 32) r
def renW (N : List UInt8) : List UInt8 → List UInt8
  | [] => []
  | c :: r => (bif c == 97 && hdD r then N else [c]) ++ r
section
variable {N : List UInt8}
theorem nosep {c : UInt8} (h : c ≠ 10 ∧ c ≠ 32 ∧ c ≠ 58) : (c == 10 || c == 32) = false := by
  rw [beq_eq_false_iff_ne.2 h.1, beq_eq_false_iff_ne.2 h.2.1]; rfl
theorem ren_mid : ∀ (w r : List UInt8), okWd w → ren N false (w ++ r) = w ++ ren N false r
  | [], _, _ => rfl
  | c :: w, r, h => by
    rw [List.cons_append, ren, Bool.false_and, Bool.false_and, cond_false, nosep (h c (by simp)), ren_mid w r (fun x hx => h x (List.mem_cons_of_mem _ hx))]
    rfl
theorem ren_word {w r : List UInt8} (hw : okWd w) (hne : w ≠ []) (hr : hdD r = false) : ren N true (w ++ r) = renW N w ++ ren N false r := by
  match w, hne with
  | c :: w, _ =>
    have hd : hdD (w ++ r) = hdD w := by
      cases w with
      | nil => exact hr
      | cons d w => rfl
    rw [List.cons_append, ren, hd, nosep (hw c (by simp)), ren_mid w r (fun x hx => hw x (List.mem_cons_of_mem _ hx)), renW, Bool.true_and, List.append_assoc]
theorem ren_32 (r : List UInt8) : ren N false (32 :: r) = 32 :: ren N true r := by rw [ren]; rfl
theorem ren_10 (r : List UInt8) : ren N false (10 :: r) = 10 :: ren N true r := by rw [ren]; rfl
theorem ren_58 (r : List UInt8) : ren N false (58 :: r) = 58 :: ren N false r := by rw [ren]; rfl
theorem ren_tail : ∀ (ws : List (List UInt8)) (x rest : List UInt8), okWd x → x ≠ [] → (∀ w ∈ ws, okWd w ∧ w ≠ []) → ren N true (x ++ Lib.joinTail [32] ws ++ 10 :: rest) = renW N x ++ Lib.joinTail [32] (ws.map (renW N)) ++ 10 :: ren N true rest
  | [], x, rest, hx, hne, _ => by
    simp only [Lib.joinTail, List.map_nil, List.flatten_nil, List.append_nil]
    rw [ren_word hx hne rfl, ren_10]
  | y :: ws, x, rest, hx, hne, h => by
    have e : ∀ (z : List UInt8) (zs : List (List UInt8)), Lib.joinTail [32] (z :: zs) = 32 :: (z ++ Lib.joinTail [32] zs) := fun z zs => by simp [Lib.joinTail]
    rw [List.map_cons, e, e, List.append_assoc, List.cons_append, ren_word hx hne rfl, ren_32, ren_tail ws y rest (h y (by simp)).1 (h y (by simp)).2 (fun w hw => h w (List.mem_cons_of_mem _ hw))]
    simp only [List.append_assoc, List.cons_append]
theorem renW_same {c : UInt8} {r : List UInt8} (h : c ≠ 97) : renW N (c :: r) = c :: r := by
  rw [renW, beq_eq_false_iff_ne.2 h, Bool.false_and]; rfl
theorem dig_ne {c : UInt8} (h : 48 ≤ c.toNat ∧ c.toNat ≤ 57) : c ≠ 97 := ne_of_nat (n := 97) (by omega)
theorem renW_itS (n : Int) : renW N (itS n).data.toList = (itS n).data.toList := by
  rw [itS_list]
  unfold Lib.itoa
  split
  · exact renW_same (by decide)
  · cases h : Lib.decDigits n.toNat with
    | nil => rfl
    | cons c r => exact renW_same (dig_ne (dec_chars _ c (by rw [h]; simp)))
theorem forms_ren {f : List UInt8 × Bool × Bool × Bool} (hf : f ∈ forms) : renW N f.1 = f.1 ∧ f.1 ≠ [] := by
  have : forms.all (fun f => match f.1 with
    | c :: r => !(c == 97 && hdD r)
    | [] => false) = true := by decide
  have h1 := List.all_eq_true.1 this f hf
  obtain ⟨w, b⟩ := f
  cases w with
  | nil => simp at h1
  | cons c r =>
    simp only [Bool.not_eq_true'] at h1
    refine ⟨?_, by simp⟩
    rw [renW, h1]; rfl
/-! Names. -/
def nuN (N : List UInt8) (i : Nat) : ByteArray := ⟨⟨N ++ (itS (i : Int)).data.toList⟩⟩
theorem digs_ok : ((List.range 129).all fun i => (itS (i : Int)).data.toList.all isD && decide (1 ≤ (itS (i : Int)).data.toList.length) && decide ((itS (i : Int)).data.toList.length ≤ 3)) = true := by kernel_rfl
theorem digs {i : Nat} (h : i ≤ 128) : (∀ c ∈ (itS (i : Int)).data.toList, isD c = true) ∧ 1 ≤ (itS (i : Int)).data.toList.length ∧ (itS (i : Int)).data.toList.length ≤ 3 := by
  have := List.all_eq_true.1 digs_ok i (List.mem_range.2 (by omega))
  simp only [Bool.and_eq_true, decide_eq_true_eq] at this
  exact ⟨fun c hc => List.all_eq_true.1 this.1.1 c hc, this.1.2, this.2⟩
theorem renW_name {i : Nat} (h : i ≤ 128) : renW N (nuA i).data.toList = (nuN N i).data.toList := by
  obtain ⟨h1, h2, _⟩ := digs h
  show renW N (97 :: (itS (i : Int)).data.toList) = N ++ (itS (i : Int)).data.toList
  rw [renW]
  cases hl : (itS (i : Int)).data.toList with
  | nil => rw [hl] at h2; simp at h2
  | cons d r =>
    have : isD d = true := h1 d (by rw [hl]; simp)
    rw [show hdD (d :: r) = true from this]; rfl
theorem okWd_nuA (i : Nat) : okWd (nuA i).data.toList := okWd_RG (by decide) _
/-! Lines. -/
theorem ren_lab {i : Nat} (h : i ≤ 128) (rest : List UInt8) : ren N true ((lineB (.lab (nuA i))).data.toList ++ [10] ++ rest) = (lineB (.lab (nuN N i))).data.toList ++ [10] ++ ren N true rest := by
  show ren N true ((nuA i).data.toList ++ [58] ++ [10] ++ rest) = (nuN N i).data.toList ++ [58] ++ [10] ++ ren N true rest
  rw [List.append_assoc, List.append_assoc, List.singleton_append, List.singleton_append, ren_word (okWd_nuA i) (by simp [RG]) rfl, renW_name h, ren_58, ren_10]
  simp
theorem itS_ne {n : Int} : (itS n).data.toList ≠ [] := by
  rw [itS_list]
  unfold Lib.itoa
  split
  · simp
  · rw [Lib.decDigits]
    split <;> simp
theorem ren_ins {x : Ins} (h : right x = true) (hj : r44 x.op = true → x.imm.toNat ≤ 128) (rest : List UInt8) :
    ren N true ((lineB (.ins (zj x) (nj nuA x))).data.toList ++ [10] ++ rest) = (lineB (.ins (zj x) (nj (nuN N) x))).data.toList ++ [10] ++ ren N true rest := by
  obtain ⟨k, f, e1, e2, e3⟩ := ins_get h
  have hop : (zj x).op = x.op := by unfold zj; cases r44 x.op <;> rfl
  have hfm : f ∈ forms := List.mem_of_getElem? e2
  have key : ∀ ν, (lineB (.ins (zj x) (nj ν x))).data.toList = f.1 ++ Lib.joinTail [32] (((bif f.2.1 then [RG 114 (zj x).d] else []) ++ (bif f.2.2.1 then [RG 114 (zj x).s] else []) ++ (bif r44 x.op then [nj ν x] else bif f.2.2.2 then [itS (zj x).imm] else [])).map (·.data.toList)) := fun ν => by
    show (joinS (wsX (forms.getD (zj x).op.toNat ([], false, false, false)) (r44 (zj x).op) (zj x).d (zj x).s (zj x).imm (nj ν x)) spB).data.toList = _
    rw [hop, e3]
    unfold wsX joinS
    show joinL ([⟨⟨f.1⟩⟩] ++ (bif f.2.1 then [RG 114 (zj x).d] else []) ++ (bif f.2.2.1 then [RG 114 (zj x).s] else []) ++ (bif r44 x.op then [nj ν x] else bif f.2.2.2 then [itS (zj x).imm] else [])) spB = _
    rw [List.append_assoc, List.append_assoc, List.singleton_append, joinL_cons, List.append_assoc]
  rw [key nuA, key (nuN N), List.append_assoc, List.singleton_append, ren_tail]
  · rw [(forms_ren hfm).1, List.map_map, List.append_assoc _ [10], List.singleton_append]
    have hm : ∀ ws vs : List ByteArray, ws.map (fun w => renW N w.data.toList) = vs.map (·.data.toList) → ws.map (renW N ∘ (·.data.toList)) = vs.map (·.data.toList) := fun _ _ e => e
    rw [hm _ ((bif f.2.1 then [RG 114 (zj x).d] else []) ++ (bif f.2.2.1 then [RG 114 (zj x).s] else []) ++ (bif r44 x.op then [nj (nuN N) x] else bif f.2.2.2 then [itS (zj x).imm] else []))]
    have r1 : ∀ n : Int, renW N (RG 114 n).data.toList = (RG 114 n).data.toList := fun n => renW_same (by decide)
    have rn := fun hu : r44 x.op = true => renW_name (N := N) (hj hu)
    cases hu : r44 x.op with
    | true =>
      have := rn hu
      cases f.2.1 <;> cases f.2.2.1 <;> simp only [cond_true, cond_false, List.map_nil, List.map_cons, List.nil_append, List.cons_append, r1, this, nj, hu]
    | false => cases f.2.1 <;> cases f.2.2.1 <;> cases f.2.2.2 <;> simp only [cond_true, cond_false, List.map_nil, List.map_cons, List.nil_append, List.cons_append, r1, renW_itS]
  · exact forms_ok f hfm
  · exact (forms_ren (N := N) hfm).2
  · intro w hw
    obtain ⟨b, hb, rfl⟩ := List.mem_map.1 hw
    have hR : ∀ n : Int, okWd (RG 114 n).data.toList ∧ (RG 114 n).data.toList ≠ [] := fun n => ⟨okWd_RG (by decide) n, by simp [RG]⟩
    rcases List.mem_append.1 hb with hb | hb
    · rcases List.mem_append.1 hb with hb | hb
      · cases h1 : f.2.1 with
        | true => rw [h1] at hb; rw [List.mem_singleton.1 hb]; exact hR _
        | false => rw [h1] at hb; simp at hb
      · cases h1 : f.2.2.1 with
        | true => rw [h1] at hb; rw [List.mem_singleton.1 hb]; exact hR _
        | false => rw [h1] at hb; simp at hb
    · cases hu : r44 x.op with
      | true =>
        rw [hu] at hb
        rw [List.mem_singleton.1 hb]
        unfold nj
        rw [hu]
        exact ⟨okWd_nuA _, by simp [RG]⟩
      | false =>
        rw [hu] at hb
        cases h1 : f.2.2.2 with
        | true => rw [h1] at hb; rw [List.mem_singleton.1 hb]; exact ⟨okWd_itS _, itS_ne⟩
        | false => rw [h1] at hb; simp at hb
end
end
section
open Go.Agm
variable {w0 : World}
theorem sN (n : Nat) (s : ByteArray) (cs : List Value) (rw : Bool) (K : List Value → AHeap → Prop) (L : List Item → List AV → AHeap → Prop) : segN [con8] K L [.code (Tryd.f3.body.getD .skip)] (startF Tryd.f3 [SL G n 4, ST s]) (heapB G [some (.cells cs rw)])
    = ((True ∧ True ∧ True) ∧ P2 cs [] ∧ L tNa (frNa n s 0 0) (hp2 cs rw [])) := by kernel_rfl
abbrev mnN (n : Nat) : Int := if 60 < (n : Int) then 60 else (n : Int)
abbrev adI (n : Nat) (v : Int) : Int := (w (((BitVec.ofInt 64 v).and (BitVec.ofInt 64 63)).toNat : Int)).tmod (w (mnN n + 1))
abbrev addN (n : Nat) (s : ByteArray) (np : Nat) (i : Int) (cs : List Value) (rw : Bool) (p c : List Value) (L : List Item → List AV → AHeap → Prop) : Prop :=
  bif room (np + 1) 32 then bif (0 + np * 4).ble p.length then P2 cs (List.take (np * 4) (List.drop 0 p) ++ c) ∧ L tNa (frNa n s (np + 1) (w (i + 1))) (hp2 cs rw (List.take (np * 4) (List.drop 0 p) ++ c)) else False else False
theorem hNa (n np : Nat) (s : ByteArray) (i : Int) (cs : List Value) (rw : Bool) (p : List Value) (K : List Value → AHeap → Prop) (L : List Item → List AV → AHeap → Prop) : segN [con29, con44] K L tNa (frNa n s np i) (hp2 cs rw p)
    = (bif decide (i < (n : Int)) then bif decide (i < 60) then lt3 i n cs ((True ∧ True ∧ True) ∧
        bif r44 (cf cs i 0) then bif w (mnN n + 1) == 0 then False else (True ∧ True ∧ True) ∧
          bif r29 (cf cs i 0) (cf cs i 1) (cf cs i 2) (adI n (cf cs i 3)) then addN n s np i cs rw p [I (cf cs i 0), I (cf cs i 1), I (cf cs i 2), I (adI n (cf cs i 3))] L
          else P2 cs p ∧ L tNa (frNa n s np (w (i + 1))) (hp2 cs rw p)
        else (True ∧ True ∧ True) ∧
          bif r29 (cf cs i 0) (cf cs i 1) (cf cs i 2) (cf cs i 3) then addN n s np i cs rw p (C4 cs i) L
          else P2 cs p ∧ L tNa (frNa n s np (w (i + 1))) (hp2 cs rw p))
      else P2 cs p ∧ L tNb (frNb s np 0) (hp2 cs rw p)
      else P2 cs p ∧ L tNb (frNb s np 0) (hp2 cs rw p)) := by kernel_rfl
abbrev capV (np : Nat) (v : Int) : Int := if (np : Int) < v then (np : Int) else v
abbrev lt1 (i : Int) (n : Nat) (cs : List Value) (k : Nat) (X : Prop) : Prop := bif decide (0 ≤ i) && decide (i < (n : Int)) then bif okI .i64 (nth cs (at4 i k)) then X else False else False
theorem hNb (np : Nat) (s : ByteArray) (i : Int) (cs : List Value) (rw : Bool) (p : List Value) (K : List Value → AHeap → Prop) (L : List Item → List AV → AHeap → Prop) : segN [con44] K L tNb (frNb s np i) (hp2 cs rw p)
    = (bif decide (i < (np : Int)) then lt1 i np p 0 ((True ∧ True ∧ True) ∧
        bif r44 (cf p i 0) then lt1 i np p 3 (bif decide (0 ≤ i) && decide (i < (np : Int)) then bif (0 + i.toNat * 4 + 3 + 1).ble p.length then
            P2 cs (splice p (at4 i 3) [I (capV np (cf p i 3))]) ∧ L tNb (frNb s np (w (i + 1))) (hp2 cs rw (splice p (at4 i 3) [I (capV np (cf p i 3))])) else False else False)
        else P2 cs p ∧ L tNb (frNb s np (w (i + 1))) (hp2 cs rw p))
      else P2 cs p ∧ L tNc (frNc s np) (hp2 cs rw p)) := by kernel_rfl
theorem hNc (np : Nat) (s : ByteArray) (cs : List Value) (rw : Bool) (p : List Value) (t : ByteArray) (K : List Value → AHeap → Prop) (L : List Item → List AV → AHeap → Prop) : segN [con9 t .nilIface] K L tNc (frNc s np) (hp2 cs rw p)
    = (tx3 p np ((textP (unIns p)).1 = t ∧ errE (textP (unIns p)).2 = .nilIface) ∧ P2 cs p ∧ L tNd (frNd s np t ⟨⟨[98]⟩⟩ 0) (hp2 cs rw p)) := by kernel_rfl
abbrev ltN (s : ByteArray) (i : Int) : UInt8 := UInt8.ofNat (IntKind.u8.wrap (97 + ((s.data.toList.getD i.toNat 0).toNat : Int).tmod 26)).toNat
theorem hNd (np : Nat) (s t nm : ByteArray) (i : Int) (cs : List Value) (rw : Bool) (p : List Value) (K : List Value → AHeap → Prop) (L : List Item → List AV → AHeap → Prop) : segN [] K L tNd (frNd s np t nm i) (hp2 cs rw p)
    = (bif decide (i < (s.size : Int)) then bif decide (i < 3) then ixB s i (bif (nm.size + (⟨⟨[ltN s i]⟩⟩ : ByteArray).size).ble big then P2 cs p ∧ L tNd (frNd s np t (apS nm ⟨⟨[ltN s i]⟩⟩) (w (i + 1))) (hp2 cs rw p) else False)
      else P2 cs p ∧ L tNe (frNe np t nm noS 0) (hp2 cs rw p)
      else P2 cs p ∧ L tNe (frNe np t nm noS 0) (hp2 cs rw p)) := by kernel_rfl
abbrev byt (t : ByteArray) (i : Int) : Int := ((t.data.toList.getD i.toNat 0).toNat : Int)
theorem hNe (np : Nat) (t nm o : ByteArray) (i : Int) (cs : List Value) (rw : Bool) (p : List Value) (K : List Value → AHeap → Prop) (L : List Item → List AV → AHeap → Prop) : segN [] K L tNe (frNe np t nm o i) (hp2 cs rw p)
    = (bif decide (i < (t.size : Int)) then bif i == 0 then P2 cs p ∧ L tNi (frNi np t nm o i true) (hp2 cs rw p)
        else ixB t (w (i - 1)) (bif byt t (w (i - 1)) == 10 then P2 cs p ∧ L tNi (frNi np t nm o i true) (hp2 cs rw p)
          else ixB t (w (i - 1)) (P2 cs p ∧ L tNi (frNi np t nm o i (byt t (w (i - 1)) == 32)) (hp2 cs rw p)))
      else P2 cs p ∧ L tNf (frNf np o) (hp2 cs rw p)) := by kernel_rfl
abbrev cpN (t : ByteArray) (i : Int) (o : ByteArray) (X : ByteArray → Prop) : Prop :=
  bif decide (0 ≤ w (i + 1)) && decide (w (i + 1) ≤ (t.size : Int)) && decide (0 ≤ i) && decide (i ≤ w (i + 1)) then bif (o.size + (oneB t i).size).ble big then X (apS o (oneB t i)) else False else False
theorem hNi0 (np : Nat) (t nm o : ByteArray) (i : Int) (cs : List Value) (rw : Bool) (p : List Value) (K : List Value → AHeap → Prop) (L : List Item → List AV → AHeap → Prop) : segN [] K L tNi (frNi np t nm o i false) (hp2 cs rw p)
    = cpN t i o (fun o' => P2 cs p ∧ L tNe (frNe np t nm o' (w (i + 1))) (hp2 cs rw p)) := by kernel_rfl
theorem hNi1 (np : Nat) (t nm o : ByteArray) (i : Int) (cs : List Value) (rw : Bool) (p : List Value) (K : List Value → AHeap → Prop) (L : List Item → List AV → AHeap → Prop) : segN [] K L tNi (frNi np t nm o i true) (hp2 cs rw p)
    = ixB t i (bif byt t i == 97 then bif decide (w (i + 1) < (t.size : Int)) then ixB t (w (i + 1)) (bif decide (byt t (w (i + 1)) ≥ 48) then ixB t (w (i + 1)) (bif decide (byt t (w (i + 1)) ≤ 57) then
          bif (o.size + nm.size).ble big then P2 cs p ∧ L tNe (frNe np t nm (apS o nm) (w (i + 1))) (hp2 cs rw p) else False
        else cpN t i o (fun o' => P2 cs p ∧ L tNe (frNe np t nm o' (w (i + 1))) (hp2 cs rw p))) else cpN t i o (fun o' => P2 cs p ∧ L tNe (frNe np t nm o' (w (i + 1))) (hp2 cs rw p)))
        else cpN t i o (fun o' => P2 cs p ∧ L tNe (frNe np t nm o' (w (i + 1))) (hp2 cs rw p)) else cpN t i o (fun o' => P2 cs p ∧ L tNe (frNe np t nm o' (w (i + 1))) (hp2 cs rw p))) := by kernel_rfl
theorem hNf (np : Nat) (o : ByteArray) (g : List Ins) (cs : List Value) (rw : Bool) (p : List Value) (K : List Value → AHeap → Prop) (L : List Item → List AV → AHeap → Prop) : segN [con12p g [I 0, .nilIface]] K L tNf (frNf np o) (hp2 cs rw p)
    = ((True ∧ (PlainL (insC g) ∧ True) ∧ o.size ≤ 100000 ∧ (parseP o).2 = g ∧ errV (parseP o).1 = [I 0, .nilIface]) ∧
      bif (g.length : Int) != (np : Int) then (PlainL cs ∧ True) ∧ K [B false] (heapB G [some (.cells cs rw)]) else P3 cs p (insC g) ∧ L tNg (frNg np g.length 0) (hp3 cs rw p (insC g))) := by kernel_rfl
theorem hNg (np ng : Nat) (i : Int) (cs : List Value) (rw : Bool) (p g : List Value) (K : List Value → AHeap → Prop) (L : List Item → List AV → AHeap → Prop) : segN [] K L tNg (frNg np ng i) (hp3 cs rw p g)
    = (bif decide (i < (np : Int)) then lt3 i ng g (lt3 i np p (bif !eq4 g p i then (PlainL cs ∧ True) ∧ K [B false] (heapB G [some (.cells cs rw)]) else P3 cs p g ∧ L tNg (frNg np ng (w (i + 1))) (hp3 cs rw p g)))
    else (PlainL cs ∧ True) ∧ K [B true] (heapB G [some (.cells cs rw)])) := by kernel_rfl
end
section
open Go.Agm
variable {w0 : World}
section
variable {N : List UInt8} {J : Nat → Bool}
theorem lab_ren {i : Nat} (h : i ≤ 128) (rest : List UInt8) : ren N true (textI (bif J i then [.lab (nuA i)] else []) ++ rest) = textI (bif J i then [.lab (nuN N i)] else []) ++ ren N true rest := by
  cases J i with
  | false => rfl
  | true =>
    rw [cond_true, cond_true, textI_cons, textI_cons, show textI ([] : List Itm) = [] from rfl, List.append_nil, List.append_nil]
    exact ren_lab h rest
theorem text_ren : ∀ (r : List Ins) (i : Nat), (∀ x ∈ r, right x = true ∧ (r44 x.op = true → x.imm.toNat ≤ 128)) → i + r.length ≤ 128 → ∀ rest, ren N true (textI (itsF nuA J r i) ++ rest) = textI (itsF (nuN N) J r i) ++ ren N true rest
  | [], i, _, hi, rest => by
    rw [itsF, itsF]
    exact lab_ren (by simpa using hi) rest
  | x :: r, i, hr, hi, rest => by
    rw [List.length_cons] at hi
    rw [itsF, itsF, textI_app, textI_app, textI_cons, textI_cons, List.append_assoc, lab_ren (by omega), List.append_assoc (_ ++ [10]), ren_ins (hr x (by simp)).1 (hr x (by simp)).2,
      text_ren r (i + 1) (fun y hy => hr y (List.mem_cons_of_mem _ hy)) (by omega)]
    simp only [List.append_assoc]
end
/-- A name's beginning: b, and at most three letters. -/
def NmOk (N : List UInt8) : Prop := ∃ M, N = 98 :: M ∧ M.length ≤ 3 ∧ ∀ c ∈ M, 97 ≤ c.toNat ∧ c.toNat ≤ 122
theorem nameL_ok : ∀ l : List UInt8, (∀ c ∈ l, nmC false c = true) → nameL false l = true
  | [], _ => rfl
  | c :: r, h => by rw [nameL, h c (by simp), nameL_ok r (fun x hx => h x (List.mem_cons_of_mem _ hx))]; rfl
theorem nuN_name {N : List UInt8} (hN : NmOk N) {i : Nat} (h : i ≤ 128) : nameR (nuN N i) = true := by
  obtain ⟨M, rfl, h1, h2⟩ := hN
  obtain ⟨d1, d2, d3⟩ := digs h
  have hs : (nuN (98 :: M) i).size = 1 + M.length + (itS (i : Int)).data.toList.length := by
    show (98 :: M ++ (itS (i : Int)).data.toList).length = _
    simp only [List.length_append, List.length_cons]; omega
  unfold nameR
  rw [eqS_no, decide_eq_false (show ¬ (nuN (98 :: M) i).size = 0 by omega), cond_false, decide_eq_false (show ¬ ((nuN (98 :: M) i).size : Int) > 8 by omega), cond_false]
  show nameL true (98 :: (M ++ (itS (i : Int)).data.toList)) = true
  rw [nameL, show nmC true 98 = true by decide, Bool.true_and]
  refine nameL_ok _ fun c hc => ?_
  unfold nmC
  rcases List.mem_append.1 hc with hc | hc
  · obtain ⟨a, b⟩ := h2 c hc
    rw [decide_eq_true a, decide_eq_true b]; rfl
  · have := d1 c hc
    unfold isD at this
    rw [this]; simp
theorem nuN_inj {N : List UInt8} {a b : Nat} (ha : a ≤ 128) (hb : b ≤ 128) (h : nuN N a = nuN N b) : a = b := by
  have h1 : N ++ (itS (a : Int)).data.toList = N ++ (itS (b : Int)).data.toList := congrArg (·.data.toList) h
  have h2 := List.append_cancel_left h1
  have h3 : nuA a = nuA b := by show RG 97 a = RG 97 b; unfold RG; rw [h2]
  rw [← name_dec ha, ← name_dec hb, h3]
theorem ren_len {N : List UInt8} (hN : N.length ≤ 4) : ∀ (l : List UInt8) (h : Bool), (ren N h l).length ≤ 4 * l.length
  | [], _ => by simp [ren]
  | c :: r, h => by
    have := ren_len hN r (c == 10 || c == 32)
    rw [ren, List.length_append, List.length_cons]
    cases h && c == 97 && hdD r <;> simp only [cond_true, cond_false, List.length_singleton] <;> omega
/-- A program's text, and what is read from it with other names. -/
theorem ren_back {q : List Ins} {N : List UInt8} (hl : q.length ≤ 60) (hq : ∀ x ∈ q, right x = true ∧ (r44 x.op = true → 0 ≤ x.imm ∧ x.imm ≤ q.length)) (hN : NmOk N) :
    ∃ t : ByteArray, textP q = (t, 0) ∧ t.size ≤ 9150 ∧ parseR ⟨⟨ren N true t.data.toList⟩⟩ = (none, q) := by
  have hr : ∀ x ∈ q, right x = true := fun x hx => (hq x hx).1
  have hln := text_len2 hr (q.length + 1) (by omega)
  have hle : ∀ a : Nat, isJ q (a : Int) = true → a ≤ 128 := fun a ha => by
    unfold isJ at ha
    obtain ⟨x, hx, hxe⟩ := List.any_eq_true.1 ha
    simp only [Bool.and_eq_true, decide_eq_true_eq] at hxe
    have := ((hq x hx).2 hxe.1).2
    omega
  refine ⟨⟨⟨textTo q (q.length + 1)⟩⟩, ?_, ?_, ?_⟩
  · unfold textP
    rw [if_neg (by omega), if_neg (by
      rw [Bool.not_eq_true, List.any_eq_false]
      intro x hx
      rw [hr x hx]; simp), if_neg (by
      rw [Bool.not_eq_true, List.any_eq_false]
      intro x hx
      cases hu : r44 x.op with
      | false => simp
      | true =>
        have := ((hq x hx).2 hu).2
        rw [decide_eq_false (by omega)]; simp)]
  · show (textTo q (q.length + 1)).length ≤ 9150
    omega
  · show parseR ⟨⟨ren N true (textTo q (q.length + 1))⟩⟩ = (none, q)
    have ht := text_ren (N := N) (J := fun i => isJ q (i : Int)) q 0 (fun x hx => ⟨hr x hx, fun hu => by
      have := (hq x hx).2 hu
      omega⟩) (by omega) []
    rw [List.append_nil, ← text_eq hr, show ren N true [] = [] from rfl, List.append_nil] at ht
    rw [ht]
    refine prog_back (ν := nuN N) (J := fun i => isJ q (i : Int)) hr (by omega) (fun i hi _ => nuN_name hN (hle i hi)) (fun a b ha hb hab => nuN_inj (hle a ha) (hle b hb) hab) (fun x hx hu => ?_)
    obtain ⟨h0, h1⟩ := (hq x hx).2 hu
    refine ⟨List.any_eq_true.2 ⟨x, hx, ?_⟩, by omega⟩
    rw [hu, Bool.true_and, decide_eq_true_eq, Int.toNat_of_nonneg h0]
/-! The numbers of the law. -/
theorem right_jump {x : Ins} (h : right x = true) (hu : r44 x.op = true) {v : Int} (h1 : 0 ≤ v) (h2 : v < 128) : right { x with imm := v } = true := by
  obtain ⟨o, d, s, i⟩ := x
  have ho : 12 ≤ o ∧ o ≤ 16 := by
    unfold r44 at hu
    simp only at hu
    by_cases a : o ≥ 12
    · rw [decide_eq_true a, cond_true, decide_eq_true_eq] at hu
      exact ⟨a, hu⟩
    · rw [decide_eq_false a] at hu; simp at hu
  have : o = 12 ∨ o = 13 ∨ o = 14 ∨ o = 15 ∨ o = 16 := by omega
  rcases this with rfl | rfl | rfl | rfl | rfl
  all_goals
    simp [right, r29, r50, r51] at h ⊢
    try omega
theorem mn_ok (n : Nat) : 0 ≤ mnN n ∧ mnN n ≤ 60 := by unfold mnN; split <;> omega
theorem adI_ok (n : Nat) (v : Int) : 0 ≤ adI n v ∧ adI n v ≤ 60 := by
  obtain ⟨m1, m2⟩ := mn_ok n
  have h1 : ((BitVec.ofInt 64 v).and (BitVec.ofInt 64 63)).toNat ≤ 63 := by
    show ((BitVec.ofInt 64 v) &&& (BitVec.ofInt 64 63)).toNat ≤ 63
    rw [BitVec.toNat_and]
    exact Nat.and_le_right
  unfold adI
  rw [w_id (show -9223372036854775808 ≤ (((BitVec.ofInt 64 v).and (BitVec.ofInt 64 63)).toNat : Int) by omega) (by omega), w_id (show -9223372036854775808 ≤ mnN n + 1 by omega) (by omega)]
  have h2 := Int.tmod_lt_of_pos (((BitVec.ofInt 64 v).and (BitVec.ofInt 64 63)).toNat : Int) (show 0 < mnN n + 1 by omega)
  exact ⟨Int.tmod_nonneg _ (by omega), by omega⟩
theorem letters : ((List.range 256).all fun b => decide (97 ≤ (UInt8.ofNat (IntKind.u8.wrap (97 + (b : Int).tmod 26)).toNat).toNat) && decide ((UInt8.ofNat (IntKind.u8.wrap (97 + (b : Int).tmod 26)).toNat).toNat ≤ 122)) = true := by kernel_rfl
theorem ltN_ok (s : ByteArray) (i : Int) : 97 ≤ (ltN s i).toNat ∧ (ltN s i).toNat ≤ 122 := by
  have := List.all_eq_true.1 letters (s.data.toList.getD i.toNat 0).toNat (List.mem_range.2 (UInt8.toNat_lt _))
  rw [Bool.and_eq_true, decide_eq_true_eq, decide_eq_true_eq] at this
  exact this
/-- An instruction with its number made small. -/
def adX (n : Nat) (x : Ins) : Ins := bif r44 x.op then { x with imm := adI n x.imm } else x
def capX (m : Nat) (x : Ins) : Ins := bif r44 x.op then { x with imm := capV m x.imm } else x
theorem ad_op (n : Nat) (x : Ins) : (adX n x).op = x.op := by unfold adX; cases r44 x.op <;> rfl
theorem cap_op (n : Nat) (x : Ins) : (capX n x).op = x.op := by unfold capX; cases r44 x.op <;> rfl
/-- What the law writes is as it must be. -/
theorem cap_ok {l : List Ins} {n : Nat} {p : List Ins} (hp : p = (l.map (adX n)).filter right) : ∀ x ∈ p.map (capX p.length), right x = true ∧ (r44 x.op = true → 0 ≤ x.imm ∧ x.imm ≤ (p.map (capX p.length)).length) := by
  intro x hx
  obtain ⟨y, hy, rfl⟩ := List.mem_map.1 hx
  have hy' := hy
  rw [hp] at hy'
  obtain ⟨hy1, hy2⟩ := List.mem_filter.1 hy'
  obtain ⟨z, _, rfl⟩ := List.mem_map.1 hy1
  rw [cap_op, List.length_map]
  unfold capX
  cases hu : r44 (adX n z).op with
  | false => exact ⟨hy2, fun h => by simp at h⟩
  | true =>
    have hz : (adX n z).imm = adI n z.imm := by
      rw [ad_op] at hu
      unfold adX
      rw [hu]; rfl
    obtain ⟨a1, a2⟩ := adI_ok n z.imm
    rw [cond_true]
    have h1 : 0 ≤ capV p.length (adX n z).imm ∧ capV p.length (adX n z).imm ≤ p.length ∧ capV p.length (adX n z).imm < 128 := by
      rw [hz]
      unfold capV
      split <;> omega
    exact ⟨right_jump hy2 hu h1.1 h1.2.2, fun _ => ⟨h1.1, h1.2.1⟩⟩
end
section
open Go.Agm
variable {w0 : World}
abbrev SemN (w0 : World) (K : List Value → AHeap → Prop) (t : List Item) (fr : List AV) (h : AHeap) : Prop := Agm.Sem Tryd.prog w0 (Tryd.prog.globals.size + nt1.flags.length) Tryd.f3 (retT Tryd.prog.globals.size nt1 K) t fr h
theorem leafN {K : List Value → AHeap → Prop} : ∀ t fr h, (match t with
    | .code (.region 37 _ _) :: _ => canonT G ntNB (SemN w0 K t) fr h
    | .code (.region _ _ _) :: _ => canonT G ntNA (SemN w0 K t) fr h
    | _ => False) → SemN w0 K t fr h := by
  intro t fr h e
  split at e
  · exact canonT_semN (nt := ntNB) rfl e
  · exact canonT_semN (nt := ntNA) rfl e
  · exact e.elim
theorem viaN {cs : List Con} (hc : ∀ c ∈ cs, c.ok Tryd.prog w0) {K : List Value → AHeap → Prop} {t : List Item} {fr : List AV} {h : AHeap} {R : Prop} (ev : segN cs K (SemN w0 K) t fr h = R) (r : R) : SemN w0 K t fr h :=
  seg_semI3 (F := ftN) mixed (callsOf_ok hc) leafN [5, 13, 17, 22, 27, 30, 33, 37] 20 100 (ev.mpr r)
theorem okN1 : ∀ c ∈ [con44], c.ok Tryd.prog w0 := fun c hc => by
  simp only [List.mem_cons, List.not_mem_nil, or_false] at hc
  subst hc
  exact con44_ok
theorem cfs {l : List Ins} {i : Nat} (h : i < l.length) : cf (insC l) i 0 = l[i].op ∧ cf (insC l) i 1 = l[i].d ∧ cf (insC l) i 2 = l[i].s ∧ cf (insC l) i 3 = l[i].imm := (at_insC h).2.2
section
variable {K : List Value → AHeap → Prop} {l : List Ins} {rw : Bool}
theorem addN_ok {n np i : Nat} {s : ByteArray} {p : List Ins} {x : Ins} {c : List Value} (hnp : np = p.length) (hc : c = insC [x]) (hp : p.length ≤ 100) (hi : i ≤ 1000) (hn : SemN w0 K tNa (frNa n s (p ++ [x]).length ((i + 1 : Nat) : Int)) (hp2 (insC l) rw (insC (p ++ [x])))) :
    addN n s np i (insC l) rw (insC p) c (SemN w0 K) := by
  subst hnp hc
  unfold addN
  rw [room_ok (show p.length + 1 ≤ 1000 by omega), Nat.ble_eq_true_of_le (show 0 + p.length * 4 ≤ (insC p).length by rw [insC_len]; omega), take_insC, ← insC_app, w_succ (by omega)]
  rw [List.length_append] at hn
  exact ⟨pl2 _ _, hn⟩
/-- The instructions that are kept. -/
abbrev keepN (l : List Ins) (i : Nat) : List Ins := ((l.take i).map (adX l.length)).filter right
theorem keep_len (l : List Ins) (i : Nat) : (keepN l i).length ≤ i := by
  have := List.length_filter_le right ((l.take i).map (adX l.length))
  rw [List.length_map, List.length_take] at this
  show (((l.take i).map (adX l.length)).filter right).length ≤ i
  omega
theorem keep_succ {i : Nat} (h : i < l.length) : keepN l (i + 1) = keepN l i ++ (bif right (adX l.length l[i]) then [adX l.length l[i]] else []) := by
  unfold keepN
  rw [List.take_succ_eq_append_getElem h, List.map_append, List.filter_append, List.map_cons, List.map_nil]
  cases hr : right (adX l.length l[i]) with
  | true => rw [List.filter_cons_of_pos hr]; rfl
  | false => rw [List.filter_cons_of_neg (by rw [hr]; simp)]; rfl
theorem loopNa {s : ByteArray} (hend : SemN w0 K tNb (frNb s (keepN l 60).length 0) (hp2 (insC l) rw (insC (keepN l 60)))) :
    ∀ (q i : Nat), i + q = (l.take 60).length → SemN w0 K tNa (frNa l.length s (keepN l i).length i) (hp2 (insC l) rw (insC (keepN l i))) := by
  intro q
  induction q with
  | zero =>
    intro i hi
    refine viaN okA (hNa _ _ s i _ rw _ K (SemN w0 K)) ?_
    have ht : keepN l i = keepN l 60 := by
      rw [Nat.add_zero] at hi
      unfold keepN
      rw [hi, List.length_take]
      by_cases h : 60 ≤ l.length
      · rw [Nat.min_eq_left h]
      · rw [Nat.min_eq_right (by omega), List.take_length, List.take_of_length_le (by omega)]
    rw [ht]
    rw [Nat.add_zero, List.length_take] at hi
    by_cases h1 : i < l.length
    · rw [decide_eq_true (show (i : Int) < (l.length : Int) by omega), cond_true, decide_eq_false (show ¬ (i : Int) < 60 by omega), cond_false]
      exact ⟨pl2 _ _, hend⟩
    · rw [decide_eq_false (show ¬ (i : Int) < (l.length : Int) by omega), cond_false]
      exact ⟨pl2 _ _, hend⟩
  | succ q ih =>
    intro i hi
    refine viaN okA (hNa _ _ s i _ rw _ K (SemN w0 K)) ?_
    rw [List.length_take] at hi
    have hlt : i < l.length := by omega
    have hn := ih (i + 1) (by rw [List.length_take]; omega)
    rw [keep_succ hlt] at hn
    have hkl := keep_len l i
    obtain ⟨c0, c1, c2, c3⟩ := cfs hlt
    obtain ⟨m1, m2⟩ := mn_ok l.length
    unfold lt3
    rw [decide_eq_true (show (i : Int) < (l.length : Int) by omega), decide_eq_true (show (i : Int) < 60 by omega), decide_eq_true (show (0 : Int) ≤ (i : Int) by omega), (cf_read hlt).1]
    refine ⟨⟨trivial, trivial, trivial⟩, ?_⟩
    unfold C4
    rw [c0, c1, c2, c3]
    have no : right (adX l.length l[i]) = false → P2 (insC l) (insC (keepN l i)) ∧ SemN w0 K tNa (frNa l.length s (keepN l i).length (w ((i : Int) + 1))) (hp2 (insC l) rw (insC (keepN l i))) := fun h => by
      rw [h, cond_false, List.append_nil] at hn
      rw [w_succ (by omega)]
      exact ⟨pl2 _ _, hn⟩
    cases hu : r44 l[i].op with
    | true =>
      have ha : adX l.length l[i] = { l[i] with imm := adI l.length l[i].imm } := by unfold adX; rw [hu]; rfl
      rw [cond_true, show (w (mnN l.length + 1) == 0) = false by rw [beq_eq_false_iff_ne, w_id (by omega) (by omega)]; omega, cond_false]
      refine ⟨⟨trivial, trivial, trivial⟩, ?_⟩
      rw [show r29 l[i].op l[i].d l[i].s (adI l.length l[i].imm) = right (adX l.length l[i]) by rw [ha]]
      cases hr : right (adX l.length l[i]) with
      | true =>
        rw [hr, cond_true] at hn
        exact addN_ok rfl (by rw [ha]; rfl) (by omega) (by omega) hn
      | false => exact no hr
    | false =>
      have ha : adX l.length l[i] = l[i] := by unfold adX; rw [hu]; rfl
      refine ⟨⟨trivial, trivial, trivial⟩, ?_⟩
      rw [show r29 l[i].op l[i].d l[i].s l[i].imm = right (adX l.length l[i]) by rw [ha]]
      cases hr : right (adX l.length l[i]) with
      | true =>
        rw [hr, cond_true] at hn
        exact addN_ok rfl (by rw [ha]; rfl) (by omega) (by omega) hn
      | false => exact no hr
/-- Capped up to a place. -/
abbrev capN (p : List Ins) (i : Nat) : List Ins := (p.take i).map (capX p.length) ++ p.drop i
theorem loopNb {s : ByteArray} {p : List Ins} (hp : p.length ≤ 1000) (hend : SemN w0 K tNc (frNc s p.length) (hp2 (insC l) rw (insC (p.map (capX p.length))))) :
    ∀ (q i : Nat), i + q = p.length → SemN w0 K tNb (frNb s p.length i) (hp2 (insC l) rw (insC (capN p i))) := by
  intro q
  induction q with
  | zero =>
    intro i hi
    refine viaN okN1 (hNb _ s i _ rw _ K (SemN w0 K)) ?_
    rw [decide_eq_false (show ¬ (i : Int) < (p.length : Int) by omega), cond_false]
    have : capN p i = p.map (capX p.length) := by unfold capN; rw [List.take_of_length_le (by omega), List.drop_eq_nil_of_le (by omega), List.append_nil]
    rw [this]
    exact ⟨pl2 _ _, hend⟩
  | succ q ih =>
    intro i hi
    refine viaN okN1 (hNb _ s i _ rw _ K (SemN w0 K)) ?_
    have hlt : i < p.length := by omega
    have hn := ih (i + 1) (by omega)
    have hpre : ((p.take i).map (capX p.length)).length = i := by rw [List.length_map, List.length_take]; omega
    have e1 : capN p i = (p.take i).map (capX p.length) ++ p[i] :: p.drop (i + 1) := by unfold capN; rw [List.drop_eq_getElem_cons hlt]
    have e2 : capN p (i + 1) = (p.take i).map (capX p.length) ++ capX p.length p[i] :: p.drop (i + 1) := by
      unfold capN
      rw [List.take_succ_eq_append_getElem hlt, List.map_append, List.map_cons, List.map_nil, List.append_assoc, List.singleton_append]
    have hlen : (capN p i).length = p.length := by unfold capN; rw [List.length_append, hpre, List.length_drop]; omega
    have hlt' : i < (capN p i).length := by omega
    have hget : (capN p i)[i] = p[i] := by
      have : (capN p i)[i]? = some p[i] := by rw [e1, List.getElem?_append_right (by omega), hpre, Nat.sub_self]; rfl
      rw [List.getElem?_eq_getElem hlt'] at this
      exact Option.some.inj this
    obtain ⟨b1, ⟨o0, o1, o2, o3⟩, i0, _, _, i3⟩ := at_insC hlt'
    rw [hget] at i0 i3
    unfold lt1
    rw [decide_eq_true (show (i : Int) < (p.length : Int) by omega), decide_eq_true (show (0 : Int) ≤ (i : Int) by omega), show okI .i64 (nth (insC (capN p i)) (at4 i 0)) = true from o0]
    refine ⟨⟨trivial, trivial, trivial⟩, ?_⟩
    rw [show cf (insC (capN p i)) i 0 = p[i].op from i0]
    cases hu : r44 p[i].op with
    | false =>
      have : capX p.length p[i] = p[i] := by unfold capX; rw [hu]; rfl
      rw [cond_false, w_succ (by omega)]
      rw [e2, this, ← e1] at hn
      exact ⟨pl2 _ _, hn⟩
    | true =>
      rw [cond_true, show okI .i64 (nth (insC (capN p i)) (at4 i 3)) = true from o3, show (0 + (i : Int).toNat * 4 + 3 + 1).ble (insC (capN p i)).length = true from b1, show cf (insC (capN p i)) i 3 = p[i].imm from i3]
      have hsp : splice (insC (capN p i)) (at4 i 3) [I (capV p.length p[i].imm)] = insC (capN p (i + 1)) := by
        have h1 := splice_insC (v := capV p.length p[i].imm) hlt'
        have hat : at4 (i : Int) 3 = i * 4 + 3 := by simp [at4]
        have hcx : capX p.length p[i] = { p[i] with imm := capV p.length p[i].imm } := by unfold capX; rw [hu]; rfl
        rw [hat, h1, e2, hcx]
        congr 1
        have h2 := setI_at ((p.take i).map (capX p.length)) p[i] (p.drop (i + 1)) (capV p.length p[i].imm)
        rw [hpre] at h2
        rw [e1]
        exact h2
      rw [hsp, w_succ (by omega)]
      exact ⟨pl2 _ _, hn⟩
theorem loopNd {np : Nat} {s t : ByteArray} {p : List Value} (hp : PlainL p) (hend : ∀ nm : ByteArray, NmOk nm.data.toList → SemN w0 K tNe (frNe np t nm noS 0) (hp2 (insC l) rw p)) :
    ∀ (q i : Nat), i + q = 3 → ∀ (nm : ByteArray) (M : List UInt8), nm.data.toList = 98 :: M → M.length = i → (∀ c ∈ M, 97 ≤ c.toNat ∧ c.toNat ≤ 122) → SemN w0 K tNd (frNd s np t nm i) (hp2 (insC l) rw p) := by
  intro q
  have hP : P2 (insC l) p := ⟨plain_insC l, hp, trivial⟩
  induction q with
  | zero =>
    intro i hi nm M h1 h2 h3
    refine viaN okNo (hNd _ s t nm i _ rw _ K (SemN w0 K)) ?_
    have hd := hend nm ⟨M, h1, by omega, h3⟩
    by_cases h : i < s.size
    · rw [decide_eq_true (show (i : Int) < (s.size : Int) by omega), cond_true, decide_eq_false (show ¬ (i : Int) < 3 by omega), cond_false]
      exact ⟨hP, hd⟩
    · rw [decide_eq_false (show ¬ (i : Int) < (s.size : Int) by omega), cond_false]
      exact ⟨hP, hd⟩
  | succ q ih =>
    intro i hi nm M h1 h2 h3
    refine viaN okNo (hNd _ s t nm i _ rw _ K (SemN w0 K)) ?_
    by_cases h : i < s.size
    · have hns : nm.size = 1 + i := by rw [Lib.size_eq, h1, List.length_cons]; omega
      unfold ixB
      rw [decide_eq_true (show (i : Int) < (s.size : Int) by omega), decide_eq_true (show (i : Int) < 3 by omega), decide_eq_true (show (0 : Int) ≤ (i : Int) by omega),
        Nat.ble_eq_true_of_le (show nm.size + (⟨⟨[ltN s i]⟩⟩ : ByteArray).size ≤ big by rw [show (⟨⟨[ltN s i]⟩⟩ : ByteArray).size = 1 from rfl]; unfold big; omega), w_succ (by omega)]
      refine ⟨hP, ih (i + 1) (by omega) _ (M ++ [ltN s i]) ?_ ?_ ?_⟩
      · show nm.data.toList ++ [ltN s i] = _
        rw [h1]; rfl
      · rw [List.length_append, h2]; rfl
      · intro c hc
        rcases List.mem_append.1 hc with hc | hc
        · exact h3 c hc
        · rw [List.mem_singleton.1 hc]; exact ltN_ok s i
    · rw [decide_eq_false (show ¬ (i : Int) < (s.size : Int) by omega), cond_false]
      exact ⟨hP, hend nm ⟨M, h1, by omega, h3⟩⟩
end
end
section
open Go.Agm
variable {w0 : World}
/-- Whether a word begins at a place. -/
def hdw (T : List UInt8) (i : Nat) : Bool := i == 0 || (T.getD (i - 1) 0 == 10 || T.getD (i - 1) 0 == 32)
theorem c32 (c : UInt8) : ((c.toNat : Int) == 32) = (c == 32) := by
  rw [Bool.eq_iff_iff, beq_iff_eq, beq_iff_eq]
  constructor
  · intro h
    exact UInt8.toNat_inj.1 (by show c.toNat = 32; omega)
  · intro h
    subst h; rfl
theorem c97 (c : UInt8) : ((c.toNat : Int) == 97) = (c == 97) := by
  rw [Bool.eq_iff_iff, beq_iff_eq, beq_iff_eq]
  constructor
  · intro h
    exact UInt8.toNat_inj.1 (by show c.toNat = 97; omega)
  · intro h
    subst h; rfl
theorem byt_at {t : ByteArray} {i : Nat} (h : i < t.data.toList.length) : byt t (i : Int) = (t.data.toList[i].toNat : Int) := by
  unfold byt
  rw [Int.toNat_natCast, List.getD_eq_getElem?_getD, List.getElem?_eq_getElem h, Option.getD_some]
section
variable {K : List Value → AHeap → Prop} {l : List Ins} {rw : Bool}
theorem cpN_ok {t o : ByteArray} {i : Nat} {X : ByteArray → Prop} (h : i < t.data.toList.length) (hb : i ≤ 100000) (ho : o.size ≤ 100000) (hX : X ⟨⟨o.data.toList ++ [t.data.toList[i]]⟩⟩) : cpN t i o X := by
  have hs := Lib.size_eq t
  unfold cpN
  rw [oneB_eq h hb, w_succ (by omega), decide_eq_true (show (0 : Int) ≤ ((i + 1 : Nat) : Int) by omega), decide_eq_true (show ((i + 1 : Nat) : Int) ≤ (t.size : Int) by omega),
    decide_eq_true (show (0 : Int) ≤ (i : Int) by omega), decide_eq_true (show (i : Int) ≤ ((i + 1 : Nat) : Int) by omega),
    Nat.ble_eq_true_of_le (show o.size + (ByteArray.mk ⟨[t.data.toList[i]]⟩).size ≤ big by rw [show (ByteArray.mk ⟨[t.data.toList[i]]⟩).size = 1 from rfl]; unfold big; omega)]
  exact hX
theorem stepN {np i : Nat} {t nm o : ByteArray} {p : List Ins} {h : Bool} (hi : i < t.data.toList.length) (hb : i ≤ 100000) (ho : o.size ≤ 100000) (hnm : nm.size ≤ 100000)
    (hn : ∀ o' : ByteArray, o'.data.toList = o.data.toList ++ (bif h && t.data.toList[i] == 97 && hdD (t.data.toList.drop (i + 1)) then nm.data.toList else [t.data.toList[i]]) → SemN w0 K tNe (frNe np t nm o' ((i + 1 : Nat) : Int)) (hp2 (insC l) rw (insC p))) :
    SemN w0 K tNi (frNi np t nm o i h) (hp2 (insC l) rw (insC p)) := by
  have hs := Lib.size_eq t
  have cp : (h && t.data.toList[i] == 97 && hdD (t.data.toList.drop (i + 1))) = false → cpN t i o (fun o' => P2 (insC l) (insC p) ∧ SemN w0 K tNe (frNe np t nm o' ((i + 1 : Nat) : Int)) (hp2 (insC l) rw (insC p))) := fun hf => by
    rw [hf] at hn
    exact cpN_ok hi hb ho ⟨pl2 _ _, hn _ rfl⟩
  cases h with
  | false =>
    refine viaN okNo (hNi0 np t nm o i _ rw _ K (SemN w0 K)) ?_
    rw [w_succ (by omega)]
    exact cp rfl
  | true =>
    refine viaN okNo (hNi1 np t nm o i _ rw _ K (SemN w0 K)) ?_
    unfold ixB
    rw [decide_eq_true (show (0 : Int) ≤ (i : Int) by omega), decide_eq_true (show (i : Int) < (t.size : Int) by omega), byt_at hi, c97, w_succ (by omega), Bool.and_self, cond_true]
    cases h97 : (t.data.toList[i] == 97) with
    | false => exact cp (by rw [h97]; rfl)
    | true =>
      rw [cond_true]
      by_cases hlt : i + 1 < t.data.toList.length
      · rw [decide_eq_true (show ((i + 1 : Nat) : Int) < (t.size : Int) by omega), decide_eq_true (show (0 : Int) ≤ ((i + 1 : Nat) : Int) by omega), byt_at hlt, Bool.and_self, cond_true, cond_true]
        have hd : hdD (t.data.toList.drop (i + 1)) = isD t.data.toList[i + 1] := by rw [List.drop_eq_getElem_cons hlt]; rfl
        cases h48 : decide (((t.data.toList[i + 1].toNat : Nat) : Int) ≥ 48) with
        | false =>
          refine cp ?_
          rw [hd]
          unfold isD
          rw [show decide (48 ≤ t.data.toList[i + 1].toNat) = false by rw [decide_eq_false_iff_not] at h48 ⊢; omega]
          simp
        | true =>
          rw [cond_true, cond_true]
          cases h57 : decide (((t.data.toList[i + 1].toNat : Nat) : Int) ≤ 57) with
          | false =>
            refine cp ?_
            rw [hd]
            unfold isD
            rw [show decide (t.data.toList[i + 1].toNat ≤ 57) = false by rw [decide_eq_false_iff_not] at h57 ⊢; omega]
            simp
          | true =>
            have hds : hdD (t.data.toList.drop (i + 1)) = true := by
              rw [hd]
              unfold isD
              rw [decide_eq_true_eq] at h48 h57
              rw [decide_eq_true (by omega), decide_eq_true (by omega)]; rfl
            rw [h97, hds] at hn
            rw [cond_true, Nat.ble_eq_true_of_le (show o.size + nm.size ≤ big by unfold big; omega), cond_true]
            exact ⟨pl2 _ _, hn _ rfl⟩
      · rw [decide_eq_false (show ¬ ((i + 1 : Nat) : Int) < (t.size : Int) by omega), cond_false]
        refine cp ?_
        rw [List.drop_eq_nil_of_le (by omega)]
        simp [hdD]
theorem loopNe {np : Nat} {t nm : ByteArray} {p : List Ins} {OUT : List UInt8} (hT : t.data.toList.length ≤ 9150) (hnm : nm.size ≤ 100) (hO : OUT.length ≤ 50000) (hK : SemN w0 K tNf (frNf np ⟨⟨OUT⟩⟩) (hp2 (insC l) rw (insC p))) :
    ∀ (b : List UInt8) (i : Nat) (o : ByteArray), t.data.toList.drop i = b → i ≤ t.data.toList.length → o.data.toList ++ ren nm.data.toList (hdw t.data.toList i) b = OUT → SemN w0 K tNe (frNe np t nm o i) (hp2 (insC l) rw (insC p)) := by
  have hs := Lib.size_eq t
  intro b
  induction b with
  | nil =>
    intro i o hb hi ho
    have := congrArg List.length hb
    simp only [List.length_drop, List.length_nil] at this
    refine viaN okNo (hNe np t nm o i _ rw _ K (SemN w0 K)) ?_
    rw [decide_eq_false (show ¬ (i : Int) < (t.size : Int) by omega), cond_false]
    rw [ren, List.append_nil] at ho
    have : o = ⟨⟨OUT⟩⟩ := ba_eq ho
    rw [this]
    exact ⟨pl2 _ _, hK⟩
  | cons c r ih =>
    intro i o hb hi ho
    have hlt : i < t.data.toList.length := by
      have := congrArg List.length hb
      simp only [List.length_drop, List.length_cons] at this
      omega
    have hx : t.data.toList[i] = c ∧ t.data.toList.drop (i + 1) = r := by
      rw [List.drop_eq_getElem_cons hlt] at hb
      injection hb with h1 h2
      exact ⟨h1, h2⟩
    have hos : o.size ≤ 50000 := by
      rw [Lib.size_eq]
      have := congrArg List.length ho
      rw [List.length_append] at this; omega
    have st : SemN w0 K tNi (frNi np t nm o i (hdw t.data.toList i)) (hp2 (insC l) rw (insC p)) := by
      refine stepN hlt (by omega) (by omega) (by omega) fun o' ho' => ?_
      refine ih (i + 1) o' hx.2 (by omega) ?_
      have hst : hdw t.data.toList (i + 1) = (c == 10 || c == 32) := by
        unfold hdw
        rw [show (i + 1 == 0) = false from rfl, Bool.false_or, Nat.add_sub_cancel, List.getD_eq_getElem?_getD, List.getElem?_eq_getElem hlt, Option.getD_some, hx.1]
      rw [hst, ho', hx.1, hx.2, ← ho, ren, List.append_assoc]
    refine viaN okNo (hNe np t nm o i _ rw _ K (SemN w0 K)) ?_
    rw [decide_eq_true (show (i : Int) < (t.size : Int) by omega), cond_true]
    by_cases h0 : i = 0
    · subst h0
      rw [show (((0 : Nat) : Int) == 0) = true from rfl, cond_true]
      exact ⟨pl2 _ _, st⟩
    · have hlt' : i - 1 < t.data.toList.length := by omega
      have hw : w ((i : Int) - 1) = ((i - 1 : Nat) : Int) := by
        rw [show ((i : Int) - 1) = ((i - 1 : Nat) : Int) by omega]
        exact w_id (by omega) (by omega)
      have hst : hdw t.data.toList i = (t.data.toList[i - 1] == 10 || t.data.toList[i - 1] == 32) := by
        unfold hdw
        rw [show (i == 0) = false by rw [beq_eq_false_iff_ne]; exact h0, Bool.false_or, List.getD_eq_getElem?_getD, List.getElem?_eq_getElem hlt', Option.getD_some]
      rw [show ((i : Int) == 0) = false by rw [beq_eq_false_iff_ne]; omega, cond_false, hw]
      unfold ixB
      rw [decide_eq_true (show (0 : Int) ≤ ((i - 1 : Nat) : Int) by omega), decide_eq_true (show ((i - 1 : Nat) : Int) < (t.size : Int) by omega), Bool.and_self, cond_true, cond_true, byt_at hlt', c10, c32]
      rw [hst] at st
      cases hc : (t.data.toList[i - 1] == 10) with
      | true =>
        rw [hc, Bool.true_or] at st
        exact ⟨pl2 _ _, st⟩
      | false =>
        rw [hc, Bool.false_or] at st
        exact ⟨pl2 _ _, st⟩
theorem loopNg {g : List Ins} (hl : g.length ≤ 1000) {cs : List Value} (hc : PlainL cs) (hK : K [B true] (heapB G [some (.cells cs rw)])) : ∀ (q i : Nat), i + q = g.length → SemN w0 K tNg (frNg g.length g.length i) (hp3 cs rw (insC g) (insC g)) := by
  intro q
  induction q with
  | zero =>
    intro i hi
    refine viaN okNo (hNg _ _ i _ rw _ _ K (SemN w0 K)) ?_
    rw [decide_eq_false (show ¬ (i : Int) < (g.length : Int) by omega), cond_false]
    exact ⟨⟨hc, trivial⟩, hK⟩
  | succ q ih =>
    intro i hi
    refine viaN okNo (hNg _ _ i _ rw _ _ K (SemN w0 K)) ?_
    have hlt : i < g.length := by omega
    unfold lt3
    rw [decide_eq_true (show (i : Int) < (g.length : Int) by omega), decide_eq_true (show (0 : Int) ≤ (i : Int) by omega), (ok_insC hlt).1, eq4_same, w_succ (by omega)]
    exact ⟨⟨hc, plain_insC g, plain_insC g, trivial⟩, ih (i + 1) (by omega)⟩
theorem allN (hL : Lw w0) {s : ByteArray} (hK : K [B true] (heapB G [some (.cells (insC l) rw)])) (t0 : List Item) (fr : List AV)
    (st : ∀ (L : List Item → List AV → AHeap → Prop), segN [con8] K L t0 fr (heapB G [some (.cells (insC l) rw)]) = ((True ∧ True ∧ True) ∧ P2 (insC l) [] ∧ L tNa (frNa l.length s 0 0) (hp2 (insC l) rw []))) : SemN w0 K t0 fr (heapB G [some (.cells (insC l) rw)]) := by
  refine viaN (fun c hc => ?_) (st (SemN w0 K)) ⟨⟨trivial, trivial, trivial⟩, pl2 l [], ?_⟩
  · simp only [List.mem_cons, List.not_mem_nil, or_false] at hc
    subst hc
    exact con8_ok hL
  refine loopNa ?_ _ 0 (Nat.zero_add _)
  have hlp := keep_len l 60
  have hco := cap_ok (l := l.take 60) (n := l.length) (p := keepN l 60) rfl
  generalize keepN l 60 = p at hlp hco
  refine loopNb (by omega) ?_ _ 0 (Nat.zero_add _)
  have hql : (p.map (capX p.length)).length = p.length := List.length_map _
  generalize p.map (capX p.length) = q at hco hql
  rw [← hql] at hlp ⊢
  have hpl : PlainL (insC q) ∧ True := ⟨plain_insC q, trivial⟩
  obtain ⟨t, e1, _, _⟩ := ren_back (N := [98]) hlp hco ⟨[], rfl, by simp, fun c hc => by simp at hc⟩
  refine viaN (fun c hc => ?_) (hNc q.length s _ rw _ t K (SemN w0 K)) ⟨⟨hpl, hpl, by rw [unIns_insC], by rw [unIns_insC], by rw [unIns_insC, e1], by rw [unIns_insC, e1]; rfl⟩, pl2 l q, ?_⟩
  · simp only [List.mem_cons, List.not_mem_nil, or_false] at hc
    subst hc
    exact con9_ok hL _ _
  refine loopNd hpl.1 (fun nm hnm => ?_) 3 0 rfl _ [] rfl rfl (fun c hc => by simp at hc)
  obtain ⟨t', f1, f2, f3⟩ := ren_back hlp hco hnm
  have ht' : t' = t := (Prod.ext_iff.1 (f1.symm.trans e1)).1
  subst ht'
  have hns : nm.size ≤ 4 := by
    obtain ⟨M, h1, h2, _⟩ := hnm
    rw [Lib.size_eq, h1, List.length_cons]; omega
  have hnl : nm.data.toList.length ≤ 4 := by rw [← Lib.size_eq]; exact hns
  have hts : t'.data.toList.length ≤ 9150 := by rw [← Lib.size_eq]; exact f2
  have hol := ren_len hnl t'.data.toList true
  refine loopNe (OUT := ren nm.data.toList true t'.data.toList) hts (by omega) (by omega) ?_ t'.data.toList 0 noS rfl (Nat.zero_le _) rfl
  refine viaN (fun c hc => ?_) (hNf q.length _ q _ rw _ K (SemN w0 K)) ⟨⟨trivial, hpl, ?_, by rw [parse_eq, f3], by rw [parse_eq, f3]; rfl⟩, ?_⟩
  · simp only [List.mem_cons, List.not_mem_nil, or_false] at hc
    subst hc
    exact con12p_ok hL _ _
  · show (ren nm.data.toList true t'.data.toList).length ≤ 100000
    omega
  · rw [bne_self_eq_false, cond_false]
    exact ⟨⟨plain_insC l, plain_insC q, plain_insC q, trivial⟩, loopNg (by omega) (plain_insC l) hK _ 0 (Nat.zero_add _)⟩
end
set_option maxRecDepth 100000 in
theorem callN (hL : Lw w0) (l : List Ins) (s : ByteArray) (rw : Bool) : CallS Tryd.prog w0 3 [SL Tryd.prog.globals.size l.length 4, ST s] (heapB Tryd.prog.globals.size [some (.cells (insC l) rw)]) fun rs h => rs = [B true] ∧ h = heapB Tryd.prog.globals.size [some (.cells (insC l) rw)] := by
  have hn : (heapB Tryd.prog.globals.size [some (.cells (insC l) rw)]).next = Tryd.prog.globals.size + nt1.flags.length := by rw [heapB_next]; rfl
  refine retT_call (nt := nt1) hn (call_sem (cd := Tryd.f3.body.getD .skip) Tryd.func3 (by kernel_rfl) ?_)
  rw [hn]
  generalize hK : (fun rs h => rs = [B true] ∧ h = heapB Tryd.prog.globals.size [some (.cells (insC l) rw)] : List Value → AHeap → Prop) = K
  have hKK : K [B true] (heapB G [some (.cells (insC l) rw)]) := by rw [← hK]; exact ⟨rfl, rfl⟩
  clear hK
  exact allN hL hKK _ _ (fun L => sN l.length s (insC l) rw K L)
end
section
open Go.Agm
open Go.ChangeShapes Go.WideShapes Go.ChangeAt Go.RowKit
theorem Tryd.own : ownKnob Tryd.prog.godebug = none := by kernel_rfl
theorem Tryd.laidOut : laidOutB Tryd.prog = true := by kernel_rfl
abbrev laidL : List (String × DataW Unit) := [("math/bits.deBruijn32tab", Rows.laid_math_bits_deBruijn32tab), ("math/bits.deBruijn64tab", Rows.laid_math_bits_deBruijn64tab), ("internal/strconv.uint64pow10", Rows.laid_internal_strconv_uint64pow10), ("unicode/utf8.acceptRanges", Rows.laid_unicode_utf8_acceptRanges), ("strconv.ErrRange", Rows.laid_strconv_ErrRange), ("strconv.ErrSyntax", Rows.laid_strconv_ErrSyntax), ("posthorse/asm.forms", Rows.laid_posthorse_asm_forms), ("unicode/utf8.first", Rows.laid_unicode_utf8_first)]
theorem laidL_names : Rows.asmNamesRow.laid = laidL := rfl
theorem laidL_lines : Rows.asmLinesRow.laid = laidL := rfl
/-- A world with the variables laid. -/
noncomputable def laidW (os : Os) : World :=
  { World.doorLaid Tryd.prog 98 os with heap := (World.doorLaid Tryd.prog 98 os).heap.modify 7 fun
      | .cells _ t frozen => .cells (Lib.firstTab.map (Value.int .u8)).toArray t frozen
      | o => o }
end
section
open Go.Agm
open Go.ChangeShapes Go.WideShapes Go.ChangeAt Go.RowKit
set_option maxRecDepth 100000
theorem laidW_met (os : Os) (args : Array Value) : laidMetH Tryd.prog laidL ((laidW os).forCall (fun _ _ => 0) ⟨#[], args, []⟩).memory :=
  laidMetH_of_parts3 (fuel := 8) (laidMet_of_run' 8 (by kernel_rfl) (by kernel_rfl)) (by kernel_rfl) (by kernel_rfl)
end
section
open Go.Agm
open Go.ChangeShapes Go.WideShapes Go.ChangeAt Go.RowKit
theorem Tryd.es : Tryd.prog.globalNamed "strconv.ErrSyntax" = some 3 := by kernel_rfl
theorem Tryd.er : Tryd.prog.globalNamed "strconv.ErrRange" = some 4 := by kernel_rfl
theorem Tryd.fm : Tryd.prog.globalNamed "posthorse/asm.forms" = some 0 := by kernel_rfl
theorem Tryd.g0 : (Tryd.prog.globals[0]?).map (·.type) = some 61 := by kernel_rfl
theorem Tryd.g4 : (Tryd.prog.globals[2]?).map (·.type) = some 105 := by kernel_rfl
theorem Tryd.g5 : (Tryd.prog.globals[3]?).map (·.type) = some 31 := by kernel_rfl
theorem Tryd.g6 : (Tryd.prog.globals[4]?).map (·.type) = some 31 := by kernel_rfl
theorem max_of {W : World} (h : W.ShapedOpen Tryd.prog) : ∃ m, W.cell? ⟨1, 0, none⟩ = some (.int .i64 m) :=
  cell_of_shapedOpen_int (zero := #[.int .i64 0]) (t := 3) h (of_decide_eq_true (by kernel_rfl)) (by kernel_rfl) rfl (by kernel_rfl) (by kernel_rfl) Tryd.underlying3
theorem pow_of {W : World} {l : List (String × DataW Unit)} (h : laidMet Tryd.prog l W) (hm : ("internal/strconv.uint64pow10", Rows.laid_internal_strconv_uint64pow10) ∈ l) : Lib.TabIs Tryd.prog W "internal/strconv.uint64pow10" .u64 Lib.pow10Tab := by
  obtain ⟨g', t', cs, fuel, p, hg, ht, hv, hd⟩ := Lib.laidMet.reads h hm
  obtain rfl := Option.some.inj (Tryd.pow_at.symm.trans hg)
  obtain rfl := Option.some.inj (Tryd.g4.symm.trans ht)
  have hD : (Rows.laid_internal_strconv_uint64pow10 : DataW Unit) = Lib.tabData .u64 Lib.pow10Tab := by kernel_rfl
  rw [hD] at hd
  unfold Lib.TabIs
  rw [hv, ← Lib.cells_of_tab Tryd.underlying105 Tryd.underlying92 (by kernel_rfl) (by kernel_rfl) hd]
theorem err_of {W : World} {l : List (String × DataW Unit)} (h : laidMet Tryd.prog l W) {n tn : String} {d : DataW Unit} {g : Nat} (hm : (n, DataW.iface tn d) ∈ l) (hg : Tryd.prog.globalNamed n = some g) (hty : (Tryd.prog.globals[g]?).map (·.type) = some 31) :
    ∃ ev, W.cell? ⟨g, 0, none⟩ = some ev ∧ (ev = .nilIface ∨ ∃ te pe, ev = .iface te pe) := by
  obtain ⟨g', t', cs, fuel, p, hg', ht, hv, hd⟩ := Lib.laidMet.reads h hm
  obtain rfl := Option.some.inj (hg.symm.trans hg')
  obtain rfl := Option.some.inj (hty.symm.trans ht)
  obtain ⟨f', u, v, hc, _, _⟩ := iface_of_trod Tryd.underlying31 hd
  refine ⟨.iface u v, ?_, .inr ⟨u, v, rfl⟩⟩
  have := World.var?_cell hg hv 0
  rw [Array.eq_one_of_toList hc] at this
  simpa using this
/-! The forms. -/
def formD (f : List UInt8 × Bool × Bool × Bool) : DataW Unit := .agg [.lit (.string f.1), .lit (.bool f.2.1), .lit (.bool f.2.2.1), .lit (.bool f.2.2.2)]
theorem forms_data : (Rows.laid_posthorse_asm_forms : DataW Unit) = .agg (forms.map formD) := by kernel_rfl
theorem four {α : Type} {l : List α} (h : l.length = 4) : ∃ a b c d, l = [a, b, c, d] := by
  match l, h with
  | [a, b, c, d], _ => exact ⟨a, b, c, d, rfl⟩
theorem form_read {W : World} {fuel : Nat} {cs : List Value} {f : List UInt8 × Bool × Bool × Bool} {p : List MemPlace} (h : DataW.trod (fun _ => ()) Tryd.prog W 0 (fun _ => true) false fuel 60 cs = some (formD f, p)) : cs = formC f := by
  obtain ⟨xs, n, rfl, hx, hl, hn, hel⟩ := DataW.trod_struct Tryd.underlying60 h
  rw [show Tryd.prog.cellsOf 60 = 4 by kernel_rfl] at hl
  obtain ⟨c0, c1, c2, c3, rfl⟩ := four hl
  obtain ⟨x0, x1, x2, x3, rfl⟩ := four (l := xs) hn
  have e0 : DataW.trod (fun _ => ()) Tryd.prog W 0 (fun _ => true) false n 9 (([c0, c1, c2, c3].drop 0).take (Tryd.prog.cellsOf 9)) = some x0 := hel 0 _ rfl
  have e1 : DataW.trod (fun _ => ()) Tryd.prog W 0 (fun _ => true) false n 4 (([c0, c1, c2, c3].drop 1).take (Tryd.prog.cellsOf 4)) = some x1 := hel 1 _ rfl
  have e2 : DataW.trod (fun _ => ()) Tryd.prog W 0 (fun _ => true) false n 4 (([c0, c1, c2, c3].drop 2).take (Tryd.prog.cellsOf 4)) = some x2 := hel 2 _ rfl
  have e3 : DataW.trod (fun _ => ()) Tryd.prog W 0 (fun _ => true) false n 4 (([c0, c1, c2, c3].drop 3).take (Tryd.prog.cellsOf 4)) = some x3 := hel 3 _ rfl
  have k4 : Tryd.prog.cellsOf 4 = 1 := by kernel_rfl
  have k9 : Tryd.prog.cellsOf 9 = 1 := by kernel_rfl
  rw [k9] at e0
  rw [k4] at e1 e2 e3
  obtain ⟨s, h0, y0, _⟩ := DataW.trod_string Tryd.underlying9 (x := x0) e0
  obtain ⟨b1, h1, y1⟩ := DataW.trod_bool Tryd.underlying4 (x := x1) e1
  obtain ⟨b2, h2, y2⟩ := DataW.trod_bool Tryd.underlying4 (x := x2) e2
  obtain ⟨b3, h3, y3⟩ := DataW.trod_bool Tryd.underlying4 (x := x3) e3
  subst y0 y1 y2 y3
  simp only [List.drop_zero, List.take_succ_cons, List.take_zero, List.drop_succ_cons, List.cons.injEq, and_true] at h0 h1 h2 h3
  subst h0 h1 h2 h3
  simp only [formD, List.map_cons, List.map_nil, Prod.mk.injEq, DataW.agg.injEq, List.cons.injEq, DataW.lit.injEq, Lit.string.injEq, Lit.bool.injEq, and_true] at hx
  obtain ⟨⟨q0, q1, q2, q3⟩, _⟩ := hx
  simp only [formC, SB]
  rw [q1, q2, q3, q0]
theorem chunks : ∀ (fs : List (List UInt8 × Bool × Bool × Bool)) (cs : List Value), cs.length = fs.length * 4 → (∀ (i : Nat) f, fs[i]? = some f → (cs.drop (i * 4)).take 4 = formC f) → cs = fs.flatMap formC
  | [], cs, hl, _ => by simpa using hl
  | f :: r, cs, hl, h => by
    have h0 := h 0 f rfl
    rw [Nat.zero_mul, List.drop_zero] at h0
    have ih := chunks r (cs.drop 4) (by rw [List.length_drop, hl, List.length_cons]; omega) fun i g hg => by
      have := h (i + 1) g hg
      rw [List.drop_drop, show 4 + i * 4 = (i + 1) * 4 by omega]
      exact this
    rw [List.flatMap_cons, ← h0, ← ih, List.take_append_drop]
theorem tab_of {W : World} {l : List (String × DataW Unit)} (h : laidMet Tryd.prog l W) (hm : ("posthorse/asm.forms", Rows.laid_posthorse_asm_forms) ∈ l) : TabsOk Tryd.prog W tabF := by
  obtain ⟨g', t', cs, fuel, p, hg, ht, hv, hd⟩ := Lib.laidMet.reads h hm
  obtain rfl := Option.some.inj (Tryd.fm.symm.trans hg)
  obtain rfl := Option.some.inj (Tryd.g0.symm.trans ht)
  rw [forms_data] at hd
  have hcs : cs.toList = formsC := by
    obtain ⟨xs, n, rfl, hx, hl, hn, hel⟩ := DataW.trod_array Tryd.underlying61 hd
    rw [show Tryd.prog.cellsOf 61 = 84 by kernel_rfl] at hl
    rw [show Tryd.prog.cellsOf 60 = 4 by kernel_rfl] at hel
    refine chunks forms cs.toList hl fun i f hf => ?_
    have hi : i < 21 := (List.getElem?_eq_some_iff.1 hf).1
    have e := hel i hi
    have hxi : ∃ x, xs[i]? = some x := ⟨xs[i], List.getElem?_eq_getElem (by omega)⟩
    obtain ⟨x, hxx⟩ := hxi
    rw [hxx] at e
    have h1 : xs.map (·.1) = forms.map formD := by
      have := congrArg Prod.fst hx
      simp only [DataW.agg.injEq] at this
      exact this.symm
    have h2 : x.1 = formD f := by
      have := congrArg (·[i]?) h1
      simp only [List.getElem?_map, hxx, hf, Option.map_some, Option.some.injEq] at this
      exact this
    exact form_read (p := x.2) (by rw [e, ← h2])
  intro q hq
  rw [List.mem_singleton] at hq
  subst hq
  refine ⟨by decide +kernel, ?_⟩
  simp only [World.var?, Tryd.fm, Option.bind_some] at hv
  split at hv
  · rename_i C el fz hh
    injection hv with hv
    subst hv
    refine ⟨C, el, fz, hh, hcs, fun x hx => ?_⟩
    have : formsC.all (fun x => one x && plainD 3 x) = true := by kernel_rfl
    have h3 := List.all_eq_true.1 this x hx
    rw [Bool.and_eq_true] at h3
    exact h3
  · simp at hv
theorem lw_of {W : World} (h : laidMetH Tryd.prog laidL W) (hs : W.ShapedOpen Tryd.prog) : Lw W := by
  have h' := (laidMetH_iff.1 h).1
  have hgl : Tryd.prog.globals.size < W.heap.size := globals_lt hs (by kernel_rfl)
  rw [g11] at hgl
  refine ⟨⟨max_of hs, pow_of h' (List.mem_filter.2 ⟨by simp, by kernel_rfl⟩), err_of h' (tn := "*errors.errorString") (d := .ptr (.agg [.lit (.string [105, 110, 118, 97, 108, 105, 100, 32, 115, 121, 110, 116, 97, 120])])) (List.mem_filter.2 ⟨by simp [Rows.laid_strconv_ErrSyntax], by kernel_rfl⟩) Tryd.es Tryd.g5,
    err_of h' (tn := "*errors.errorString") (d := .ptr (.agg [.lit (.string [118, 97, 108, 117, 101, 32, 111, 117, 116, 32, 111, 102, 32, 114, 97, 110, 103, 101])])) (List.mem_filter.2 ⟨by simp [Rows.laid_strconv_ErrRange], by kernel_rfl⟩) Tryd.er Tryd.g6⟩, by omega, tab_of h' (List.mem_filter.2 ⟨by simp, by kernel_rfl⟩)⟩
theorem arg_str {P : Program} {W : World} {r : Reach} {b0 : Nat} {t : TypeId} {v : Value} (ht : P.underlying t = some .string) (h : Value.okWide P W r b0 t v) : ∃ s, v = .string s := by
  simp only [Value.okWide, ht, Cell.okWide] at h
  cases v <;> simp_all [Cell.ok]
/-- A row with a further condition on memory, where the world's shape is told too. -/
theorem handed_and_shaped {H : Type} {enc : TypeId × Value → H} {a : Assume} {C : Checked} {os : Os} {f : FuncId} {fn : Func} {s : ChangeSpec} {conds : List PathCond} {apart fresh handsOn again : Bool} {X : World → Array Value → Prop}
    (hX : ∀ (w w' : World) (args : Array Value), w.heap = w'.heap → X w args → X w' args)
    (own : ownKnob C.prog.godebug = none) (started : os.Started) (noInit : C.prog.inits.idxOf? f = none) (hfn : C.prog.funcs[f]? = some fn)
    (witness : ∃ (w : World) (tape : Tape) (i : Input), w.os = os ∧ (w.forCall tape i).Shaped C.prog ∧ i.vars = [] ∧ Input.okWide C.prog (w.forCall tape i) .any w.heap.size f i ∧
      ((s.pre enc C.prog fn conds apart (w.forCall tape i).memory i.args ∧ X (w.forCall tape i).memory i.args) ∧ sizedMet enc C.prog fn (OpenSpec.ofChange s) apart (w.forCall tape i).memory i.args) ∧ a.holds C.prog (lone (Frame.enter C.prog f i.args .normal) [] (w.forCall tape i)))
    (contract : ∀ (W : World) (base : Nat) (args : Array Value) (ds gs : List (DataW H)) (before : List MemPlace),
      (∀ (j : Nat) t v, fn.params[j]? = some t → args[j]? = some v → Value.okWide C.prog W .any base t v) →
      DataW.Whole enc C.prog fn.params.toList s.vars apart W args.toList ds gs before → X W args → W.ShapedOpen C.prog →
      Calls C.prog f args W fun e W' => ∃ v, e = .returned v ∧ s.post enc C.prog fn apart fresh handsOn again W args v W') :
    ReturnsInHanded a C os f .any (fun w args => (s.pre enc C.prog fn conds apart w args ∧ X w args) ∧ sizedMet enc C.prog fn (OpenSpec.ofChange s) apart w args) (s.post enc C.prog fn apart fresh handsOn again) := by
  refine returnsInHanded_of_calls own started noInit witness ?_
  intro w tape i _ hshape _ hok hpre _
  obtain ⟨_, _, _, fn', hfn', _, _, _, _, hval⟩ := hok
  have hee : fn' = fn := Option.some.inj (hfn'.symm.trans hfn)
  subst hee
  obtain ⟨⟨⟨ds, gs, before, hw, _⟩, hx⟩, _⟩ := hpre
  refine (contract (w.forCall tape i) w.heap.size i.args ds gs before hval (DataW.Whole.of_heap (w' := w.forCall tape i) (by rfl) hw) (hX _ _ _ (by rfl) hx) hshape).mono fun e W' ⟨v, he, hp⟩ => ?_
  subst he
  exact ChangeSpec.post_blind hp
end
end Go.Proofs.YtkjdfkodclednaaDoor
