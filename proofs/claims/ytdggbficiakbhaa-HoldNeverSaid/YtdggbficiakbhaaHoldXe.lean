/- The law HoldOrder: step by step. No condition. -/
import Derived.Test.YtdggbficiakbhaaHoldXd
namespace Go.Proofs.Ytdggbficiakbhaa
open Go.Agm
variable {w0 : World}

noncomputable def cs8 : List Con := [con27, con28, con29, con31, con32]
def ft8 : FT := { loc := fun _ => false, mask := fun id => bif Nat.beq id 7 then live 104 [0, 1, 5, 6, 7, 8] else bif Nat.beq id 11 then live 104 [0, 1, 5, 6, 7, 8, 9] else bif Nat.beq id 17 then live 104 [1, 5, 6, 7, 10, 11] else bif Nat.beq id 25 then live 104 [1, 5, 6, 7, 10, 11, 13, 14] else [] }
abbrev gh8 : List Gh := [⟨5, some ([], 1), 1⟩, ⟨5, some ([], 2), 2⟩, ⟨6, none, 1⟩]
abbrev nt8 : Nt := { gh := gh8, flags := [true, true], paths := [⟨5, [], false⟩, ⟨5, [1], true⟩, ⟨5, [2], true⟩, ⟨6, [], true⟩], tr := [] }
abbrev nt8l : Nt := { gh := gh8, flags := [true, true], paths := [⟨5, [], false⟩, ⟨5, [1], true⟩, ⟨5, [2], true⟩, ⟨6, [], true⟩, ⟨13, [], true⟩], tr := [] }
/-- The law's rows. -/
structure R8 where
  ce : List Value
  co : List Value
  re : Bool
  ro : Bool
noncomputable def hp8 (r : R8) (la : Int) (n m : Nat) (ci ch ct : List Value) : List (Option ABlk) :=
  [some (.cells r.ce r.re), some (.cells r.co r.ro), some (.cells [I la, SL (G + 3) n 1, SL (G + 4) m 2] true), some (.cells ci true), some (.cells ch true), some (.cells ct true)]
noncomputable def hp8l (r : R8) (la : Int) (n m : Nat) (ci ch ct cl : List Value) : List (Option ABlk) :=
  [some (.cells r.ce r.re), some (.cells r.co r.ro), some (.cells [I la, SL (G + 3) n 1, SL (G + 4) m 2] true), some (.cells ci true), some (.cells ch true), some (.cells ct true), some (.cells cl true)]
noncomputable def fr8a (ne no q : Nat) (next i : Int) : List AV := frm 104 [(0, .v (SL G ne 1)), (1, .v (SL (G + 1) no 1)), (5, .v (PT (G + 2))), (6, .v (SL (G + 5) q 1)), (7, .v (I next)), (8, .v (I i))]
noncomputable def fr8b (ne no q : Nat) (next i k : Int) : List AV := frm 104 [(0, .v (SL G ne 1)), (1, .v (SL (G + 1) no 1)), (5, .v (PT (G + 2))), (6, .v (SL (G + 5) q 1)), (7, .v (I next)), (8, .v (I i)), (9, .v (I k))]
noncomputable def fr8c (no q : Nat) (next at' i : Int) : List AV := frm 104 [(1, .v (SL (G + 1) no 1)), (5, .v (PT (G + 2))), (6, .v (SL (G + 5) q 1)), (7, .v (I next)), (10, .v (I at')), (11, .v (I i))]
noncomputable def fr8d (no q kk : Nat) (next at' i j : Int) : List AV := frm 104 [(1, .v (SL (G + 1) no 1)), (5, .v (PT (G + 2))), (6, .v (SL (G + 5) q 1)), (7, .v (I next)), (10, .v (I at')), (11, .v (I i)), (13, .v (SL (G + 6) kk 1)), (14, .v (I j))]
abbrev mF : Mach (List Item) := { fail := [], ret := fun _ _ => [], call := fun _ _ h k => k [.bool true] h }
abbrev mI : Mach (List Item) := { fail := [], ret := fun _ _ => [], call := fun _ _ h k => k [I 0] h }
noncomputable abbrev mS : Mach (List Item) := { fail := [], ret := fun _ _ => [], call := fun _ _ h k => k [SL (G + 5) 0 1] h }
noncomputable abbrev r00 : R8 := ⟨[I 0], [], true, true⟩
noncomputable def todo8a : List Item := segK2 Try.prog ft8 mF Try.f8 [7] 60 [.code (Try.f8.body.getD .skip)] (startF Try.f8 [SL G 0 1, SL (G + 1) 0 1]) (fun t _ _ => t) (heapB G [some (.cells [] true), some (.cells [] true)])
noncomputable def todo8b : List Item := segK2 Try.prog ft8 mI Try.f8 [11] 60 todo8a (fr8a 1 0 0 0 0) (fun t _ _ => t) (heapB G (hp8 r00 0 0 0 [] [] []))
noncomputable def todo8c : List Item := segK2 Try.prog ft8 mI Try.f8 [17] 60 todo8a (fr8a 0 0 0 0 0) (fun t _ _ => t) (heapB G (hp8 r00 0 0 0 [] [] []))
noncomputable def todo8d : List Item := segK2 Try.prog ft8 mS Try.f8 [25] 60 todo8c (fr8c 0 1 0 0 0) (fun t _ _ => t) (heapB G (hp8 r00 0 0 0 [] [] [I 0]))

abbrev leaf8 (La Lb Lc Ld : List Item → List AV → AHeap → Prop) : List Item → List AV → AHeap → Prop := fun t fr h => match t with
  | .code (.region 7 _ _) :: _ => canonT G nt8 (La t) fr h
  | .code (.region 11 _ _) :: _ => canonT G nt8 (Lb t) fr h
  | .code (.region 17 _ _) :: _ => canonT G nt8 (Lc t) fr h
  | .code (.region 25 _ _) :: _ => canonT G nt8l (Ld t) fr h
  | _ => False
abbrev seg8 (Q : Post) (La Lb Lc Ld : List Item → List AV → AHeap → Prop) (t : List Item) (fr : List AV) (h : AHeap) : Prop :=
  segK2 Try.prog ft8 (semM (callsOf G cs8) Q) Try.f8 [7, 11, 17, 25] 90 t fr (leaf8 La Lb Lc Ld) h

theorem start8 (ne no : Nat) (r : R8) (Q : Post) (La Lb Lc Ld : List Item → List AV → AHeap → Prop) :
    seg8 Q La Lb Lc Ld [.code (Try.f8.body.getD .skip)] (startF Try.f8 [SL G ne 1, SL (G + 1) no 1]) (heapB G [some (.cells r.ce r.re), some (.cells r.co r.ro)])
    = ((True ∧ True ∧ True) ∧ (plr r.ce r.re ∧ plr r.co r.ro ∧ pl [] ∧ pl [] ∧ pl [] ∧ True) ∧ La todo8a (fr8a ne no 0 0 0) (heapB G (hp8 r 0 0 0 [] [] []))) := by kernel_rfl

abbrev obl8 (r : R8) (ci ch ct : List Value) : Prop := plr r.ce r.re ∧ plr r.co r.ro ∧ pl ci ∧ pl ch ∧ pl ct ∧ True
abbrev ctE (la : Int) (q : Nat) (ct : List Value) : List Value := (ct.drop 0).take (q * 1) ++ [I (w (la + 1))]
abbrev exit8 (Lc : List Item → List AV → AHeap → Prop) (r : R8) (no q : Nat) (next la : Int) (n m : Nat) (ci ch ct : List Value) : Prop := obl8 r ci ch ct ∧ Lc todo8c (fr8c no q next 0 0) (heapB G (hp8 r la n m ci ch ct))
theorem head8a (ne no q : Nat) (next i la : Int) (n m : Nat) (r : R8) (ci ch ct : List Value) (Q : Post) (La Lb Lc Ld : List Item → List AV → AHeap → Prop) :
    seg8 Q La Lb Lc Ld todo8a (fr8a ne no q next i) (heapB G (hp8 r la n m ci ch ct))
    = (bif decide (i < ne) then (bif decide (i < 12) then
        (((pl ci ∧ pl ch ∧ True) ∧ (pl ch ∧ pl (ints (insE la ci)) ∧ True) ∧ preH n m ci ch) ∧
          bif room (q + 1) 8 then bif Nat.ble (0 + q * 1) ct.length then
            (obl8 r (ints (insE la ci)) ch (ctE la q ct) ∧ Lb todo8b (fr8b ne no (q + 1) next i 0) (heapB G (hp8 r (w (la + 1)) (n + 1) m (ints (insE la ci)) ch (ctE la q ct)))) else False else False)
        else exit8 Lc r no q next la n m ci ch ct) else exit8 Lc r no q next la n m ci ch ct) := by kernel_rfl
theorem head8b (ne no q : Nat) (next i k la : Int) (n m : Nat) (r : R8) (ci ch ct : List Value) (Q : Post) (La Lb Lc Ld : List Item → List AV → AHeap → Prop) :
    seg8 Q La Lb Lc Ld todo8b (fr8b ne no q next i k) (heapB G (hp8 r la n m ci ch ct))
    = (bif decide (0 ≤ i) && decide (i < ne) then bif okI .i64 (nth r.ce (0 + i.toNat * 1)) then
        (bif decide (k < and64 (intO (nth r.ce (0 + i.toNat * 1))) 3) then
          (((pl ci ∧ pl ch ∧ pl [I next] ∧ True) ∧ (pl ci ∧ pl [I next] ∧ pl (prs (k31 la ci ch [I next])) ∧ pl (ints (o31 la ci ch [I next])) ∧ True) ∧ preD 1 n m ci ch [I next]) ∧
            obl8 r ci (prs (k31 la ci ch [I next])) ct ∧ Lb todo8b (fr8b ne no q (w (next + 1)) i (w (k + 1))) (heapB G (hp8 r la n (k31 la ci ch [I next]).length ci (prs (k31 la ci ch [I next])) ct)))
         else (obl8 r ci ch ct ∧ La todo8a (fr8a ne no q next (w (i + 1))) (heapB G (hp8 r la n m ci ch ct))))
       else False else False) := by kernel_rfl

abbrev obl8l (r : R8) (ci ch ct cl : List Value) : Prop := plr r.ce r.re ∧ plr r.co r.ro ∧ pl ci ∧ pl ch ∧ pl ct ∧ pl cl ∧ True
/-- The place behind a Leave, the tickets being ct. -/
abbrev at8d (Ld : List Item → List AV → AHeap → Prop) (r : R8) (no q : Nat) (next at' i t la : Int) (ci ch ct : List Value) : Prop :=
  obl8l r (ints (insL t ci)) (prs (kL t ci ch)) ct (ints (oL t ci ch)) ∧
    Ld todo8d (fr8d no q (oL t ci ch).length next at' i 0) (heapB G (hp8l r la (insL t ci).length (kL t ci ch).length (ints (insL t ci)) (prs (kL t ci ch)) ct (ints (oL t ci ch))))
abbrev body8 (Ld : List Item → List AV → AHeap → Prop) (r : R8) (no q : Nat) (next at' i la : Int) (n m : Nat) (ci ch ct : List Value) (k : Int) : Prop :=
  bif decide (0 ≤ k) && decide (k < q) then bif okI .i64 (nth ct (0 + k.toNat * 1)) then
   (((pl ci ∧ pl ch ∧ True) ∧ (pl (ints (insL (intO (nth ct (0 + k.toNat * 1))) ci)) ∧ pl (prs (kL (intO (nth ct (0 + k.toNat * 1))) ci ch)) ∧ pl (ints (oL (intO (nth ct (0 + k.toNat * 1))) ci ch)) ∧ True) ∧ preH n m ci ch) ∧
    bif decide (0 ≤ k) && decide (k ≤ q) then bif decide (0 ≤ w (k + 1)) && decide (w (k + 1) ≤ q) then
     (bif Nat.beq (k.toNat - 0) 0 then
       (bif Nat.beq (q - (w (k + 1)).toNat) 0 then at8d Ld r no 0 next at' i (intO (nth ct (0 + k.toNat * 1))) la ci ch []
        else bif Nat.ble (0 + (w (k + 1)).toNat * 1 + (q - (w (k + 1)).toNat) * 1) ct.length then bif room (q - (w (k + 1)).toNat) 8 then
          at8d Ld r no (q - (w (k + 1)).toNat) next at' i (intO (nth ct (0 + k.toNat * 1))) la ci ch ((ct.drop (0 + (w (k + 1)).toNat * 1)).take ((q - (w (k + 1)).toNat) * 1)) else False else False)
      else bif Nat.ble (0 + 0 * 1 + (k.toNat - 0) * 1) ct.length then bif room (k.toNat - 0) 8 then
       (bif Nat.beq (q - (w (k + 1)).toNat) 0 then at8d Ld r no (k.toNat - 0) next at' i (intO (nth ct (0 + k.toNat * 1))) la ci ch ((ct.drop (0 + 0 * 1)).take ((k.toNat - 0) * 1))
        else bif Nat.ble (0 + (w (k + 1)).toNat * 1 + (q - (w (k + 1)).toNat) * 1) ct.length then bif room (k.toNat - 0 + (q - (w (k + 1)).toNat)) 8 then bif Nat.ble (0 + (k.toNat - 0) * 1) ((ct.drop (0 + 0 * 1)).take ((k.toNat - 0) * 1)).length then
          at8d Ld r no (k.toNat - 0 + (q - (w (k + 1)).toNat)) next at' i (intO (nth ct (0 + k.toNat * 1))) la ci ch ((((ct.drop (0 + 0 * 1)).take ((k.toNat - 0) * 1)).drop 0).take ((k.toNat - 0) * 1) ++ (ct.drop (0 + (w (k + 1)).toNat * 1)).take ((q - (w (k + 1)).toNat) * 1)) else False else False else False)
       else False else False)
    else False else False)
  else False else False
theorem head8c (no q : Nat) (next at' i la : Int) (n m : Nat) (r : R8) (ci ch ct : List Value) (K : List Value → Prop) (La Lb Lc Ld : List Item → List AV → AHeap → Prop) :
    seg8 (fun rs _ => K rs) La Lb Lc Ld todo8c (fr8c no q next at' i) (heapB G (hp8 r la n m ci ch ct))
    = (bif decide ((q : Int) > 0) then
        (bif decide (i < no) then bif decide (0 ≤ i) && decide (i < no) then bif okI .i64 (nth r.co (0 + i.toNat * 1)) then bif ((q : Int) == 0) then False else bif ((q : Int) == 0) then False else
            body8 Ld r no q next at' i la n m ci ch ct ((w ((intO (nth r.co (0 + i.toNat * 1))).tmod q + q)).tmod q) else False else False
         else body8 Ld r no q next at' i la n m ci ch ct 0)
       else bif (at' == next) then
         (((pl ci ∧ pl ch ∧ True) ∧ (pl ci ∧ pl ch ∧ pl (ints ((unP ch).map (·.1))) ∧ True) ∧ (PlainL ci ∧ ch = prs (unP ch) ∧ (unP ch).length = m ∧ m < 1000000000)) ∧ K [.bool ((m : Int) == 0)])
       else K [.bool false]) := by kernel_rfl
theorem head8d (no q kk : Nat) (next at' i j la : Int) (n m : Nat) (r : R8) (ci ch ct cl : List Value) (K : List Value → Prop) (La Lb Lc Ld : List Item → List AV → AHeap → Prop) :
    seg8 (fun rs _ => K rs) La Lb Lc Ld todo8d (fr8d no q kk next at' i j) (heapB G (hp8l r la n m ci ch ct cl))
    = (bif decide (j < kk) then bif decide (0 ≤ j) && decide (j < kk) then bif okI .i64 (nth cl (0 + j.toNat * 1)) then
         (bif !(intO (nth cl (0 + j.toNat * 1)) == at') then K [.bool false]
          else (obl8l r ci ch ct cl ∧ Ld todo8d (fr8d no q kk next (w (at' + 1)) i (w (j + 1))) (heapB G (hp8l r la n m ci ch ct cl))))
         else False else False
       else (obl8 r ci ch ct ∧ Lc todo8c (fr8c no q next at' (w (i + 1))) (heapB G (hp8 r la n m ci ch ct)))) := by kernel_rfl

theorem ok8 : CallsOk Try.prog w0 (callsOf G cs8) := callsOf_ok fun c hc => by
  simp only [cs8, List.mem_cons, List.not_mem_nil, or_false] at hc
  rcases hc with rfl | rfl | rfl | rfl | rfl
  · exact con27_ok
  · exact con28_ok
  · exact con29_ok
  · exact con31_ok
  · exact con32_ok
abbrev S8 (w0 : World) : List Item → List AV → AHeap → Prop := Agm.Sem Try.prog w0 (Try.prog.globals.size + 2) Try.f8 yes
theorem leaf8_sem (t : List Item) (fr : List AV) (h : AHeap) (x : leaf8 (S8 w0) (S8 w0) (S8 w0) (S8 w0) t fr h) : S8 w0 t fr h := by
  unfold leaf8 at x
  split at x
  · exact canonT_sem (nt := nt8) x
  · exact canonT_sem (nt := nt8) x
  · exact canonT_sem (nt := nt8) x
  · exact canonT_sem (nt := nt8l) x
  · exact x.elim
theorem seg8_sem {t : List Item} {fr : List AV} {h : AHeap} (x : seg8 yes (S8 w0) (S8 w0) (S8 w0) (S8 w0) t fr h) : S8 w0 t fr h :=
  seg_sem2 (F := ft8) (c := callsOf G cs8) mixed ok8 leaf8_sem [7, 11, 17, 25] 90 x

/-- What things are named, one after the other. -/
def runs (a : Nat) : List (Int × Int) → Prop
  | [] => True
  | p :: r => p.1 = (a : Int) ∧ runs (a + 1) r
theorem runs_append : ∀ {a : Nat} {x y : List (Int × Int)}, runs a (x ++ y) ↔ runs a x ∧ runs (a + x.length) y
  | a, [], y => by simp [runs]
  | a, p :: r, y => by
    simp only [List.cons_append, runs, runs_append (a := a + 1) (x := r), List.length_cons, and_assoc]
    have : a + 1 + r.length = a + (r.length + 1) := by omega
    rw [this]

structure St (ins : List Int) (l : List (Int × Int)) (a next : Nat) : Prop where
  inc : ins.Pairwise (· < ·)
  nam : runs a l
  len : a + l.length = next
  srt : l.Pairwise fun p q => p.2 ≤ q.2

theorem dies_mono {ins : List Int} {x y : Int} (h : x ≤ y) (hd : diesB ins y = true) : diesB ins x = true := by
  unfold diesB at hd ⊢
  cases ins with
  | nil => rfl
  | cons b r =>
    simp only [Bool.not_eq_true', decide_eq_false_iff_not] at hd ⊢
    omega
theorem split_dies (d : Int → Bool) (hm : ∀ x y, x ≤ y → d y = true → d x = true) : ∀ {l : List (Int × Int)}, l.Pairwise (fun p q => p.2 ≤ q.2) → ∃ A B, l = A ++ B ∧ freeD d l = A.map (·.1) ∧ keptD d l = B
  | [], _ => ⟨[], [], rfl, rfl, rfl⟩
  | p :: r, h => by
    obtain ⟨h1, h2⟩ := List.pairwise_cons.1 h
    cases hd : d p.2 with
    | true =>
      obtain ⟨A, B, e1, e2, e3⟩ := split_dies d hm h2
      exact ⟨p :: A, B, by rw [e1]; rfl, by rw [free_pos hd, e2]; rfl, by rw [kept_pos hd, e3]⟩
    | false =>
      have key : ∀ {r : List (Int × Int)}, (∀ q ∈ r, p.2 ≤ q.2) → freeD d r = [] ∧ keptD d r = r := by
        intro r
        induction r with
        | nil => intro _; exact ⟨rfl, rfl⟩
        | cons q r ih =>
          intro hq
          have hqd : d q.2 = false := by
            cases hh : d q.2 with
            | false => rfl
            | true => rw [hm _ _ (hq q (by simp)) hh] at hd; simp at hd
          obtain ⟨g1, g2⟩ := ih fun x hx => hq x (by simp [hx])
          exact ⟨by rw [free_neg hqd, g1], by rw [kept_neg hqd, g2]⟩
      obtain ⟨g1, g2⟩ := key h1
      exact ⟨[], p :: r, rfl, by rw [free_neg hd, g1]; rfl, by rw [kept_neg hd, g2]⟩

theorem gone_at : ∀ {ins : List Int} {k : Nat} (h : k < ins.length), ins.Pairwise (· < ·) → gone ins[k] ins = ins.take k ++ ins.drop (k + 1)
  | b :: r, 0, _, hp => by
    obtain ⟨h1, _⟩ := List.pairwise_cons.1 hp
    simp only [List.getElem_cons_zero, List.take_zero, List.nil_append, List.drop_succ_cons, List.drop_zero, gone]
    rw [List.filter_cons_of_neg (by simp), List.filter_eq_self.2]
    intro x hx
    have := h1 x hx
    simp
    omega
  | b :: r, k + 1, h, hp => by
    obtain ⟨h1, h2⟩ := List.pairwise_cons.1 hp
    have hk : k < r.length := by simpa using h
    have := gone_at hk h2
    simp only [List.getElem_cons_succ, List.take_succ_cons, List.drop_succ_cons, List.cons_append, gone] at this ⊢
    have hlt := h1 r[k] (List.getElem_mem hk)
    rw [List.filter_cons_of_pos (by simp; omega), this]

theorem ints_drop (l : List Int) (k : Nat) : (ints l).drop k = ints (l.drop k) := by simp [ints]
theorem ints_append (a b : List Int) : ints (a ++ b) = ints a ++ ints b := by simp [ints]

/-- The rows of the law. -/
abbrev rr (e o : List Int) (re ro : Bool) : R8 := ⟨ints e, ints o, re, ro⟩

/-- The place behind a Leave, whatever the road to it. -/
theorem body_ok {Ld : List Item → List AV → AHeap → Prop} {r : R8} {no : Nat} {next a i la : Int} {ins : List Int} {l : List (Int × Int)} (hq : ins.length < 1000000) (hl : l.length < 1000000) {k : Nat} (hk : k < ins.length)
    (h : at8d Ld r no (ins.length - 1) next a i ins[k] la (ints ins) (prs l) (ints (ins.take k ++ ins.drop (k + 1)))) : body8 Ld r no ins.length next a i la ins.length l.length (ints ins) (prs l) (ints ins) (k : Int) := by
  have h1 : (0 : Int) ≤ (k : Int) := by omega
  have h2 : (k : Int) < (ins.length : Int) := by omega
  have h3 : (k : Int) ≤ (ins.length : Int) := by omega
  have hw : w ((k : Int) + 1) = ((k + 1 : Nat) : Int) := by rw [w_id (by omega) (by omega)]; omega
  have h4 : (0 : Int) ≤ ((k + 1 : Nat) : Int) := by omega
  have h5 : ((k + 1 : Nat) : Int) ≤ (ins.length : Int) := by omega
  unfold body8
  simp only [h1, h2, h3, h4, h5, hw, decide_true, Bool.and_self, cond_true, Int.toNat_natCast, Nat.zero_add, Nat.mul_one, Nat.sub_zero, okI_ints hk, intO_ints hk, List.drop_zero]
  refine ⟨⟨⟨plain_ints _, plain_prs _, trivial⟩, ⟨plain_ints _, plain_prs _, plain_ints _, trivial⟩, ⟨by rw [unI_ints], ints_len _, by omega, by rw [unP_prs], by rw [unP_prs], by omega⟩⟩, ?_⟩
  have hr : (ints ins).drop (k + 1) = ints (ins.drop (k + 1)) := ints_drop _ _
  have hrt : ((ints ins).drop (k + 1)).take (ins.length - (k + 1)) = ints (ins.drop (k + 1)) := by
    rw [hr, ints_take, List.take_of_length_le (by rw [List.length_drop]; omega)]
  have hb1 : Nat.ble (k + 1 + (ins.length - (k + 1))) (ints ins).length = true := Nat.ble_eq_true_of_le (by rw [ints_len]; omega)
  have hb2 : Nat.ble k (ints ins).length = true := Nat.ble_eq_true_of_le (by rw [ints_len]; omega)
  have hb3 : Nat.ble k ((ints ins).take k).length = true := Nat.ble_eq_true_of_le (by rw [List.length_take, ints_len]; omega)
  have hr1 : room (ins.length - (k + 1)) 8 = true := Nat.ble_eq_true_of_le (by omega)
  have hr2 : room k 8 = true := Nat.ble_eq_true_of_le (by omega)
  have hr3 : room (k + (ins.length - (k + 1))) 8 = true := Nat.ble_eq_true_of_le (by omega)
  have htt : (((ints ins).take k).drop 0).take k = ints (ins.take k) := by rw [List.drop_zero, List.take_take, Nat.min_self, ints_take]
  rw [hb1, hb2, hb3, hr1, hr2, hr3, hrt]
  cases hz : Nat.beq k 0 with
  | true =>
    have := Nat.eq_of_beq_eq_true hz
    subst this
    cases hy : Nat.beq (ins.length - (0 + 1)) 0 with
    | true =>
      have hn := Nat.eq_of_beq_eq_true hy
      have e1 : ins.drop (0 + 1) = [] := List.drop_eq_nil_of_le (by omega)
      have e2 : ins.length - 1 = 0 := by omega
      simp only [List.take_zero, List.nil_append, e1, e2] at h
      exact h
    | false =>
      simp only [List.take_zero, List.nil_append] at h
      exact h
  | false =>
    cases hy : Nat.beq (ins.length - (k + 1)) 0 with
    | true =>
      have hn := Nat.eq_of_beq_eq_true hy
      have e1 : ins.drop (k + 1) = [] := List.drop_eq_nil_of_le (by omega)
      have e2 : ins.length - 1 = k := by omega
      rw [e1, e2, List.append_nil, ← ints_take] at h
      exact h
    | false =>
      have e2 : ins.length - 1 = k + (ins.length - (k + 1)) := by omega
      rw [e2, ints_append] at h
      simp only [List.drop_zero] at htt
      simp only [cond_true, cond_false, List.take_take, Nat.min_self]
      rw [ints_take]
      exact h

theorem runs_at : ∀ {l : List (Int × Int)} {a j : Nat} (h : j < l.length), runs a l → l[j].1 = ((a + j : Nat) : Int)
  | p :: r, a, 0, _, h => by simpa using h.1
  | p :: r, a, j + 1, hj, h => by
    have := runs_at (l := r) (a := a + 1) (j := j) (by simpa using hj) h.2
    simp only [List.getElem_cons_succ, this]
    congr 1
    omega

/-- What is free comes in order. -/
theorem loop8d (e o : List Int) (re ro : Bool) (la : Int) (T : List Int) (A B : List (Int × Int)) (a next i : Nat) (hA : runs a A) (ha : a + A.length < 1000000) (hi : i < 1000000)
    (hC : S8 w0 todo8c (fr8c o.length T.length next ((a + A.length : Nat) : Int) ((i + 1 : Nat) : Int)) (heapB G (hp8 (rr e o re ro) la T.length B.length (ints T) (prs B) (ints T)))) : ∀ (k j : Nat), j + k = A.length →
    S8 w0 todo8d (fr8d o.length T.length A.length next ((a + j : Nat) : Int) i j) (heapB G (hp8l (rr e o re ro) la T.length B.length (ints T) (prs B) (ints T) (ints (A.map (·.1))))) := by
  have pe : plr (rr e o re ro).ce (rr e o re ro).re := plain_ints e
  have po : plr (rr e o re ro).co (rr e o re ro).ro := plain_ints o
  intro k
  induction k with
  | zero =>
    intro j hj
    apply seg8_sem
    have hh := head8d o.length T.length A.length next ((a + j : Nat) : Int) i j la T.length B.length (rr e o re ro) (ints T) (prs B) (ints T) (ints (A.map (·.1))) (fun rs => rs = [.bool true]) (S8 w0) (S8 w0) (S8 w0) (S8 w0)
    rw [hh]
    have h1 : ¬ ((j : Int) < (A.length : Int)) := by omega
    have hw : w ((i : Int) + 1) = ((i + 1 : Nat) : Int) := by rw [w_id (by omega) (by omega)]; omega
    have hjA : j = A.length := by omega
    subst hjA
    simp only [h1, decide_false, cond_false, hw]
    exact ⟨⟨pe, po, plain_ints _, plain_prs _, plain_ints _, trivial⟩, hC⟩
  | succ k ih =>
    intro j hj
    apply seg8_sem
    have hh := head8d o.length T.length A.length next ((a + j : Nat) : Int) i j la T.length B.length (rr e o re ro) (ints T) (prs B) (ints T) (ints (A.map (·.1))) (fun rs => rs = [.bool true]) (S8 w0) (S8 w0) (S8 w0) (S8 w0)
    rw [hh]
    have h1 : (j : Int) < (A.length : Int) := by omega
    have h2 : (0 : Int) ≤ (j : Int) := by omega
    have h3 : 0 + (j : Int).toNat * 1 = j := by simp
    have hlt : j < (A.map (·.1)).length := by rw [List.length_map]; omega
    have hw1 : w (((a + j : Nat) : Int) + 1) = ((a + (j + 1) : Nat) : Int) := by rw [w_id (by omega) (by omega)]; omega
    have hw2 : w ((j : Int) + 1) = ((j + 1 : Nat) : Int) := by rw [w_id (by omega) (by omega)]; omega
    have hx : (A.map (·.1))[j] = ((a + j : Nat) : Int) := by rw [List.getElem_map]; exact runs_at (by omega) hA
    simp only [h1, h2, h3, decide_true, cond_true, Bool.and_self, okI_ints hlt, intO_ints hlt, hx, hw1, hw2, beq_self_eq_true, Bool.not_true, cond_false]
    exact ⟨⟨pe, po, plain_ints _, plain_prs _, plain_ints _, plain_ints _, trivial⟩, ih (j + 1) (by omega)⟩

theorem tmod_lt (n : Int) {s : Int} (hs : 0 < s) : -s < n.tmod s ∧ n.tmod s < s := by
  have h1 := Int.emod_nonneg n (show s ≠ 0 by omega)
  have h2 := Int.emod_lt_of_pos n hs
  rw [Int.tmod_eq_emod]
  split <;> omega

/-- In whatever order they leave. -/
theorem loop8c (e o : List Int) (re ro : Bool) (la : Int) (next : Nat) (hnext : next < 1000000) : ∀ (N : Nat) (ins : List Int) (l : List (Int × Int)) (a i : Nat), ins.length = N → St ins l a next → (∀ p ∈ l, diesB ins p.2 = false) → i + N < 1000000 →
    S8 w0 todo8c (fr8c o.length N next (a : Int) (i : Int)) (heapB G (hp8 (rr e o re ro) la N l.length (ints ins) (prs l) (ints ins))) := by
  have pe : plr (rr e o re ro).ce (rr e o re ro).re := plain_ints e
  have po : plr (rr e o re ro).co (rr e o re ro).ro := plain_ints o
  intro N
  induction N with
  | zero =>
    intro ins l a i hN st hal hi
    have h0 : ins = [] := List.length_eq_zero_iff.1 hN
    subst h0
    have hl : l = [] := by
      cases l with
      | nil => rfl
      | cons p r => have := hal p (by simp); simp [diesB] at this
    subst hl
    have hlen := st.len
    simp only [List.length_nil, Nat.add_zero] at hlen
    subst hlen
    apply seg8_sem
    have hh := head8c o.length 0 (a : Int) (a : Int) i la 0 ([] : List (Int × Int)).length (rr e o re ro) (ints []) (prs []) (ints []) (fun rs => rs = [.bool true]) (S8 w0) (S8 w0) (S8 w0) (S8 w0)
    rw [hh]
    have h1 : ¬ (((0 : Nat) : Int) > 0) := by omega
    have h2 : (((([] : List (Int × Int)).length : Nat) : Int) == 0) = true := rfl
    have hz : (0 : Nat) < 1000000000 := by omega
    rw [decide_eq_false h1, beq_self_eq_true, h2]
    exact ⟨⟨⟨plain_ints _, plain_prs _, trivial⟩, ⟨plain_ints _, plain_prs _, plain_ints _, trivial⟩, plain_ints _, rfl, rfl, hz⟩, rfl⟩
  | succ N ih =>
    intro ins l a i hN st hal hi
    apply seg8_sem
    have hh := head8c o.length (N + 1) (next : Int) (a : Int) i la (N + 1) l.length (rr e o re ro) (ints ins) (prs l) (ints ins) (fun rs => rs = [.bool true]) (S8 w0) (S8 w0) (S8 w0) (S8 w0)
    rw [hh]
    have hq : (((N + 1 : Nat) : Int) > 0) := by omega
    have hq0 : (((N + 1 : Nat) : Int) == 0) = false := by simp; omega
    have hlen := st.len
    have key : ∀ k : Nat, k < N + 1 → body8 (S8 w0) (rr e o re ro) o.length (N + 1) next a i la (N + 1) l.length (ints ins) (prs l) (ints ins) (k : Int) := by
      intro k hk
      have hk' : k < ins.length := by omega
      rw [← hN]
      refine body_ok (by omega) (by omega) hk' ?_
      have hg := gone_at hk' st.inc
      obtain ⟨T, hT⟩ : ∃ T, T = ins.take k ++ ins.drop (k + 1) := ⟨_, rfl⟩
      have hTN : T.length = N := by rw [hT, List.length_append, List.length_take, List.length_drop]; omega
      obtain ⟨A, B, e1, e2, e3⟩ := split_dies (diesB T) (fun x y h hd => dies_mono h hd) st.srt
      have f1 : insL ins[k] (ints ins) = T := by simp only [insL, unI_ints]; rw [hg, hT]
      have f2 : kL ins[k] (ints ins) (prs l) = B := by simp only [kL, unP_prs]; rw [f1, e3]
      have f3 : oL ins[k] (ints ins) (prs l) = A.map (·.1) := by simp only [oL, unP_prs]; rw [f1, e2]
      unfold at8d
      rw [f1, f2, f3, ← hT, hN]
      refine ⟨⟨pe, po, plain_ints _, plain_prs _, plain_ints _, plain_ints _, trivial⟩, ?_⟩
      have hAB := st.nam
      rw [e1, runs_append] at hAB
      have hl2 : l.length = A.length + B.length := by rw [e1, List.length_append]
      have hC := ih T B (a + A.length) (i + 1) hTN ⟨?_, hAB.2, by omega, ?_⟩ ?_ (by omega)
      · have hD := loop8d e o re ro la T A B a next i hAB.1 (by omega) (by omega) (by rw [hTN]; exact hC) A.length 0 (by omega)
        rw [hTN] at hD
        rw [List.length_map, hTN]
        exact hD
      · rw [hT]
        refine st.inc.sublist ?_
        have h2 : (ins.take k ++ ins.drop (k + 1)).Sublist (ins.take k ++ ins.drop k) := List.Sublist.append (List.Sublist.refl _) (by
          rw [List.drop_eq_getElem_cons hk']; exact List.sublist_cons_self _ _)
        rwa [List.take_append_drop] at h2
      · have := st.srt
        rw [e1] at this
        exact (List.pairwise_append.1 this).2.1
      · intro p hp
        rw [← e3] at hp
        simp only [keptD, List.mem_filter] at hp
        simpa using hp.2
    rw [decide_eq_true hq, hq0]
    simp only [cond_true, cond_false]
    by_cases hio : (i : Int) < (o.length : Int)
    · have h2 : (0 : Int) ≤ (i : Int) := by omega
      have hlt : i < o.length := by omega
      have h3 : 0 + (i : Int).toNat * 1 = i := by simp
      simp only [hio, h2, h3, decide_true, cond_true, Bool.and_self, okI_ints hlt, intO_ints hlt]
      obtain ⟨t1, t2⟩ := tmod_lt o[i] hq
      have hw : w (o[i].tmod ((N + 1 : Nat) : Int) + ((N + 1 : Nat) : Int)) = o[i].tmod ((N + 1 : Nat) : Int) + ((N + 1 : Nat) : Int) := w_id (by omega) (by omega)
      rw [hw]
      obtain ⟨x, hx⟩ : ∃ x, x = o[i].tmod ((N + 1 : Nat) : Int) + ((N + 1 : Nat) : Int) := ⟨_, rfl⟩
      rw [← hx]
      have hx0 : 0 ≤ x := by omega
      have e1 : x.tmod ((N + 1 : Nat) : Int) = x % ((N + 1 : Nat) : Int) := Int.tmod_eq_emod_of_nonneg hx0
      have e2 := Int.emod_nonneg x (show ((N + 1 : Nat) : Int) ≠ 0 by omega)
      have e3 := Int.emod_lt_of_pos x hq
      obtain ⟨kk, hkk⟩ : ∃ kk : Nat, x.tmod ((N + 1 : Nat) : Int) = (kk : Int) := ⟨(x.tmod ((N + 1 : Nat) : Int)).toNat, by omega⟩
      rw [hkk]
      exact key kk (by omega)
    · simp only [hio, decide_false, cond_false]
      exact key 0 (by omega)

/-- Those who have entered: 1, 2 .. -/
def seqI : Nat → List Int
  | 0 => []
  | n + 1 => seqI n ++ [((n + 1 : Nat) : Int)]
theorem seqI_len : ∀ n, (seqI n).length = n
  | 0 => rfl
  | n + 1 => by simp [seqI, seqI_len n]
theorem seqI_le : ∀ {n : Nat} {x : Int}, x ∈ seqI n → x ≤ (n : Int)
  | 0, x, h => by simp [seqI] at h
  | n + 1, x, h => by
    simp only [seqI, List.mem_append, List.mem_singleton] at h
    rcases h with h | h
    · have := seqI_le h; omega
    · omega
theorem seqI_inc : ∀ n, (seqI n).Pairwise (· < ·)
  | 0 => List.Pairwise.nil
  | n + 1 => by
    simp only [seqI]
    refine List.pairwise_append.2 ⟨seqI_inc n, List.pairwise_singleton _ _, ?_⟩
    intro x hx y hy
    have := seqI_le hx
    simp only [List.mem_singleton] at hy
    omega
theorem seqI_head : ∀ n, ∃ r, seqI (n + 1) = 1 :: r
  | 0 => ⟨[], rfl⟩
  | n + 1 => by
    obtain ⟨r, hr⟩ := seqI_head n
    exact ⟨r ++ [((n + 1 + 1 : Nat) : Int)], by rw [seqI, hr]; rfl⟩
theorem alive_seq {n : Nat} {x : Int} (h : 1 ≤ x) : diesB (seqI (n + 1)) x = false := by
  obtain ⟨r, hr⟩ := seqI_head n
  rw [hr]
  simp [diesB, h]
theorem kept_alive {d : Int → Bool} : ∀ {l : List (Int × Int)}, (∀ p ∈ l, d p.2 = false) → keptD d l = l ∧ freeD d l = []
  | [], _ => ⟨rfl, rfl⟩
  | p :: r, h => by
    have h1 := h p (by simp)
    obtain ⟨k1, k2⟩ := kept_alive (l := r) fun q hq => h q (by simp [hq])
    exact ⟨by rw [kept_neg h1, k1], by rw [free_neg h1, k2]⟩

structure Inv (i : Nat) (l : List (Int × Int)) : Prop where
  nam : runs 0 l
  srt : l.Pairwise fun p q => p.2 ≤ q.2
  rng : ∀ p ∈ l, 1 ≤ p.2 ∧ p.2 ≤ (i : Int)
theorem Inv.drop {i : Nat} {l : List (Int × Int)} (h : Inv (i + 1) l) : Inv (i + 1) (l ++ [((l.length : Int), ((i + 1 : Nat) : Int))]) := by
  refine ⟨?_, ?_, ?_⟩
  · rw [runs_append]
    exact ⟨h.nam, by simp [runs]⟩
  · refine List.pairwise_append.2 ⟨h.srt, List.pairwise_singleton _ _, ?_⟩
    intro p hp q hq
    simp only [List.mem_singleton] at hq
    subst hq
    exact (h.rng p hp).2
  · intro p hp
    simp only [List.mem_append, List.mem_singleton] at hp
    rcases hp with hp | rfl
    · exact h.rng p hp
    · simp only; omega
theorem Inv.next {i : Nat} {l : List (Int × Int)} (h : Inv i l) : Inv (i + 1) l :=
  ⟨h.nam, h.srt, fun p hp => ⟨(h.rng p hp).1, by have := (h.rng p hp).2; omega⟩⟩
theorem Inv.alive {i : Nat} {l : List (Int × Int)} (h : Inv i l) : ∀ p ∈ l, diesB (seqI i) p.2 = false := by
  intro p hp
  have := h.rng p hp
  cases i with
  | zero => omega
  | succ i => exact alive_seq this.1

theorem and3 (x : Int) : 0 ≤ and64 x 3 ∧ and64 x 3 ≤ 3 := by
  have h1 : (BitVec.ofInt 64 x &&& BitVec.ofInt 64 3).toNat ≤ 3 := by
    rw [BitVec.toNat_and]
    refine Nat.le_trans Nat.and_le_right ?_
    simp only [BitVec.toNat_ofInt]
    omega
  unfold and64
  rw [w_id (by omega) (by omega)]
  omega

noncomputable abbrev H8 (e o : List Int) (re ro : Bool) (i : Nat) (l : List (Int × Int)) : AHeap := heapB G (hp8 (rr e o re ro) (i : Int) i l.length (ints (seqI i)) (prs l) (ints (seqI i)))

theorem loop8b (e o : List Int) (re ro : Bool) (i : Nat) (hie : i < e.length) (hi : i < 12)
    (hA : ∀ l, Inv (i + 1) l → l.length ≤ 3 * (i + 1) → S8 w0 todo8a (fr8a e.length o.length (i + 1) (l.length : Int) ((i + 1 : Nat) : Int)) (H8 e o re ro (i + 1) l)) : ∀ (kk k : Nat) (l : List (Int × Int)), (k : Int) + kk = and64 e[i] 3 → Inv (i + 1) l → l.length ≤ 3 * i + k →
    S8 w0 todo8b (fr8b e.length o.length (i + 1) (l.length : Int) (i : Int) (k : Int)) (H8 e o re ro (i + 1) l) := by
  have pe : plr (rr e o re ro).ce (rr e o re ro).re := plain_ints e
  have po : plr (rr e o re ro).co (rr e o re ro).ro := plain_ints o
  have h0 : (0 : Int) ≤ (i : Int) := by omega
  have h1 : (i : Int) < (e.length : Int) := by omega
  have h3 : 0 + (i : Int).toNat * 1 = i := by simp
  have a3 := and3 e[i]
  have hw1 : w ((i : Int) + 1) = ((i + 1 : Nat) : Int) := by rw [w_id (by omega) (by omega)]; omega
  intro kk
  induction kk with
  | zero =>
    intro k l hk hl hn
    apply seg8_sem
    have hh := head8b e.length o.length (i + 1) (l.length : Int) i k ((i + 1 : Nat) : Int) (i + 1) l.length (rr e o re ro) (ints (seqI (i + 1))) (prs l) (ints (seqI (i + 1))) yes (S8 w0) (S8 w0) (S8 w0) (S8 w0)
    rw [hh]
    have h2 : ¬ ((k : Int) < and64 e[i] 3) := by omega
    simp only [h0, h1, h3, decide_true, cond_true, Bool.and_self, okI_ints hie, intO_ints hie, h2, decide_false, cond_false, hw1]
    exact ⟨⟨pe, po, plain_ints _, plain_prs _, plain_ints _, trivial⟩, hA l hl (by omega)⟩
  | succ kk ih =>
    intro k l hk hl hn
    apply seg8_sem
    have hh := head8b e.length o.length (i + 1) (l.length : Int) i k ((i + 1 : Nat) : Int) (i + 1) l.length (rr e o re ro) (ints (seqI (i + 1))) (prs l) (ints (seqI (i + 1))) yes (S8 w0) (S8 w0) (S8 w0) (S8 w0)
    rw [hh]
    have h2 : (k : Int) < and64 e[i] 3 := by omega
    have hd := hl.drop
    obtain ⟨q1, q2⟩ := kept_alive hd.alive
    have f0 : all31 ((i + 1 : Nat) : Int) (prs l) [I (l.length : Int)] = l ++ [((l.length : Int), ((i + 1 : Nat) : Int))] := by
      simp only [all31, unP_prs]; rfl
    have f1 : k31 ((i + 1 : Nat) : Int) (ints (seqI (i + 1))) (prs l) [I (l.length : Int)] = l ++ [((l.length : Int), ((i + 1 : Nat) : Int))] := by
      simp only [k31, unI_ints]; rw [f0, q1]
    have f2 : o31 ((i + 1 : Nat) : Int) (ints (seqI (i + 1))) (prs l) [I (l.length : Int)] = [] := by
      simp only [o31, unI_ints]; rw [f0, q2]
    have hw2 : w ((l.length : Int) + 1) = (((l ++ [((l.length : Int), ((i + 1 : Nat) : Int))]).length : Nat) : Int) := by rw [w_id (by omega) (by omega)]; simp
    have hw3 : w ((k : Int) + 1) = ((k + 1 : Nat) : Int) := by rw [w_id (by omega) (by omega)]; omega
    simp only [h0, h1, h3, decide_true, cond_true, Bool.and_self, okI_ints hie, intO_ints hie, h2]
    rw [f1, f2, hw2, hw3]
    have p1 : pl [I (l.length : Int)] := plain_ints [(l.length : Int)]
    refine ⟨⟨⟨plain_ints _, plain_prs _, p1, trivial⟩, ⟨plain_ints _, p1, plain_prs _, plain_ints _, trivial⟩, ⟨by rw [unI_ints], by rw [ints_len, seqI_len], by omega, by rw [unP_prs], by rw [unP_prs], by omega⟩, rfl, rfl, by omega⟩, ⟨pe, po, plain_ints _, plain_prs _, plain_ints _, trivial⟩, ?_⟩
    exact ih (k + 1) _ (by omega) hd (by rw [List.length_append]; simp; omega)

theorem loop8a (e o : List Int) (re ro : Bool) : ∀ (N i : Nat) (l : List (Int × Int)), i + N = 12 → Inv i l → l.length ≤ 3 * i →
    S8 w0 todo8a (fr8a e.length o.length i (l.length : Int) (i : Int)) (H8 e o re ro i l) := by
  have pe : plr (rr e o re ro).ce (rr e o re ro).re := plain_ints e
  have po : plr (rr e o re ro).co (rr e o re ro).ro := plain_ints o
  intro N
  induction N with
  | zero =>
    intro i l hi hl hn
    apply seg8_sem
    have hh := head8a e.length o.length i (l.length : Int) i (i : Int) i l.length (rr e o re ro) (ints (seqI i)) (prs l) (ints (seqI i)) yes (S8 w0) (S8 w0) (S8 w0) (S8 w0)
    rw [hh]
    have ex : exit8 (S8 w0) (rr e o re ro) o.length i (l.length : Int) (i : Int) i l.length (ints (seqI i)) (prs l) (ints (seqI i)) :=
      ⟨⟨pe, po, plain_ints _, plain_prs _, plain_ints _, trivial⟩, loop8c e o re ro i l.length (by omega) i (seqI i) l 0 0 (seqI_len i) ⟨seqI_inc i, hl.nam, by omega, hl.srt⟩ hl.alive (by omega)⟩
    have h2 : ¬ ((i : Int) < 12) := by omega
    cases hc : decide ((i : Int) < (e.length : Int)) with
    | true => rw [cond_true, decide_eq_false h2]; exact ex
    | false => exact ex
  | succ N ih =>
    intro i l hi hl hn
    apply seg8_sem
    have hh := head8a e.length o.length i (l.length : Int) i (i : Int) i l.length (rr e o re ro) (ints (seqI i)) (prs l) (ints (seqI i)) yes (S8 w0) (S8 w0) (S8 w0) (S8 w0)
    rw [hh]
    have ex : exit8 (S8 w0) (rr e o re ro) o.length i (l.length : Int) (i : Int) i l.length (ints (seqI i)) (prs l) (ints (seqI i)) :=
      ⟨⟨pe, po, plain_ints _, plain_prs _, plain_ints _, trivial⟩, loop8c e o re ro i l.length (by omega) i (seqI i) l 0 0 (seqI_len i) ⟨seqI_inc i, hl.nam, by omega, hl.srt⟩ hl.alive (by omega)⟩
    by_cases h1 : (i : Int) < (e.length : Int)
    · have h2 : (i : Int) < 12 := by omega
      rw [decide_eq_true h1, decide_eq_true h2, cond_true, cond_true]
      have hw : w ((i : Int) + 1) = ((i + 1 : Nat) : Int) := by rw [w_id (by omega) (by omega)]; omega
      have f1 : insE (i : Int) (ints (seqI i)) = seqI (i + 1) := by simp only [insE, unI_ints]; rw [hw]; rfl
      have f2 : ctE (i : Int) i (ints (seqI i)) = ints (seqI (i + 1)) := by
        simp only [ctE]
        rw [hw, List.drop_zero, Nat.mul_one, ints_take, List.take_of_length_le (by rw [seqI_len]; omega)]
        simp [seqI, ints]
      have h5 : Nat.ble (0 + i * 1) (ints (seqI i)).length = true := Nat.ble_eq_true_of_le (by rw [ints_len, seqI_len]; omega)
      rw [f1, f2, hw, room8 (by omega), h5]
      refine ⟨⟨⟨plain_ints _, plain_prs _, trivial⟩, ⟨plain_prs _, plain_ints _, trivial⟩, ⟨by rw [unI_ints], by rw [ints_len, seqI_len], by omega, by rw [unP_prs], by rw [unP_prs], by omega⟩⟩, ⟨pe, po, plain_ints _, plain_prs _, plain_ints _, trivial⟩, ?_⟩
      have a3 := and3 (e[i]'(by omega))
      exact loop8b e o re ro i (by omega) (by omega) (fun l' hl' hn' => ih (i + 1) l' (by omega) hl' hn') (and64 (e[i]'(by omega)) 3).toNat 0 l (by omega) hl.next (by omega)
    · rw [decide_eq_false h1]
      exact ex

theorem order_true (e o : List Int) (re ro : Bool) : CallS Try.prog w0 8 [SL G e.length 1, SL (G + 1) o.length 1] (heapB Try.prog.globals.size [some (.cells (ints e) re), some (.cells (ints o) ro)]) yes := by
  have hn : (heapB Try.prog.globals.size [some (.cells (ints e) re), some (.cells (ints o) ro)]).next = Try.prog.globals.size + 2 := by rw [heapB_next]; rfl
  refine call_sem (fn := Try.f8) (cd := Try.f8.body.getD .skip) Try.func8 (by kernel_rfl) ?_
  rw [hn]
  apply seg8_sem
  have hh := start8 e.length o.length (rr e o re ro) yes (S8 w0) (S8 w0) (S8 w0) (S8 w0)
  rw [hh]
  exact ⟨⟨trivial, trivial, trivial⟩, ⟨plain_ints e, plain_ints o, plain_nil, plain_nil, plain_nil, trivial⟩, loop8a e o re ro 12 0 [] (by omega) ⟨trivial, List.Pairwise.nil, fun p hp => by simp at hp⟩ (by simp)⟩
end Go.Proofs.Ytdggbficiakbhaa
