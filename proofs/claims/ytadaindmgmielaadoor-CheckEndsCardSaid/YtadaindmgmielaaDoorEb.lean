/- The document's End and In, as contracts. No condition. -/
import Derived.Test.YtadaindmgmielaaDoorEa
import Derived.Test.YtadaindmgmielaaDoorKc
namespace Go.Proofs.YtadaindmgmielaaDoor
open Go.Agm
variable {w0 : World}
theorem bifB {α : Type} {P : α → Prop} {c : Bool} {x y : α} (h1 : c = true → P x) (h2 : c = false → P y) : P (bif c then x else y) := by
  cases c
  · exact h2 rfl
  · exact h1 rfl
/-! End. -/
noncomputable def ft64 : FT := { loc := fun _ => false, mask := fun id => bif Nat.beq id 3 then live 34 [0, 5, 6] else [] }
noncomputable def todo64 : List Item := todoOf Tryd.f38 3
noncomputable def fr64 (n : Nat) (dp i : Int) : List AV := frm 34 [(0, .v (SL G n 4)), (5, .v (I dp)), (6, .v (I i))]
abbrev seg64 (K : List Value → AHeap → Prop) (L : List Item → List AV → AHeap → Prop) (t : List Item) (fr : List AV) (h : AHeap) : Prop :=
  segK3 Tryd.prog ft64 (semI Tryd.prog (fun _ => ft0) (callsOf G []) 400 20 (retT G nt1 K)) Tryd.f38 [3] 400 t fr (fun t fr h => match t with
  | .code (.region 3 _ _) :: _ => canonT G nt1 (L t) fr h
  | _ => False) h
section
variable (n : Nat) (rw : Bool) (cl : List Value) (a dp i : Int) (K : List Value → AHeap → Prop) (L : List Item → List AV → AHeap → Prop)
theorem start64 : seg64 K L [.code (Tryd.f38.body.getD .skip)] (startF Tryd.f38 [SL G n 4, I a]) (heapB G [some (.cells cl rw)])
    = ((PlainL cl ∧ True) ∧ L todo64 (fr64 n 0 (w (a + 1))) (heapB G [some (.cells cl rw)])) := by kernel_rfl
abbrev pk64 (cl : List Value) (i : Int) : Option Value := nth cl (0 + i.toNat * 4 + 0)
theorem head64 : seg64 K L todo64 (fr64 n dp i) (heapB G [some (.cells cl rw)])
    = (bif decide (i < (n : Int)) then bif decide (0 ≤ i) && decide (i < (n : Int)) then bif okI .i64 (pk64 cl i) then
        bif intO (pk64 cl i) == 17 then bif decide (0 ≤ i) && decide (i < (n : Int)) then bif okI .i64 (pk64 cl i) then
          bif intO (pk64 cl i) == 18 then bif w (dp + 1) == 0 then (PlainL cl ∧ True) ∧ K [I i] (heapB G [some (.cells cl rw)])
            else (PlainL cl ∧ True) ∧ L todo64 (fr64 n (w (w (dp + 1) - 1)) (w (i + 1))) (heapB G [some (.cells cl rw)])
          else (PlainL cl ∧ True) ∧ L todo64 (fr64 n (w (dp + 1)) (w (i + 1))) (heapB G [some (.cells cl rw)])
          else False else False
        else bif decide (0 ≤ i) && decide (i < (n : Int)) then bif okI .i64 (pk64 cl i) then
          bif intO (pk64 cl i) == 18 then bif dp == 0 then (PlainL cl ∧ True) ∧ K [I i] (heapB G [some (.cells cl rw)])
            else (PlainL cl ∧ True) ∧ L todo64 (fr64 n (w (dp - 1)) (w (i + 1))) (heapB G [some (.cells cl rw)])
          else (PlainL cl ∧ True) ∧ L todo64 (fr64 n dp (w (i + 1))) (heapB G [some (.cells cl rw)])
          else False else False
        else False else False
      else (PlainL cl ∧ True) ∧ K [I (-1)] (heapB G [some (.cells cl rw)])) := by kernel_rfl
end
/-- A Loop's End, by the document. -/
def endL : List Ins → Nat → Nat → Int
  | [], _, _ => -1
  | x :: r, d, i => bif x.op == 17 then endL r (d + 1) (i + 1) else bif x.op == 18 then (bif d == 0 then (i : Int) else endL r (d - 1) (i + 1)) else endL r d (i + 1)
theorem endL_ge : ∀ (r : List Ins) (d i : Nat), endL r d i = -1 ∨ (i : Int) ≤ endL r d i
  | [], _, _ => .inl rfl
  | x :: r, d, i => by
    have h : ∀ d, endL r d (i + 1) = -1 ∨ (i : Int) ≤ endL r d (i + 1) := fun d => by
      rcases endL_ge r d (i + 1) with e | e
      · exact .inl e
      · exact .inr (by omega)
    rw [endL]
    refine bifB (P := fun e : Int => e = -1 ∨ (i : Int) ≤ e) (fun _ => h _) (fun _ => ?_)
    refine bifB (P := fun e : Int => e = -1 ∨ (i : Int) ≤ e) (fun _ => ?_) (fun _ => h _)
    exact bifB (P := fun e : Int => e = -1 ∨ (i : Int) ≤ e) (fun _ => .inr (Int.le_refl _)) (fun _ => h _)
abbrev SemE (w0 : World) (K : List Value → AHeap → Prop) (t : List Item) (fr : List AV) (h : AHeap) : Prop := Agm.Sem Tryd.prog w0 (Tryd.prog.globals.size + nt1.flags.length) Tryd.f38 (retT G nt1 K) t fr h
theorem leaf64 {K : List Value → AHeap → Prop} : ∀ t fr h, (match t with
    | .code (.region 3 _ _) :: _ => canonT G nt1 (SemE w0 K t) fr h
    | _ => False) → SemE w0 K t fr h := by
  intro t fr h e
  split at e
  · exact canonT_semN (nt := nt1) rfl e
  · exact e.elim
set_option maxRecDepth 100000 in
theorem loop64 {K : List Value → AHeap → Prop} {rw : Bool} {l : List Ins} (hl : l.length < 1000000000) : ∀ (f i d : Nat), l.length - i < f → i ≤ l.length → d ≤ i →
    K [I (endL (l.drop i) d i)] (heapB G [some (.cells (insC l) rw)]) → SemE w0 K todo64 (fr64 l.length d i) (heapB G [some (.cells (insC l) rw)]) := by
  intro f
  induction f with
  | zero => intro i d h1; omega
  | succ f ih =>
    intro i d h1 h2 h3 hK
    refine seg_semI3 (F := ft64) mixed (callsOf_ok ok_none) leaf64 [3] 20 400 ((head64 l.length rw (insC l) d i K _).mpr ?_)
    have hp : PlainL (insC l) ∧ True := ⟨plain_insC l, trivial⟩
    refine bifP (fun c0 => ?_) (fun c0 => ?_)
    · simp only [decide_eq_true_eq] at c0
      have hi : i < l.length := by omega
      obtain ⟨e1, ⟨e2, e3, e4, e5⟩, e6⟩ := at_insC3 hi
      have hw1 : w ((i : Int) + 1) = ((i + 1 : Nat) : Int) := by rw [w_id (by omega) (by omega)]; omega
      have hw2 : w ((d : Int) + 1) = ((d + 1 : Nat) : Int) := by rw [w_id (by omega) (by omega)]; omega
      have hget : l.getD i insD = l[i] := by rw [List.getD_eq_getElem?_getD, List.getElem?_eq_getElem hi]; rfl
      rw [hget] at e6
      rw [List.drop_eq_getElem_cons hi, endL] at hK
      rw [decide_eq_true (show (0 : Int) ≤ (i : Int) by omega), decide_eq_true c0, e2, e6]
      simp only [Bool.and_self, cond_true]
      refine bifP (fun o1 => ?_) (fun o1 => ?_)
      · rw [o1, cond_true] at hK
        have o2 : (l[i].op == 18) = false := by
          have := beq_iff_eq.1 o1
          rw [this]; rfl
        rw [o2, hw1, hw2]
        exact ⟨hp, ih _ _ (by omega) (by omega) (by omega) hK⟩
      · rw [o1, cond_false] at hK
        refine bifP (fun o2 => ?_) (fun o2 => ?_)
        · rw [o2, cond_true] at hK
          refine bifP (fun o3 => ?_) (fun o3 => ?_)
          · have hd : (d == 0) = true := by
              simp only [beq_iff_eq] at o3 ⊢; omega
            rw [hd, cond_true] at hK
            exact ⟨hp, hK⟩
          · have hd : (d == 0) = false := by
              rw [beq_eq_false_iff_ne] at o3 ⊢; omega
            have hd' : d ≠ 0 := beq_eq_false_iff_ne.mp hd
            have hw3 : w ((d : Int) - 1) = ((d - 1 : Nat) : Int) := by rw [w_id (by omega) (by omega)]; omega
            rw [hd, cond_false] at hK
            rw [hw3, hw1]
            exact ⟨hp, ih _ _ (by omega) (by omega) (by omega) hK⟩
        · rw [o2, cond_false] at hK
          rw [hw1]
          exact ⟨hp, ih _ _ (by omega) (by omega) (by omega) hK⟩
    · simp only [decide_eq_false_iff_not] at c0
      have h0 : i = l.length := by omega
      subst h0
      rw [List.drop_length] at hK
      exact ⟨hp, hK⟩
noncomputable def con64 : Con := { f := 38, gh := [], paths := pt1, spec := fun args bs => match args, bs with
  | [s, va], [some (.cells cl rw)] => match slN s 0 4, intV va with
    | some n, some a => some (cl = insC (unIns cl) ∧ (unIns cl).length = n ∧ n < 1000000000 ∧ 0 ≤ a ∧ a < (n : Int), [I (endL ((unIns cl).drop (a.toNat + 1)) 0 (a.toNat + 1))], [(true, some (.cells cl rw))])
    | _, _ => none
  | _, _ => none }
set_option maxRecDepth 100000 in
theorem con64_ok : con64.ok Tryd.prog w0 := by
  intro args bs p rs out e hp
  simp only [con64] at e
  split at e <;> first | (simp at e; done) | skip
  split at e <;> first | (simp at e; done) | skip
  rename_i s va cl rw _ _ n a hs ha
  simp only [Option.some.injEq, Prod.mk.injEq] at e
  obtain ⟨rfl, rfl, rfl⟩ := e
  obtain ⟨h1, h2, h3, h4, h5⟩ := hp
  rw [slN_eq hs, intV_eq ha]
  generalize unIns cl = l at h1 h2 ⊢
  subst h1 h2
  obtain ⟨a, rfl⟩ := Int.eq_ofNat_of_zero_le h4
  rw [Int.toNat_natCast]
  change CallS Tryd.prog w0 38 [SL G l.length 4, I (a : Int)] (heapB Tryd.prog.globals.size [some (.cells (insC l) rw)]) fun rs' h' => rs' = [I (endL (l.drop (a + 1)) 0 (a + 1))] ∧ h' = heapB Tryd.prog.globals.size [some (.cells (insC l) rw)]
  have hn : (heapB Tryd.prog.globals.size [some (.cells (insC l) rw)]).next = Tryd.prog.globals.size + nt1.flags.length := by rw [heapB_next]; rfl
  refine retT_call (nt := nt1) hn (call_sem (cd := Tryd.f38.body.getD .skip) Tryd.func38 (by kernel_rfl) ?_)
  rw [hn]
  refine seg_semI3 (F := ft64) mixed (callsOf_ok ok_none) leaf64 [3] 20 400 ((start64 l.length rw (insC l) a _ _).mpr ⟨⟨plain_insC l, trivial⟩, ?_⟩)
  have hw1 : w ((a : Int) + 1) = ((a + 1 : Nat) : Int) := by rw [w_id (by omega) (by omega)]; omega
  rw [hw1]
  exact loop64 (by omega) (l.length + 1) (a + 1) 0 (by omega) (by omega) (by omega) ⟨rfl, rfl⟩
theorem eval34 (n : Nat) (rw : Bool) (cl : List Value) (a t : Int) (K : List Value → AHeap → Prop) : evSeg Tryd.f34 [con64] nt1 [SL G n 4, I a, I t] [some (.cells cl rw)] K
    = (bif decide (t > a) then ((PlainL cl ∧ True) ∧ (PlainL cl ∧ True) ∧ cl = insC (unIns cl) ∧ (unIns cl).length = n ∧ n < 1000000000 ∧ 0 ≤ a ∧ a < (n : Int)) ∧ (PlainL cl ∧ True) ∧ K [B (decide (t ≤ endL ((unIns cl).drop (a.toNat + 1)) 0 (a.toNat + 1)))] (heapB G [some (.cells cl rw)])
      else (PlainL cl ∧ True) ∧ K [B false] (heapB G [some (.cells cl rw)])) := by kernel_rfl
/-- Is a place in a Loop's body, by the document? -/
def inD (l : List Ins) (a t : Int) : Bool := bif decide (t > a) then decide (t ≤ endL (l.drop (a.toNat + 1)) 0 (a.toNat + 1)) else false
noncomputable def con34 : Con := { f := 34, gh := [], paths := pt1, spec := fun args bs => match args, bs with
  | [s, va, vt], [some (.cells cl rw)] => match slN s 0 4, intV va, intV vt with
    | some n, some a, some t => some (cl = insC (unIns cl) ∧ (unIns cl).length = n ∧ n < 1000000000 ∧ 0 ≤ a ∧ a < (n : Int), [B (inD (unIns cl) a t)], [(true, some (.cells cl rw))])
    | _, _, _ => none
  | _, _ => none }
set_option maxRecDepth 100000 in
theorem con34_ok : con34.ok Tryd.prog w0 := by
  intro args bs p rs out e hp
  simp only [con34] at e
  split at e <;> first | (simp at e; done) | skip
  split at e <;> first | (simp at e; done) | skip
  rename_i s va vt cl rw _ _ _ n a t hs ha ht
  simp only [Option.some.injEq, Prod.mk.injEq] at e
  obtain ⟨rfl, rfl, rfl⟩ := e
  obtain ⟨h1, h2, h3, h4, h5⟩ := hp
  rw [slN_eq hs, intV_eq ha, intV_eq ht]
  generalize hl : unIns cl = l at h1 h2 ⊢
  subst h1 h2
  change CallS Tryd.prog w0 34 [SL G l.length 4, I a, I t] (heapB Tryd.prog.globals.size [some (.cells (insC l) rw)]) fun rs' h' => rs' = [B (inD l a t)] ∧ h' = heapB Tryd.prog.globals.size [some (.cells (insC l) rw)]
  refine ev_callS (nt := nt1) (cs := [con64]) Tryd.func34 (by kernel_rfl) (fun c hc => by
    simp only [List.mem_cons, List.not_mem_nil, or_false] at hc
    subst hc
    exact con64_ok) rfl ((eval34 l.length rw (insC l) a t _).mpr ?_)
  have hp : PlainL (insC l) ∧ True := ⟨plain_insC l, trivial⟩
  rw [unIns_insC]
  unfold inD
  refine bifP (fun c => ?_) (fun c => ?_)
  · rw [c]
    exact ⟨⟨hp, hp, rfl, rfl, h3, h4, h5⟩, hp, rfl, rfl⟩
  · rw [c]
    exact ⟨hp, rfl, rfl⟩

noncomputable def ft33 : FT := { loc := fun _ => false, mask := fun id => bif Nat.beq id 3 then live 53 [0, 3, 4] else bif Nat.beq id 14 then live 53 [0, 5] else [] }
noncomputable def todo33a : List Item := todoOf Tryd.f33 3
noncomputable def todo33b : List Item := todoOf Tryd.f33 14
noncomputable def fr33a (n : Nat) (dp i : Int) : List AV := frm 53 [(0, .v (SL G n 4)), (3, .v (I dp)), (4, .v (I i))]
noncomputable def fr33b (n : Nat) (i : Int) : List AV := frm 53 [(0, .v (SL G n 4)), (5, .v (I i))]
abbrev seg33 (K : List Value → AHeap → Prop) (L : List Item → List AV → AHeap → Prop) (t : List Item) (fr : List AV) (h : AHeap) : Prop :=
  segK3 Tryd.prog ft33 (semI Tryd.prog (fun _ => ft0) (callsOf G [con64]) 400 20 (retT G nt1 K)) Tryd.f33 [3, 14] 400 t fr (fun t fr h => match t with
  | .code (.region 3 _ _) :: _ => canonT G nt1 (L t) fr h
  | .code (.region 14 _ _) :: _ => canonT G nt1 (L t) fr h
  | _ => False) h
section
variable (n : Nat) (rw : Bool) (cl : List Value) (dp i : Int) (K : List Value → AHeap → Prop) (L : List Item → List AV → AHeap → Prop)
abbrev ret33 (cl : List Value) (rw : Bool) (K : List Value → AHeap → Prop) (v : Int) : Prop := (PlainL cl ∧ True) ∧ K [I v] (heapB G [some (.cells cl rw)])
abbrev go33 (n : Nat) (cl : List Value) (rw : Bool) (L : List Item → List AV → AHeap → Prop) (dp i : Int) : Prop := (PlainL cl ∧ True) ∧ L todo33a (fr33a n dp (w (i + 1))) (heapB G [some (.cells cl rw)])
theorem start33 : seg33 K L [.code (Tryd.f33.body.getD .skip)] (startF Tryd.f33 [SL G n 4]) (heapB G [some (.cells cl rw)])
    = ((PlainL cl ∧ True) ∧ L todo33a (fr33a n 0 0) (heapB G [some (.cells cl rw)])) := by kernel_rfl
theorem head33a : seg33 K L todo33a (fr33a n dp i) (heapB G [some (.cells cl rw)])
    = (bif decide (i < (n : Int)) then bif decide (0 ≤ i) && decide (i < (n : Int)) then bif okI .i64 (pk64 cl i) then
        bif intO (pk64 cl i) == 17 then bif dp == 3 then ret33 cl rw K i else bif decide (0 ≤ i) && decide (i < (n : Int)) then bif okI .i64 (pk64 cl i) then
          bif intO (pk64 cl i) == 18 then bif w (dp + 1) == 0 then ret33 cl rw K i else go33 n cl rw L (w (w (dp + 1) - 1)) i else go33 n cl rw L (w (dp + 1)) i else False else False
        else bif decide (0 ≤ i) && decide (i < (n : Int)) then bif okI .i64 (pk64 cl i) then
          bif intO (pk64 cl i) == 18 then bif dp == 0 then ret33 cl rw K i else go33 n cl rw L (w (dp - 1)) i else go33 n cl rw L dp i else False else False
        else False else False
      else (PlainL cl ∧ True) ∧ L todo33b (fr33b n 0) (heapB G [some (.cells cl rw)])) := by kernel_rfl
abbrev nx33 (n : Nat) (cl : List Value) (rw : Bool) (L : List Item → List AV → AHeap → Prop) (i : Int) : Prop := (PlainL cl ∧ True) ∧ L todo33b (fr33b n (w (i + 1))) (heapB G [some (.cells cl rw)])
theorem head33b : seg33 K L todo33b (fr33b n i) (heapB G [some (.cells cl rw)])
    = (bif decide (i < (n : Int)) then bif decide (0 ≤ i) && decide (i < (n : Int)) then bif okI .i64 (pk64 cl i) then
        bif intO (pk64 cl i) == 17 then ((PlainL cl ∧ True) ∧ (PlainL cl ∧ True) ∧ cl = insC (unIns cl) ∧ (unIns cl).length = n ∧ n < 1000000000 ∧ 0 ≤ i ∧ i < (n : Int)) ∧
          bif decide (endL ((unIns cl).drop (i.toNat + 1)) 0 (i.toNat + 1) < 0) then ret33 cl rw K i else nx33 n cl rw L i
        else nx33 n cl rw L i else False else False
      else ret33 cl rw K (-1)) := by kernel_rfl
end

def r36 (a b _c d : Int) : Int :=
  bif decide (a ≤ (10 : Int)) then b else bif a == (19 : Int) then bif d == (1 : Int) then (0 : Int) else (-1 : Int) else (-1 : Int)
theorem eval36 (a b c d : Int) (r : List Value) :
    pureSeg [] Tryd.f36 [AG [I a, I b, I c, I d]] r
    = (bif decide (a ≤ (10 : Int)) then True ∧ [Value.int IntKind.i64 b] = r else bif a == (19 : Int) then bif d == (1 : Int) then True ∧ [Value.int IntKind.i64 (0 : Int)] = r else True ∧ [Value.int IntKind.i64 (-1 : Int)] = r else True ∧ [Value.int IntKind.i64 (-1 : Int)] = r) := by kernel_rfl
def F36 : List Value → Option (List Value)
  | [v0] => match aggV v0 with
    | some [a, b, c, d] => some [I (r36 a b c d)]
    | _ => none
  | _ => none
theorem F36_eq {args rs : List Value} (e : F36 args = some rs) : ∃ a b c d : Int, args = [AG [I a, I b, I c, I d]] ∧ rs = [I (r36 a b c d)] := by
  unfold F36 at e
  split at e
  · rename_i v0
    split at e
    · rename_i a b c d h0
      simp only [Option.some.injEq] at e
      exact ⟨a, b, c, d, by rw [aggV_eq h0]; rfl, e.symm⟩
    · simp at e
  · simp at e
def con36 : Con := pureCon 36 F36
set_option maxRecDepth 100000 in
theorem con36_ok : con36.ok Tryd.prog w0 :=
  pure_ok (cs := []) Tryd.func36 (by kernel_rfl) (fun c hc => by simp at hc) fun args rs e => by
    obtain ⟨a, b, c, d, h1, h2⟩ := F36_eq e
    rw [h1, h2, eval36]
    repeat' (first | exact trivial | refine And.intro ?_ ?_ | refine bifP (fun h => ?_) (fun h => ?_))
    all_goals first | (simp only [r36, *, cond_true, cond_false]; done) | simp_all
def r63b (a b : Int) : Int :=
  bif decide (a > b) then b else a
def r63c (a b : Int) : Int :=
  bif decide (a > b) then a else b
theorem eval63 (a b : Int) (r : List Value) :
    pureSeg [] Tryd.f63 [I a, I b] r
    = (bif decide (a > b) then True ∧ [Value.agg { toList := [Value.int IntKind.i64 b, Value.int IntKind.i64 a] }] = r else True ∧ [Value.agg { toList := [Value.int IntKind.i64 a, Value.int IntKind.i64 b] }] = r) := by kernel_rfl
def F63 : List Value → Option (List Value)
  | [v0, v1] => match intV v0 with
    | some a => (match intV v1 with
    | some b => some [AG [I (r63b a b), I (r63c a b)]]
    | _ => none)
    | _ => none
  | _ => none
theorem F63_eq {args rs : List Value} (e : F63 args = some rs) : ∃ a b : Int, args = [I a, I b] ∧ rs = [AG [I (r63b a b), I (r63c a b)]] := by
  unfold F63 at e
  split at e
  · rename_i v0 v1
    split at e
    · rename_i a h0
      split at e
      · rename_i b h1
        simp only [Option.some.injEq] at e
        exact ⟨a, b, by rw [intV_eq h0, intV_eq h1], e.symm⟩
      · simp at e
    · simp at e
  · simp at e
def con63 : Con := pureCon 63 F63
set_option maxRecDepth 100000 in
theorem con63_ok : con63.ok Tryd.prog w0 :=
  pure_ok (cs := []) Tryd.func63 (by kernel_rfl) (fun c hc => by simp at hc) fun args rs e => by
    obtain ⟨a, b, h1, h2⟩ := F63_eq e
    rw [h1, h2, eval63]
    repeat' (first | exact trivial | refine And.intro ?_ ?_ | refine bifP (fun h => ?_) (fun h => ?_))
    all_goals first | (simp only [r63b, r63c, *, cond_true, cond_false]; done) | simp_all
def r65 (a b : Int) : Int :=
  bif decide (a < (0 : Int)) then (0 : Int) else bif decide (a > b) then b else a
theorem eval65 (a b : Int) (r : List Value) :
    pureSeg [] Tryd.f65 [I a, I b] r
    = (bif decide (a < (0 : Int)) then True ∧ [Value.int IntKind.i64 (0 : Int)] = r else bif decide (a > b) then True ∧ [Value.int IntKind.i64 b] = r else True ∧ [Value.int IntKind.i64 a] = r) := by kernel_rfl
def F65 : List Value → Option (List Value)
  | [v0, v1] => match intV v0 with
    | some a => (match intV v1 with
    | some b => some [I (r65 a b)]
    | _ => none)
    | _ => none
  | _ => none
theorem F65_eq {args rs : List Value} (e : F65 args = some rs) : ∃ a b : Int, args = [I a, I b] ∧ rs = [I (r65 a b)] := by
  unfold F65 at e
  split at e
  · rename_i v0 v1
    split at e
    · rename_i a h0
      split at e
      · rename_i b h1
        simp only [Option.some.injEq] at e
        exact ⟨a, b, by rw [intV_eq h0, intV_eq h1], e.symm⟩
      · simp at e
    · simp at e
  · simp at e
def con65 : Con := pureCon 65 F65
set_option maxRecDepth 100000 in
theorem con65_ok : con65.ok Tryd.prog w0 :=
  pure_ok (cs := []) Tryd.func65 (by kernel_rfl) (fun c hc => by simp at hc) fun args rs e => by
    obtain ⟨a, b, h1, h2⟩ := F65_eq e
    rw [h1, h2, eval65]
    repeat' (first | exact trivial | refine And.intro ?_ ?_ | refine bifP (fun h => ?_) (fun h => ?_))
    all_goals first | (simp only [r65, *, cond_true, cond_false]; done) | simp_all

abbrev opA (l : List Ins) (i : Nat) : Int := (l.getD i insD).op
/-- The Loops that are open ahead of a place. -/
def opn (l : List Ins) : Nat → List Nat
  | 0 => []
  | i + 1 => if opA l i = 17 then opn l i ++ [i] else if opA l i = 18 then (opn l i).dropLast else opn l i
def topN (s : List Nat) : Int := match s.getLast? with
  | some k => k
  | none => -1
theorem opn_loop {l : List Ins} {i : Nat} (h : opA l i = 17) : opn l (i + 1) = opn l i ++ [i] := by rw [opn, if_pos h]
theorem opn_end {l : List Ins} {i : Nat} (h : opA l i = 18) : opn l (i + 1) = (opn l i).dropLast := by rw [opn, if_neg (by omega), if_pos h]
theorem opn_other {l : List Ins} {i : Nat} (h : opA l i ≠ 17) (h' : opA l i ≠ 18) : opn l (i + 1) = opn l i := by rw [opn, if_neg h, if_neg h']
theorem opn_lt {l : List Ins} : ∀ {i k : Nat}, k ∈ opn l i → k < i ∧ opA l k = 17 := by
  intro i
  induction i with
  | zero => intro k h; simp [opn] at h
  | succ i ih =>
    intro k h
    rw [opn] at h
    split at h
    · rename_i e
      rcases List.mem_append.1 h with h | h
      · have := ih h; exact ⟨by omega, this.2⟩
      · simp only [List.mem_singleton] at h; subst h; exact ⟨by omega, e⟩
    · split at h
      · have := ih (List.dropLast_sublist _ |>.subset h); exact ⟨by omega, this.2⟩
      · have := ih h; exact ⟨by omega, this.2⟩
theorem opn_srt {l : List Ins} : ∀ i, (opn l i).Pairwise (· < ·) := by
  intro i
  induction i with
  | zero => exact List.Pairwise.nil
  | succ i ih =>
    rw [opn]
    split
    · rw [List.pairwise_append]
      refine ⟨ih, List.pairwise_singleton .., fun a ha b hb => ?_⟩
      simp only [List.mem_singleton] at hb; subst hb
      exact (opn_lt ha).1
    · split
      · exact ih.sublist (List.dropLast_sublist _)
      · exact ih
theorem opn_pre {l : List Ins} : ∀ {i k : Nat}, k ∈ opn l i → ∃ t, opn l i = opn l k ++ k :: t := by
  intro i
  induction i with
  | zero => intro k h; simp [opn] at h
  | succ i ih =>
    intro k h
    rw [opn] at h ⊢
    split at h
    · rename_i e
      rw [if_pos e]
      rcases List.mem_append.1 h with h | h
      · obtain ⟨t, ht⟩ := ih h
        exact ⟨t ++ [i], by rw [ht]; simp⟩
      · simp only [List.mem_singleton] at h; subst h; exact ⟨[], rfl⟩
    · rename_i e
      rw [if_neg e]
      split at h
      · rename_i e'
        rw [if_pos e']
        obtain ⟨t, ht⟩ := ih (List.dropLast_sublist _ |>.subset h)
        rcases List.eq_nil_or_concat t with rfl | ⟨u, x, rfl⟩
        · exfalso
          rw [ht] at h
          have : k ∈ opn l k := by simpa using h
          exact absurd (opn_lt this).1 (by omega)
        · refine ⟨u, ?_⟩
          rw [ht, show opn l k ++ k :: (u.concat x) = (opn l k ++ k :: u) ++ [x] by simp, List.dropLast_concat]
      · rename_i e'
        rw [if_neg e']
        exact ih h
theorem opn_gone {l : List Ins} {k : Nat} : ∀ {j d : Nat}, k < j → k ∉ opn l j → k ∉ opn l (j + d) := by
  intro j d
  induction d with
  | zero => intro _ h; exact h
  | succ d ih =>
    intro h1 h2 h3
    have := ih h1 h2
    rw [show j + (d + 1) = (j + d) + 1 by omega, opn] at h3
    split at h3
    · rcases List.mem_append.1 h3 with h | h
      · exact this h
      · simp only [List.mem_singleton] at h; omega
    · split at h3
      · exact this (List.dropLast_sublist _ |>.subset h3)
      · exact this h3
theorem opn_self {l : List Ins} {k : Nat} : k ∉ opn l k := fun h => absurd (opn_lt h).1 (by omega)
theorem topN_nil : topN [] = -1 := rfl
theorem topN_snoc (s : List Nat) (k : Nat) : topN (s ++ [k]) = k := by unfold topN; simp
def cN (s : List Nat) : List Int := s.map fun k : Nat => (k : Int)
theorem cN_snoc (s : List Nat) (k : Nat) : cN (s ++ [k]) = cN s ++ [(k : Int)] := by simp [cN]
theorem cN_len (s : List Nat) : (cN s).length = s.length := List.length_map _
theorem topF_map (s : List Nat) : topF (cN s) = topN s := by
  rcases List.eq_nil_or_concat s with rfl | ⟨u, x, rfl⟩
  · rfl
  · rw [List.concat_eq_append, topN_snoc]
    unfold topF
    have : decide (((cN (u ++ [x])).length : Int) > 0) = true := by rw [cN_len]; simp
    rw [this, cond_true, cN_snoc, List.getD_eq_getElem?_getD]
    simp
/-- The stack, by its top. -/
theorem opn_top {l : List Ins} {i : Nat} (h : opn l i ≠ []) : ∃ k, opn l i = opn l k ++ [k] ∧ k < i ∧ opA l k = 17 ∧ topN (opn l i) = k := by
  rcases List.eq_nil_or_concat (opn l i) with e | ⟨u, x, e⟩
  · exact absurd e h
  · rw [List.concat_eq_append] at e
    have hx : x ∈ opn l i := by rw [e]; simp
    obtain ⟨t, ht⟩ := opn_pre hx
    have hlt := opn_lt hx
    have hs := opn_srt (l := l) i
    rcases List.eq_nil_or_concat t with rfl | ⟨u', y, rfl⟩
    · exact ⟨x, ht, hlt.1, hlt.2, by rw [e, topN_snoc]⟩
    · exfalso
      rw [List.concat_eq_append] at ht
      have e2 : u ++ [x] = (opn l x ++ x :: u') ++ [y] := by rw [← e, ht]; simp
      have hy : x = y := by
        have := congrArg List.getLast? e2
        rw [List.getLast?_append, List.getLast?_append] at this
        simpa using this
      rw [ht, List.pairwise_append] at hs
      have h3 := (List.pairwise_cons.1 hs.2.1).1 y (by simp)
      omega
/-- A Loop's End. -/
def EnAt (l : List Ins) (en : List Int) (k : Nat) : Prop := ∃ e : Nat, en.getD k 0 = (e : Int) ∧ k < e ∧ e < l.length ∧ opA l e = 18 ∧ opn l e = opn l k ++ [k]
/-- Loops that are right. -/
structure LpR (l : List Ins) (lp en : List Int) : Prop where
  in3 : ∀ i, i < l.length → opA l i = 17 → (opn l i).length < 3
  pos : ∀ i, i < l.length → opA l i = 18 → opn l i ≠ []
  fin : opn l l.length = []
  lp : ∀ i, i < l.length → lp.getD i 0 = topN (opn l i)
  en : ∀ k, k < l.length → opA l k = 17 → EnAt l en k
theorem opn_endAt {l : List Ins} {i : Nat} (h : opA l i = 18) {k : Nat} (e : opn l i = opn l k ++ [k]) : opn l (i + 1) = opn l k := by rw [opn_end h, e, List.dropLast_concat]
theorem loopF_opn (l : List Ins) : ∀ (f i : Nat) (lp en : List Int), l.length - i < f → i ≤ l.length → lp.length = l.length → en.length = l.length → (opn l i).length ≤ 3 →
    (∀ k, k < i → lp.getD k 0 = topN (opn l k)) → (∀ k, k < i → opA l k = 17 → k ∈ opn l i ∨ EnAt l en k) → (∀ k, k < i → opA l k = 17 → (opn l k).length < 3) → (∀ k, k < i → opA l k = 18 → opn l k ≠ []) →
    (loopF l f i (cN (opn l i)) lp en).1 = -1 → LpR l (loopF l f i (cN (opn l i)) lp en).2.1 (loopF l f i (cN (opn l i)) lp en).2.2 := by
  intro f
  induction f with
  | zero => intro i lp en h1; omega
  | succ f ih =>
    intro i lp en h1 h2 h3 h4 h9 h5 h6 h7 h8 hr
    rw [loopF] at hr ⊢
    by_cases hi : i < l.length
    · rw [decide_eq_true hi, cond_true] at hr ⊢
      have hlp : ∀ k, k < i + 1 → (lp.set i (topF (cN (opn l i)))).getD k 0 = topN (opn l k) := by
        intro k hk
        rw [getD_set (by omega)]
        split
        · rename_i e; subst e; exact topF_map _
        · exact h5 k (by omega)
      by_cases c1 : opA l i = 17
      · have e1 : ((l.getD i insD).op == 17) = true := by rw [beq_iff_eq]; exact c1
        rw [e1, cond_true] at hr ⊢
        cases m3 : (((cN (opn l i)).length : Int) == 3) with
        | true => rw [m3, cond_true] at hr; simp only at hr; omega
        | false =>
          rw [m3, cond_false] at hr
          rw [cond_false]
          have hne : (opn l i).length < 3 := by
            have := beq_eq_false_iff_ne.mp m3
            rw [cN_len] at this; omega
          rw [← cN_snoc, ← opn_loop c1] at hr ⊢
          refine ih (i + 1) _ en (by omega) (by omega) (by rw [List.length_set]; exact h3) h4 (by rw [opn_loop c1, List.length_append]; simp; omega) hlp (fun k hk hop => ?_) (fun k hk hop => ?_) (fun k hk hop => ?_) hr
          · rw [opn_loop c1]
            rcases Nat.lt_succ_iff_lt_or_eq.1 hk with hk | rfl
            · rcases h6 k hk hop with h | h
              · exact .inl (List.mem_append_left _ h)
              · exact .inr h
            · exact .inl (by simp)
          · rcases Nat.lt_succ_iff_lt_or_eq.1 hk with hk | rfl
            · exact h7 k hk hop
            · exact hne
          · rcases Nat.lt_succ_iff_lt_or_eq.1 hk with hk | rfl
            · exact h8 k hk hop
            · omega
      · have e1 : ((l.getD i insD).op == 17) = false := by rw [beq_eq_false_iff_ne]; exact c1
        rw [e1, cond_false] at hr ⊢
        by_cases c2 : opA l i = 18
        · have e2 : ((l.getD i insD).op == 18) = true := by rw [beq_iff_eq]; exact c2
          rw [e2, cond_true] at hr ⊢
          cases m0 : (((cN (opn l i)).length : Int) == 0) with
          | true => rw [m0, cond_true] at hr; simp only at hr; omega
          | false =>
            rw [m0, cond_false] at hr
            rw [cond_false]
            have hne : opn l i ≠ [] := by
              intro e
              have := beq_eq_false_iff_ne.mp m0
              rw [e] at this; exact this rfl
            obtain ⟨k, k1, k2, k3, k4⟩ := opn_top hne
            have ht : (cN (opn l i)).take ((cN (opn l i)).length - 1) = cN (opn l (i + 1)) := by
              rw [opn_endAt c2 k1, k1, cN_snoc]; simp
            have htop : (topF (cN (opn l i))).toNat = k := by rw [topF_map, k4]; simp
            rw [ht, htop] at hr ⊢
            have hen : EnAt l (en.set k i) k := ⟨i, by rw [getD_set (by omega), if_pos rfl], k2, hi, c2, k1⟩
            refine ih (i + 1) _ _ (by omega) (by omega) (by rw [List.length_set]; exact h3) (by rw [List.length_set]; exact h4) (by rw [opn_end c2, List.length_dropLast]; omega) hlp (fun q hq hop => ?_) (fun q hq hop => ?_) (fun q hq hop => ?_) hr
            · by_cases hqk : q = k
              · subst hqk; exact .inr hen
              · rcases Nat.lt_succ_iff_lt_or_eq.1 hq with hq | rfl
                · rcases h6 q hq hop with h | h
                  · rw [opn_endAt c2 k1]
                    rw [k1] at h
                    rcases List.mem_append.1 h with h | h
                    · exact .inl h
                    · simp only [List.mem_singleton] at h; exact absurd h hqk
                  · obtain ⟨e, a1, a2⟩ := h
                    exact .inr ⟨e, by rw [getD_set (by omega), if_neg (by omega)]; exact a1, a2⟩
                · omega
            · rcases Nat.lt_succ_iff_lt_or_eq.1 hq with hq | rfl
              · exact h7 q hq hop
              · omega
            · rcases Nat.lt_succ_iff_lt_or_eq.1 hq with hq | rfl
              · exact h8 q hq hop
              · exact hne
        · have e2 : ((l.getD i insD).op == 18) = false := by rw [beq_eq_false_iff_ne]; exact c2
          rw [e2, cond_false] at hr ⊢
          rw [← opn_other c1 c2] at hr ⊢
          rw [show topF (cN (opn l (i + 1))) = topF (cN (opn l i)) by rw [opn_other c1 c2]] at hr ⊢
          refine ih (i + 1) _ en (by omega) (by omega) (by rw [List.length_set]; exact h3) h4 (by rw [opn_other c1 c2]; exact h9) hlp (fun q hq hop => ?_) (fun q hq hop => ?_) (fun q hq hop => ?_) hr
          · rw [opn_other c1 c2]
            rcases Nat.lt_succ_iff_lt_or_eq.1 hq with hq | rfl
            · exact h6 q hq hop
            · omega
          · rcases Nat.lt_succ_iff_lt_or_eq.1 hq with hq | rfl
            · exact h7 q hq hop
            · omega
          · rcases Nat.lt_succ_iff_lt_or_eq.1 hq with hq | rfl
            · exact h8 q hq hop
            · omega
    · rw [decide_eq_false hi, cond_false] at hr ⊢
      have hi' : i = l.length := by omega
      subst hi'
      have hnil : opn l l.length = [] := by
        cases hp : decide (((cN (opn l l.length)).length : Int) > 0) with
        | true =>
          rw [hp, cond_true] at hr
          exfalso
          cases hs : opn l l.length with
          | nil => rw [hs] at hp; simp [cN] at hp
          | cons a r => rw [hs] at hr; simp [cN] at hr
        | false =>
          rw [cN_len] at hp
          simp only [decide_eq_false_iff_not] at hp
          exact List.eq_nil_of_length_eq_zero (by omega)
      refine ⟨fun k hk ho => h7 k hk ho, fun k hk ho => h8 k hk ho, hnil, h5, fun k hk ho => ?_⟩
      rcases h6 k hk ho with h | h
      · rw [hnil] at h; simp at h
      · exact h
/-- The checker's Loops. -/
theorem lo0_right {l : List Ins} (h : (lo0 l).1 = -1) : LpR l (lo0 l).2.1 (lo0 l).2.2 :=
  loopF_opn l (l.length + 1) 0 (nul l.length) (nul l.length) (by omega) (by omega) (nul_len _) (nul_len _) (by simp [opn]) (fun k hk => by omega) (fun k hk => by omega) (fun k hk => by omega) (fun k hk => by omega) h

section
variable {l : List Ins} {lp en : List Int}
/-- Where a Loop is open. -/
theorem LpR.mem (h : LpR l lp en) {k i : Nat} (hk : k < l.length) (ho : opA l k = 17) : k ∈ opn l i ↔ k < i ∧ (i : Int) ≤ en.getD k 0 := by
  obtain ⟨e, e1, e2, e3, e4, e5⟩ := h.en k hk ho
  rw [e1]
  constructor
  · intro hm
    refine ⟨(opn_lt hm).1, ?_⟩
    refine Classical.byContradiction fun hn => ?_
    have hg : k ∉ opn l (e + 1) := by rw [opn_endAt e4 e5]; exact opn_self
    have := opn_gone (d := i - (e + 1)) (by omega) hg
    rw [show e + 1 + (i - (e + 1)) = i by omega] at this
    exact this hm
  · intro hm
    refine Classical.byContradiction fun hn => ?_
    have := opn_gone (d := e - i) hm.1 hn
    rw [show i + (e - i) = e by omega, e5] at this
    exact this (by simp)
theorem LpR.within (h : LpR l lp en) {i : Nat} : ∀ (f j : Nat), j ≤ l.length → withinF lp en (i : Int) f (topN (opn l j)) = true → ∀ k ∈ opn l j, k ∈ opn l i := by
  intro f
  induction f with
  | zero => intro j _ hw; cases hw
  | succ f ih =>
    intro j hj hw k hk
    have hne : opn l j ≠ [] := List.ne_nil_of_mem hk
    obtain ⟨q, q1, q2, q3, q4⟩ := opn_top hne
    rw [q4, withinF] at hw
    have c0 : decide ((q : Int) ≥ 0) = true := by simp
    rw [c0, cond_true] at hw
    cases c1 : decide ((i : Int) ≤ (q : Int)) with
    | true => rw [c1] at hw; cases hw
    | false =>
      rw [c1, cond_false] at hw
      cases c2 : decide ((i : Int) > en.getD (q : Int).toNat 0) with
      | true => rw [c2] at hw; cases hw
      | false =>
        rw [c2, cond_false] at hw
        simp only [decide_eq_false_iff_not, Int.toNat_natCast] at c1 c2 hw
        have hq : q < l.length := by omega
        rw [q1] at hk
        rcases List.mem_append.1 hk with hk | hk
        · rw [h.lp q hq] at hw
          exact ih q (by omega) hw k hk
        · simp only [List.mem_singleton] at hk; subst hk
          exact (h.mem hq q3).2 ⟨by omega, by omega⟩
end
/-- One that is open here and there. -/
theorem opn_prefix {l : List Ins} {i t : Nat} (h : ∀ k ∈ opn l t, k ∈ opn l i) : ∃ r, opn l i = opn l t ++ r := by
  by_cases hne : opn l t = []
  · exact ⟨opn l i, by rw [hne]; rfl⟩
  · obtain ⟨q, q1, _⟩ := opn_top hne
    obtain ⟨r, hr⟩ := opn_pre (h q (by rw [q1]; simp))
    exact ⟨r, by rw [hr, q1]; simp⟩

theorem getD_in {l : List Ins} {j : Nat} (hj : j < l.length) : l[j] = l.getD j insD := by rw [List.getD_eq_getElem?_getD, List.getElem?_eq_getElem hj]; rfl
theorem endL_opn {l : List Ins} {k : Nat} : ∀ (d j : Nat) (r : List Nat), l.length - j = d → j ≤ l.length → k < j → opn l j = opn l k ++ k :: r →
    (∃ e : Nat, endL (l.drop j) r.length j = (e : Int) ∧ j ≤ e ∧ e < l.length ∧ opA l e = 18 ∧ opn l e = opn l k ++ [k]) ∨ (endL (l.drop j) r.length j = -1 ∧ k ∈ opn l l.length) := by
  intro d
  induction d with
  | zero =>
    intro j r h1 h2 h3 h4
    have : j = l.length := by omega
    subst this
    rw [List.drop_length]
    exact .inr ⟨rfl, by rw [h4]; simp⟩
  | succ d ih =>
    intro j r h1 h2 h3 h4
    have hj : j < l.length := by omega
    rw [List.drop_eq_getElem_cons hj, endL, getD_in hj]
    have weak : ∀ {x : Int}, ((∃ e : Nat, x = (e : Int) ∧ j + 1 ≤ e ∧ e < l.length ∧ opA l e = 18 ∧ opn l e = opn l k ++ [k]) ∨ (x = -1 ∧ k ∈ opn l l.length)) →
        ((∃ e : Nat, x = (e : Int) ∧ j ≤ e ∧ e < l.length ∧ opA l e = 18 ∧ opn l e = opn l k ++ [k]) ∨ (x = -1 ∧ k ∈ opn l l.length)) := by
      intro x h
      rcases h with ⟨e, e1, e2, e3⟩ | h
      · exact .inl ⟨e, e1, by omega, e3⟩
      · exact .inr h
    by_cases c1 : opA l j = 17
    · have e1 : ((l.getD j insD).op == 17) = true := by rw [beq_iff_eq]; exact c1
      rw [e1, cond_true]
      have := ih (j + 1) (r ++ [j]) (by omega) (by omega) (by omega) (by rw [opn_loop c1, h4]; simp)
      rw [List.length_append] at this
      exact weak this
    · have e1 : ((l.getD j insD).op == 17) = false := by rw [beq_eq_false_iff_ne]; exact c1
      rw [e1, cond_false]
      by_cases c2 : opA l j = 18
      · have e2 : ((l.getD j insD).op == 18) = true := by rw [beq_iff_eq]; exact c2
        rw [e2, cond_true]
        rcases List.eq_nil_or_concat r with rfl | ⟨u, x, rfl⟩
        · exact .inl ⟨j, rfl, by omega, hj, c2, h4⟩
        · have := ih (j + 1) u (by omega) (by omega) (by omega) (by rw [opn_end c2, h4, show opn l k ++ k :: (u.concat x) = (opn l k ++ k :: u) ++ [x] by simp, List.dropLast_concat])
          have hl : (u.concat x).length = u.length + 1 := by simp
          rw [hl, show (u.length + 1 == 0) = false from rfl, cond_false]
          exact weak this
      · have e2 : ((l.getD j insD).op == 18) = false := by rw [beq_eq_false_iff_ne]; exact c2
        rw [e2, cond_false]
        exact weak (ih (j + 1) r (by omega) (by omega) (by omega) (by rw [opn_other c1 c2, h4]))
/-- A Loop's End, where it stands. -/
abbrev enD (l : List Ins) (k : Nat) : Int := endL (l.drop (k + 1)) 0 (k + 1)
theorem enD_opn {l : List Ins} {k : Nat} (hk : k < l.length) (ho : opA l k = 17) :
    (∃ e : Nat, enD l k = (e : Int) ∧ k + 1 ≤ e ∧ e < l.length ∧ opA l e = 18 ∧ opn l e = opn l k ++ [k]) ∨ (enD l k = -1 ∧ k ∈ opn l l.length) :=
  endL_opn (l := l) (k := k) _ (k + 1) [] rfl (by omega) (by omega) (by rw [opn_loop ho])
theorem enD_neg {l : List Ins} {k : Nat} (hk : k < l.length) (ho : opA l k = 17) : enD l k < 0 ↔ k ∈ opn l l.length := by
  rcases enD_opn hk ho with ⟨e, e1, e2, e3, e4, e5⟩ | ⟨e1, e2⟩
  · rw [e1]
    constructor
    · intro h; omega
    · intro h
      exfalso
      have hg : k ∉ opn l (e + 1) := by rw [opn_endAt e4 e5]; exact opn_self
      have := opn_gone (d := l.length - (e + 1)) (by omega) hg
      rw [show e + 1 + (l.length - (e + 1)) = l.length by omega] at this
      exact this h
  · rw [e1]
    exact ⟨fun _ => e2, fun _ => by omega⟩
section
variable {l : List Ins} {lp en : List Int}
theorem LpR.enD (h : LpR l lp en) {k : Nat} (hk : k < l.length) (ho : opA l k = 17) : enD l k = en.getD k 0 := by
  rcases enD_opn hk ho with ⟨e, e1, e2, e3, e4, e5⟩ | ⟨e1, e2⟩
  · have m1 : k ∈ opn l e := by rw [e5]; simp
    have m2 : ¬ k ∈ opn l (e + 1) := by rw [opn_endAt e4 e5]; exact opn_self
    rw [h.mem hk ho] at m1 m2
    rw [e1]
    omega
  · rw [h.fin] at e2; simp at e2
theorem LpR.inD (h : LpR l lp en) {k : Nat} (hk : k < l.length) (ho : opA l k = 17) {t : Nat} : inD l k t = true ↔ k ∈ opn l t := by
  have he := h.enD hk ho
  unfold Go.Proofs.YtadaindmgmielaaDoor.enD at he
  unfold Go.Proofs.YtadaindmgmielaaDoor.inD
  rw [Int.toNat_natCast, he, h.mem hk ho]
  by_cases c : k < t
  · rw [decide_eq_true (show (t : Int) > (k : Int) by omega), cond_true, decide_eq_true_iff]
    exact ⟨fun h => ⟨c, h⟩, fun h => h.2⟩
  · rw [decide_eq_false (show ¬ (t : Int) > (k : Int) by omega), cond_false]
    exact ⟨fun h => (by cases h), fun h => absurd h.1 c⟩
theorem LpR.within' (h : LpR l lp en) {i : Nat} : ∀ (f j : Nat), j ≤ l.length → j < f → (∀ k ∈ opn l j, k ∈ opn l i) → withinF lp en (i : Int) f (topN (opn l j)) = true := by
  intro f
  induction f with
  | zero => intro j _ hw; omega
  | succ f ih =>
    intro j hj hf hk
    by_cases hne : opn l j = []
    · rw [hne, topN_nil, withinF]; rfl
    · obtain ⟨q, q1, q2, q3, q4⟩ := opn_top hne
      rw [q4, withinF]
      have hq : q < l.length := by omega
      have hm := (h.mem hq q3).1 (hk q (by rw [q1]; simp))
      rw [decide_eq_true (show (q : Int) ≥ 0 by omega), cond_true, decide_eq_false (show ¬ (i : Int) ≤ (q : Int) by omega), cond_false, Int.toNat_natCast, decide_eq_false (show ¬ (i : Int) > en.getD q 0 by omega), cond_false, h.lp q hq]
      exact ih q (by omega) (by omega) fun k hkk => hk k (by rw [q1]; exact List.mem_append_left _ hkk)
end
/-- Is a jump into a Loop's body, from outside? -/
def jmpD (l : List Ins) (i t : Int) : Nat → Nat → Bool
  | 0, _ => false
  | f + 1, k => bif decide (k < l.length) then (bif (l.getD k insD).op == 17 then bif inD l k t then bif inD l k i then jmpD l i t f (k + 1) else true else jmpD l i t f (k + 1) else jmpD l i t f (k + 1)) else false
theorem jmpD_iff {l : List Ins} {i t : Int} : ∀ (f k : Nat), l.length - k < f → (jmpD l i t f k = true ↔ ∃ q : Nat, k ≤ q ∧ q < l.length ∧ opA l q = 17 ∧ inD l q t = true ∧ inD l q i = false) := by
  intro f
  induction f with
  | zero => intro k h; omega
  | succ f ih =>
    intro k h
    rw [jmpD]
    by_cases hk : k < l.length
    · rw [decide_eq_true hk, cond_true]
      have ih' := ih (k + 1) (by omega)
      have next : ¬ (opA l k = 17 ∧ inD l k t = true ∧ inD l k i = false) → (jmpD l i t f (k + 1) = true ↔ ∃ q : Nat, k ≤ q ∧ q < l.length ∧ opA l q = 17 ∧ inD l q t = true ∧ inD l q i = false) := by
        intro hn
        rw [ih']
        constructor
        · rintro ⟨q, a, b⟩; exact ⟨q, by omega, b⟩
        · rintro ⟨q, a, b⟩
          refine ⟨q, ?_, b⟩
          rcases Nat.lt_or_eq_of_le a with a | a
          · exact a
          · subst a; exact absurd b.2 hn
      cases c1 : (l.getD k insD).op == 17 with
      | false =>
        rw [cond_false]
        exact next fun hc => by have := hc.1; rw [beq_eq_false_iff_ne] at c1; exact c1 this
      | true =>
        rw [cond_true]
        cases c2 : inD l k t with
        | false => rw [cond_false]; exact next fun hc => by rw [hc.2.1] at c2; cases c2
        | true =>
          rw [cond_true]
          cases c3 : inD l k i with
          | true => rw [cond_true]; exact next fun hc => by rw [hc.2.2] at c3; cases c3
          | false => exact ⟨fun _ => ⟨k, Nat.le_refl _, hk, beq_iff_eq.1 c1, c2, c3⟩, fun _ => rfl⟩
    · rw [decide_eq_false hk, cond_false]
      exact ⟨fun h => (by cases h), fun ⟨q, a, b, _⟩ => by omega⟩
/-- A jump's refusal, by the document. -/
def badD (l : List Ins) (i : Int) (op imm : Int) : Bool := bif r44 op then (bif decide (imm ≤ i) then true else bif decide (imm ≥ (l.length : Int)) then true else jmpD l i imm (l.length + 1) 0) else false
theorem bad_same {l : List Ins} {lp en : List Int} (h : LpR l lp en) {i : Nat} {op imm : Int} : bad25 l.length lp en i op imm = badD l i op imm := by
  unfold bad25 badD
  cases c0 : r44 op with
  | false => rfl
  | true =>
    rw [cond_true, cond_true]
    cases c1 : decide (imm ≤ (i : Int)) with
    | true => rfl
    | false =>
      rw [cond_false, cond_false]
      cases c2 : decide (imm ≥ (l.length : Int)) with
      | true => rfl
      | false =>
        rw [cond_false, cond_false]
        simp only [decide_eq_false_iff_not] at c1 c2
        obtain ⟨t, rfl⟩ := Int.eq_ofNat_of_zero_le (show 0 ≤ imm by omega)
        have ht : t < l.length := by omega
        rw [Int.toNat_natCast, h.lp t ht]
        have e1 := h.within (i := i) (l.length + 1) t (by omega)
        have e2 := h.within' (i := i) (l.length + 1) t (by omega) (by omega)
        have e3 := jmpD_iff (l := l) (i := i) (t := t) (l.length + 1) 0 (by omega)
        cases c : withinF lp en (i : Int) (l.length + 1) (topN (opn l t)) with
        | true =>
          have h1 := e1 c
          have : ¬ jmpD l i t (l.length + 1) 0 = true := by
            rw [e3]
            rintro ⟨q, _, a, b, d, g⟩
            rw [h.inD a b] at d
            have := (h.inD a b (t := i)).2 (h1 q d)
            rw [this] at g; cases g
          rw [Bool.not_eq_true] at this
          rw [this]; rfl
        | false =>
          have : jmpD l i t (l.length + 1) 0 = true := by
            rw [e3]
            refine Classical.byContradiction fun hn => ?_
            have : withinF lp en (i : Int) (l.length + 1) (topN (opn l t)) = true := e2 fun k hk => by
              obtain ⟨a, b⟩ := opn_lt hk
              refine Classical.byContradiction fun hc => hn ⟨k, by omega, by omega, b, (h.inD (by omega) b).2 hk, ?_⟩
              rw [← Bool.not_eq_true, h.inD (by omega) b]
              exact hc
            rw [this] at c; cases c
          rw [this]; rfl
/-! Loops. -/
def lopB (l : List Ins) : Nat → Nat → Int
  | 0, _ => -1
  | f + 1, i => bif decide (i < l.length) then (bif (l.getD i insD).op == 17 then bif decide (enD l i < 0) then (i : Int) else lopB l f (i + 1) else lopB l f (i + 1)) else -1
def lopA (l : List Ins) : Nat → Nat → Nat → Int
  | 0, _, _ => -1
  | f + 1, i, d => bif decide (i < l.length) then
      bif (l.getD i insD).op == 17 then (bif d == 3 then (i : Int) else lopA l f (i + 1) (d + 1))
      else bif (l.getD i insD).op == 18 then (bif d == 0 then (i : Int) else lopA l f (i + 1) (d - 1))
      else lopA l f (i + 1) d
    else lopB l (l.length + 1) 0
def hd (t : List Nat) : Int := match t with
  | [] => -1
  | q :: _ => (q : Int)
theorem lopB_hd {l : List Ins} : ∀ (f i : Nat) (a t : List Nat), l.length - i < f → opn l l.length = a ++ t → (∀ q ∈ a, q < i) → (∀ q ∈ t, i ≤ q) → lopB l f i = hd t := by
  intro f
  induction f with
  | zero => intro i a t h; omega
  | succ f ih =>
    intro i a t h h1 h2 h3
    rw [lopB]
    have hall : ∀ q ∈ t, q < l.length ∧ opA l q = 17 := fun q hq => opn_lt (by rw [h1]; exact List.mem_append_right _ hq)
    by_cases hi : i < l.length
    · rw [decide_eq_true hi, cond_true]
      have next : i ∉ t → lopB l f (i + 1) = hd t := fun hn => ih (i + 1) a t (by omega) h1 (fun q hq => by have := h2 q hq; omega) fun q hq => by
        have := h3 q hq
        rcases Nat.lt_or_eq_of_le this with h | h
        · exact h
        · subst h; exact absurd hq hn
      have inn : i ∈ opn l l.length → i ∈ t := fun hm => by
        rw [h1] at hm
        rcases List.mem_append.1 hm with hm | hm
        · have := h2 i hm; omega
        · exact hm
      cases c1 : (l.getD i insD).op == 17 with
      | false =>
        rw [cond_false]
        exact next fun hm => by have := (hall i hm).2; rw [beq_eq_false_iff_ne] at c1; exact c1 this
      | true =>
        rw [cond_true]
        have hn := enD_neg hi (beq_iff_eq.1 c1)
        cases c2 : decide (enD l i < 0) with
        | false =>
          rw [cond_false]
          simp only [decide_eq_false_iff_not] at c2
          exact next fun hm => c2 (hn.2 (by rw [h1]; exact List.mem_append_right _ hm))
        | true =>
          rw [cond_true]
          simp only [decide_eq_true_eq] at c2
          have hm := inn (hn.1 c2)
          cases t with
          | nil => simp at hm
          | cons q r =>
            have hs := opn_srt (l := l) l.length
            rw [h1, List.pairwise_append] at hs
            have hs2 := (List.pairwise_cons.1 hs.2.1).1
            have hq := h3 q (by simp)
            rcases List.mem_cons.1 hm with e | e
            · subst e; rfl
            · have := hs2 i e; omega
    · rw [decide_eq_false hi, cond_false]
      cases t with
      | nil => rfl
      | cons q r => have := (hall q (by simp)).1; have := h3 q (by simp); omega
theorem loopF_lop (l : List Ins) : ∀ (f i : Nat) (lp en : List Int), l.length - i < f → i ≤ l.length → (loopF l f i (cN (opn l i)) lp en).1 = lopA l f i (opn l i).length := by
  intro f
  induction f with
  | zero => intro i lp en h1; omega
  | succ f ih =>
    intro i lp en h1 h2
    rw [loopF, lopA]
    by_cases hi : i < l.length
    · rw [decide_eq_true hi, cond_true, cond_true]
      by_cases c1 : opA l i = 17
      · have e1 : ((l.getD i insD).op == 17) = true := by rw [beq_iff_eq]; exact c1
        rw [e1, cond_true, cond_true]
        have e3 : (((cN (opn l i)).length : Int) == 3) = ((opn l i).length == 3) := by
          rw [cN_len]
          cases c : (opn l i).length == 3 with
          | true => rw [beq_iff_eq] at c ⊢; omega
          | false => rw [beq_eq_false_iff_ne] at c ⊢; omega
        rw [e3]
        cases c : (opn l i).length == 3 with
        | true => rfl
        | false =>
          rw [cond_false, cond_false, ← cN_snoc, ← opn_loop c1, ih (i + 1) _ _ (by omega) (by omega), opn_loop c1]
          simp
      · have e1 : ((l.getD i insD).op == 17) = false := by rw [beq_eq_false_iff_ne]; exact c1
        rw [e1, cond_false, cond_false]
        by_cases c2 : opA l i = 18
        · have e2 : ((l.getD i insD).op == 18) = true := by rw [beq_iff_eq]; exact c2
          rw [e2, cond_true, cond_true]
          have e3 : (((cN (opn l i)).length : Int) == 0) = ((opn l i).length == 0) := by
            rw [cN_len]
            cases c : (opn l i).length == 0 with
            | true => rw [beq_iff_eq] at c ⊢; omega
            | false => rw [beq_eq_false_iff_ne] at c ⊢; omega
          rw [e3]
          cases c : (opn l i).length == 0 with
          | true => rfl
          | false =>
            have ht : (cN (opn l i)).take ((cN (opn l i)).length - 1) = cN (opn l (i + 1)) := by
              rw [opn_end c2, List.dropLast_eq_take, cN_len]
              unfold cN
              rw [List.map_take]
            rw [cond_false, cond_false, ht, ih (i + 1) _ _ (by omega) (by omega), opn_end c2, List.length_dropLast]
        · have e2 : ((l.getD i insD).op == 18) = false := by rw [beq_eq_false_iff_ne]; exact c2
          rw [e2, cond_false, cond_false]
          have := ih (i + 1) (lp.set i (topF (cN (opn l i)))) en (by omega) (by omega)
          rw [opn_other c1 c2] at this
          exact this
    · rw [decide_eq_false hi, cond_false, cond_false]
      have e : i = l.length := by omega
      subst e
      rw [lopB_hd (l.length + 1) 0 [] (opn l l.length) (by omega) rfl (by simp) (by simp)]
      cases opn l l.length with
      | nil => rfl
      | cons q r => simp [cN, hd]
theorem lo0_lop (l : List Ins) : (lo0 l).1 = lopA l (l.length + 1) 0 0 := loopF_lop l (l.length + 1) 0 (nul l.length) (nul l.length) (by omega) (by omega)
/-! The fuel. -/
abbrev imA (l : List Ins) (k : Nat) : Int := (l.getD k insD).imm
def timD (l : List Ins) (i : Nat) : Nat → Nat → Int → Int
  | 0, _, q => q
  | f + 1, k, q => bif decide (k < i) then (bif (l.getD k insD).op == 17 then bif inD l k i then timD l i f (k + 1) (w (q * imA l k)) else timD l i f (k + 1) q else timD l i f (k + 1) q) else q
def fuD (l : List Ins) : Nat → Nat → Int → Int
  | 0, _, t => t
  | f + 1, i, t => bif decide (i < l.length) then fuD l f (i + 1) (w (t + timD l i (i + 1) 0 1)) else t
theorem w_mod (n : Int) : w n % 18446744073709551616 = n % 18446744073709551616 := by
  have e : IntKind.i64.wrap n = if n % 18446744073709551616 ≥ 9223372036854775808 then n % 18446744073709551616 - 18446744073709551616 else n % 18446744073709551616 := by
    simp [IntKind.wrap, IntKind.bits, IntKind.signed]
  show IntKind.i64.wrap n % 18446744073709551616 = _
  rw [e]
  split <;> omega
theorem w_cong {a b : Int} (h : a % 18446744073709551616 = b % 18446744073709551616) : w a = w b := by
  have e : ∀ n, IntKind.i64.wrap n = if n % 18446744073709551616 ≥ 9223372036854775808 then n % 18446744073709551616 - 18446744073709551616 else n % 18446744073709551616 := fun n => by
    simp [IntKind.wrap, IntKind.bits, IntKind.signed]
  show IntKind.i64.wrap a = IntKind.i64.wrap b
  rw [e, e, h]
theorem w_mul (a b : Int) : w (w a * b) = w (a * b) := w_cong (by rw [Int.mul_emod, w_mod, ← Int.mul_emod])
abbrev gM (l : List Ins) (q : Int) (k : Nat) : Int := w (q * imA l k)
theorem gM_comm (l : List Ins) (q : Int) (a b : Nat) : gM l (gM l q a) b = gM l (gM l q b) a := by
  unfold gM
  rw [w_mul, w_mul, Int.mul_assoc, Int.mul_comm (imA l a), ← Int.mul_assoc]
theorem gM_out (l : List Ins) : ∀ (s : List Nat) (q : Int) (a : Nat), s.foldl (gM l) (gM l q a) = gM l (s.foldl (gM l) q) a
  | [], _, _ => rfl
  | b :: s, q, a => by
    rw [List.foldl_cons, List.foldl_cons, gM_comm, gM_out l s]
theorem gM_lr (l : List Ins) : ∀ (s : List Nat) (q : Int), s.foldl (gM l) q = s.foldr (fun k q => gM l q k) q
  | [], _ => rfl
  | a :: s, q => by rw [List.foldl_cons, List.foldr_cons, gM_out, gM_lr l s]
theorem timD_opn {l : List Ins} {lp en : List Int} (h : LpR l lp en) {i : Nat} (hi : i ≤ l.length) : ∀ (f k : Nat) (q : Int) (a t : List Nat), i - k < f → opn l i = a ++ t → (∀ x ∈ a, x < k) → (∀ x ∈ t, k ≤ x) → timD l i f k q = t.foldl (gM l) q := by
  intro f
  induction f with
  | zero => intro k q a t h; omega
  | succ f ih =>
    intro k q a t h0 h1 h2 h3
    rw [timD]
    have hall : ∀ q ∈ t, q < i ∧ opA l q = 17 := fun q hq => opn_lt (by rw [h1]; exact List.mem_append_right _ hq)
    by_cases hk : k < i
    · rw [decide_eq_true hk, cond_true]
      have next : k ∉ t → timD l i f (k + 1) q = t.foldl (gM l) q := fun hn => ih (k + 1) q a t (by omega) h1 (fun q hq => by have := h2 q hq; omega) fun q hq => by
        have := h3 q hq
        rcases Nat.lt_or_eq_of_le this with h | h
        · exact h
        · subst h; exact absurd hq hn
      cases c1 : (l.getD k insD).op == 17 with
      | false =>
        rw [cond_false]
        exact next fun hm => by have := (hall k hm).2; rw [beq_eq_false_iff_ne] at c1; exact c1 this
      | true =>
        rw [cond_true]
        have hd := h.inD (k := k) (by omega) (beq_iff_eq.1 c1) (t := i)
        cases c2 : inD l k i with
        | false =>
          rw [cond_false]
          exact next fun hm => by
            have := hd.2 (by rw [h1]; exact List.mem_append_right _ hm)
            rw [this] at c2; cases c2
        | true =>
          rw [cond_true]
          have hm : k ∈ t := by
            have := hd.1 c2
            rw [h1] at this
            rcases List.mem_append.1 this with hm | hm
            · have := h2 k hm; omega
            · exact hm
          cases t with
          | nil => simp at hm
          | cons x r =>
            have hs := opn_srt (l := l) i
            rw [h1, List.pairwise_append] at hs
            have hs2 := (List.pairwise_cons.1 hs.2.1).1
            have hx : x = k := by
              have := h3 x (by simp)
              rcases List.mem_cons.1 hm with e | e
              · exact e.symm
              · have := hs2 k e; omega
            subst hx
            rw [List.foldl_cons]
            exact ih (x + 1) _ (a ++ [x]) r (by omega) (by rw [h1]; simp) (fun q hq => by
              rcases List.mem_append.1 hq with hq | hq
              · have := h2 q hq; omega
              · simp only [List.mem_singleton] at hq; omega) fun q hq => hs2 q hq
    · rw [decide_eq_false hk, cond_false]
      cases t with
      | nil => rfl
      | cons q r => have := (hall q (by simp)).1; have := h3 q (by simp); omega
theorem prodF_opn {l : List Ins} {lp en : List Int} (h : LpR l lp en) : ∀ (f j : Nat) (q : Int), j < f → j ≤ l.length → prodF l lp f (topN (opn l j)) q = (opn l j).foldr (fun k q => gM l q k) q := by
  intro f
  induction f with
  | zero => intro j q h; omega
  | succ f ih =>
    intro j q hf hj
    rw [prodF]
    by_cases hne : opn l j = []
    · rw [hne, topN_nil]; rfl
    · obtain ⟨k, q1, q2, q3, q4⟩ := opn_top hne
      rw [q4, decide_eq_true (show (k : Int) ≥ 0 by omega), cond_true, Int.toNat_natCast, h.lp k (by omega), ih k _ (by omega) (by omega), q1, List.foldr_append]
      rfl
theorem fuel_same {l : List Ins} {lp en : List Int} (h : LpR l lp en) : ∀ (f i : Nat) (t : Int), fuelF l lp f i t = fuD l f i t := by
  intro f
  induction f with
  | zero => intro i t; rfl
  | succ f ih =>
    intro i t
    rw [fuelF, fuD]
    by_cases hi : i < l.length
    · rw [decide_eq_true hi, cond_true, cond_true, h.lp i hi, prodF_opn h _ _ _ (by omega) (by omega), timD_opn h (by omega) (i + 1) 0 1 [] (opn l i) (by omega) rfl (by simp) (by simp), ← gM_lr]
      exact ih _ _
    · rw [decide_eq_false hi, cond_false, cond_false]

def knA (cs : List Value) (off r : Nat) : Bool := boolO (nth cs (off + 1 + r))
def loA (cs : List Value) (off r : Nat) : Int := intO (nth cs (off + 9 + r * 2 + 0))
def hiA (cs : List Value) (off r : Nat) : Int := intO (nth cs (off + 9 + r * 2 + 1))
def coA (cs : List Value) (off : Nat) : Bool := boolO (nth cs off)
/-- A state that tells less than another one. -/
def Cov (a : List Value) (oa : Nat) (b : List Value) (ob : Nat) : Prop := ∀ r, r < 8 → knA a oa r = true → knA b ob r = true ∧ loA a oa r ≤ loA b ob r ∧ hiA b ob r ≤ hiA a oa r
theorem Cov.refl (a : List Value) (oa : Nat) : Cov a oa a oa := fun _ _ h => ⟨h, Int.le_refl _, Int.le_refl _⟩
theorem Cov.trans {a b c : List Value} {oa ob oc : Nat} (h1 : Cov a oa b ob) (h2 : Cov b ob c oc) : Cov a oa c oc := by
  intro r hr hk
  obtain ⟨a1, a2, a3⟩ := h1 r hr hk
  obtain ⟨b1, b2, b3⟩ := h2 r hr a1
  exact ⟨b1, by omega, by omega⟩
theorem Cov.same {a b : List Value} {oa ob : Nat} (h : ∀ j, j < 25 → nth a (oa + j) = nth b (ob + j)) : Cov a oa b ob := by
  intro r hr hk
  have e1 : nth a (oa + 1 + r) = nth b (ob + 1 + r) := by rw [Nat.add_assoc, Nat.add_assoc]; exact h _ (by omega)
  have e2 : nth a (oa + 9 + r * 2 + 0) = nth b (ob + 9 + r * 2 + 0) := by rw [show oa + 9 + r * 2 + 0 = oa + (9 + r * 2) by omega, show ob + 9 + r * 2 + 0 = ob + (9 + r * 2) by omega]; exact h _ (by omega)
  have e3 : nth a (oa + 9 + r * 2 + 1) = nth b (ob + 9 + r * 2 + 1) := by rw [show oa + 9 + r * 2 + 1 = oa + (9 + r * 2 + 1) by omega, show ob + 9 + r * 2 + 1 = ob + (9 + r * 2 + 1) by omega]; exact h _ (by omega)
  unfold knA loA hiA at *
  rw [e1] at hk
  exact ⟨hk, by rw [e2]; exact Int.le_refl _, by rw [e3]; exact Int.le_refl _⟩
section
variable {os cs : List Value} {off i : Nat}
theorem jn_else (h : off + 25 ≤ cs.length) (hi : i < 8) {j : Nat} (h1 : j ≠ off + 1 + i) (h2 : j < off + 9 + i * 2 ∨ off + 9 + i * 2 + 2 ≤ j) : nth (jn os off i cs) j = nth cs j := by
  unfold jn
  generalize (boolO (nth cs (off + 1 + i)) && boolO (nth os (1 + i))) = b
  have l1 : off + 1 + i + [B b].length ≤ cs.length := by simp; omega
  have key : ∀ u v : Int, nth (splice (splice cs (off + 1 + i) [B b]) (off + 9 + i * 2) [I u, I v]) j = nth cs j := by
    intro u v
    rw [nth_splice_out (by rw [splice_len l1]; simp; omega) (by simp; omega), nth_splice_out l1 (by simp; omega)]
  cases b with
  | true => exact key _ _
  | false => exact key _ _
theorem jn_here (h : off + 25 ≤ cs.length) (hi : i < 8) (hk : knA (jn os off i cs) off i = true) :
    knA cs off i = true ∧ knA os 0 i = true ∧ loA (jn os off i cs) off i ≤ loA cs off i ∧ loA (jn os off i cs) off i ≤ loA os 0 i ∧ hiA cs off i ≤ hiA (jn os off i cs) off i ∧ hiA os 0 i ≤ hiA (jn os off i cs) off i := by
  have e1 : nth os (0 + 1 + i) = nth os (1 + i) := by rw [Nat.zero_add]
  have e2 : nth os (0 + 9 + i * 2 + 0) = nth os (9 + i * 2 + 0) := by rw [Nat.zero_add]
  have e3 : nth os (0 + 9 + i * 2 + 1) = nth os (9 + i * 2 + 1) := by rw [Nat.zero_add]
  unfold knA loA hiA at *
  rw [e1, e2, e3]
  unfold jn at hk ⊢
  cases hb : (boolO (nth cs (off + 1 + i)) && boolO (nth os (1 + i))) with
  | false =>
    exfalso
    rw [hb] at hk
    have l1 : off + 1 + i + [B false].length ≤ cs.length := by simp; omega
    rw [nth_splice_out (by rw [splice_len l1]; simp; omega) (by simp; omega), nth_splice_at _ (by omega)] at hk
    exact absurd hk (by decide)
  | true =>
    have l1 : off + 1 + i + [B true].length ≤ cs.length := by simp; omega
    simp only [cond_true]
    generalize hu : r72b (intO (nth cs (off + 9 + i * 2 + 0))) (intO (nth cs (off + 9 + i * 2 + 1))) (intO (nth os (9 + i * 2 + 0))) (intO (nth os (9 + i * 2 + 1))) = u
    generalize hv : r72c (intO (nth cs (off + 9 + i * 2 + 0))) (intO (nth cs (off + 9 + i * 2 + 1))) (intO (nth os (9 + i * 2 + 0))) (intO (nth os (9 + i * 2 + 1))) = v
    have l2 : off + 9 + i * 2 + [I u, I v].length ≤ (splice cs (off + 1 + i) [B true]).length := by rw [splice_len l1]; simp; omega
    rw [nth_splice_in (k := 0) l2 (by simp), nth_splice_in (k := 1) l2 (by simp)]
    simp only [Bool.and_eq_true] at hb
    refine ⟨hb.1, hb.2, ?_, ?_, ?_, ?_⟩
    · show u ≤ _
      rw [← hu]; unfold r72b; split <;> omega
    · show u ≤ _
      rw [← hu]; unfold r72b; split <;> omega
    · show _ ≤ v
      rw [← hv]; unfold r72c; split <;> omega
    · show _ ≤ v
      rw [← hv]; unfold r72c; split <;> omega
end
theorem three_same {a b : List Value} {off r : Nat} (h : ∀ j, j = off + 1 + r ∨ j = off + 9 + r * 2 + 0 ∨ j = off + 9 + r * 2 + 1 → nth a j = nth b j) : knA a off r = knA b off r ∧ loA a off r = loA b off r ∧ hiA a off r = hiA b off r := by
  unfold knA loA hiA
  rw [h _ (.inl rfl), h _ (.inr (.inl rfl)), h _ (.inr (.inr rfl))]
  exact ⟨rfl, rfl, rfl⟩
theorem jn_other {os cs : List Value} {off i r : Nat} (h : off + 25 ≤ cs.length) (hi : i < 8) (hr : r < 8) (hne : r ≠ i) : knA (jn os off i cs) off r = knA cs off r ∧ loA (jn os off i cs) off r = loA cs off r ∧ hiA (jn os off i cs) off r = hiA cs off r :=
  three_same fun j hj => jn_else h hi (by omega) (by omega)
theorem joinFrom_at {os : List Value} {off : Nat} : ∀ (m i : Nat) (cs : List Value), i + m ≤ 8 → off + 25 ≤ cs.length → ∀ r, r < 8 →
    ((r < i ∨ i + m ≤ r) → knA (joinFrom os off m i cs) off r = knA cs off r ∧ loA (joinFrom os off m i cs) off r = loA cs off r ∧ hiA (joinFrom os off m i cs) off r = hiA cs off r) ∧
    (i ≤ r → r < i + m → knA (joinFrom os off m i cs) off r = true → knA cs off r = true ∧ knA os 0 r = true ∧ loA (joinFrom os off m i cs) off r ≤ loA cs off r ∧ loA (joinFrom os off m i cs) off r ≤ loA os 0 r ∧ hiA cs off r ≤ hiA (joinFrom os off m i cs) off r ∧ hiA os 0 r ≤ hiA (joinFrom os off m i cs) off r) := by
  intro m
  induction m with
  | zero => intro i cs h1 h2 r hr; exact ⟨fun _ => ⟨rfl, rfl, rfl⟩, fun a b => by omega⟩
  | succ m ih =>
    intro i cs h1 h2 r hr
    have hl := jn_len (os := os) h2 (i := i) (by omega)
    obtain ⟨a1, a2⟩ := ih (i + 1) (jn os off i cs) (by omega) (by rw [hl]; exact h2) r hr
    rw [joinFrom]
    refine ⟨fun h => ?_, fun h h' hk => ?_⟩
    · obtain ⟨b1, b2, b3⟩ := a1 (by omega)
      obtain ⟨c1, c2, c3⟩ := jn_other (os := os) h2 (i := i) (by omega) hr (by omega)
      exact ⟨b1.trans c1, b2.trans c2, b3.trans c3⟩
    · by_cases e : r = i
      · subst e
        obtain ⟨b1, b2, b3⟩ := a1 (by omega)
        rw [b1] at hk
        rw [b2, b3]
        exact jn_here h2 hr hk
      · obtain ⟨c1, c2, c3⟩ := jn_other (os := os) h2 (i := i) (by omega) hr e
        have := a2 (by omega) (by omega) hk
        rw [c1, c2, c3] at this
        exact this
section
variable {cs os : List Value} {n k : Nat}
/-- A state that is joined with another covers it. -/
theorem join_new (h : StsOk cs n) (hk : k < n) (ho : IsSt os) : Cov (join48 cs (k * 25) os) (k * 25) os 0 := by
  have hl := (h.st k hk).len
  unfold join48
  cases hc : boolO (nth cs (k * 25)) with
  | true =>
    intro r hr hkn
    obtain ⟨_, h2, h3, h4, h5, h6⟩ := (joinFrom_at 8 0 cs (by omega) hl r hr).2 (by omega) (by omega) hkn
    exact ⟨h2, h4, h6⟩
  | false =>
    have h25 := isSt_len ho
    refine Cov.same fun j hj => ?_
    rw [cond_false, nth_splice_in (by omega) (by omega), Nat.zero_add]
theorem join_old (h : StsOk cs n) (hk : k < n) (hc : coA cs (k * 25) = true) : Cov (join48 cs (k * 25) os) (k * 25) cs (k * 25) := by
  have hl := (h.st k hk).len
  unfold coA at hc
  unfold join48
  rw [hc]
  intro r hr hkn
  obtain ⟨h1, h2, h3, h4, h5, h6⟩ := (joinFrom_at 8 0 cs (by omega) hl r hr).2 (by omega) (by omega) hkn
  exact ⟨h1, h3, h5⟩
theorem join_come (h : StsOk cs n) (hk : k < n) (ho : IsSt os) (h0 : coA os 0 = true) : coA (join48 cs (k * 25) os) (k * 25) = true := by
  have hl := (h.st k hk).len
  unfold coA at *
  unfold join48
  cases hc : boolO (nth cs (k * 25)) with
  | true =>
    rw [cond_true, (joinFrom_out (j := k * 25) (.inl (Nat.le_refl _)) 8 0 cs (by omega) hl).2]; exact hc
  | false =>
    have h25 := isSt_len ho
    have := nth_splice_in (cs := cs) (xs := os) (n := k * 25) (k := 0) (by omega) (by omega)
    rw [Nat.add_zero] at this
    rw [cond_false, this]; exact h0
theorem join_else (h : StsOk cs n) (hk : k < n) (ho : IsSt os) {q j : Nat} (hq : q ≠ k) (hj : j < 25) : nth (join48 cs (k * 25) os) (q * 25 + j) = nth cs (q * 25 + j) := by
  have hl := (h.st k hk).len
  have hh : q * 25 + j < k * 25 ∨ k * 25 + 25 ≤ q * 25 + j := by rcases Nat.lt_or_gt_of_ne hq with h | h <;> omega
  unfold join48
  cases hc : boolO (nth cs (k * 25)) with
  | true => rw [cond_true, (joinFrom_out (j := q * 25 + j) (by omega) 8 0 cs (by omega) hl).2]
  | false =>
    have h25 := isSt_len ho
    rw [cond_false, nth_splice_out (by omega) (by omega)]
end


theorem setA_zero {cs : List Value} (h : cs.length = 25) {r : Int} (h0 : 0 ≤ r) (h8 : r < 8) (a b : Int) : nth (setA cs 0 r a b) 0 = nth cs 0 := by
  unfold setA
  have l1 : 0 + 1 + r.toNat * 1 + [B true].length ≤ cs.length := by simp; omega
  rw [nth_splice_out (by rw [splice_len l1]; simp; omega) (.inl (by omega)), nth_splice_out l1 (.inl (by omega))]
theorem bif_zero {c : Bool} {x y : List Value} {o : Option Value} (hx : nth x 0 = o) (hy : nth y 0 = o) : nth (bif c then x else y) 0 = o := by
  cases c
  · exact hy
  · exact hx
theorem c46_zero {cs : List Value} (h : IsSt cs) {op d s imm : Int} (hr : RegP d s) : nth (c46 cs op d s imm) 0 = nth cs 0 := by
  obtain ⟨⟨d0, d1⟩, _, _⟩ := hr
  have hl := isSt_len h
  unfold c46 c70 c85
  repeat' (first | exact rfl | exact setA_zero hl d0 d1 _ _ | exact setA_zero hl (by omega) (by omega) _ _ | refine bif_zero ?_ ?_)
theorem bifP2 {c : Bool} {x y : List Value} {o : Option Value} (hx : c = true → nth x 0 = o) (hy : c = false → nth y 0 = o) : nth (bif c then x else y) 0 = o := by
  cases c
  · exact hy rfl
  · exact hx rfl
theorem widenL_zero : ∀ {l : List Ins} {ss : List Value}, (∀ x ∈ l, right x = true) → IsSt ss → nth (widenL l ss) 0 = nth ss 0
  | [], _, _, _ => rfl
  | x :: r, ss, hl, h => by
    have hx := hl x (List.mem_cons_self ..)
    rw [widenL, widenL_zero (fun y hy => hl y (List.mem_cons_of_mem _ hy)) (wide1_st hx h)]
    unfold wide1
    have h25 := isSt_len h
    refine bifP2 (fun hd => ?_) (fun _ => rfl)
    have := (wrI_le hx).2
    refine bif_zero ?_ rfl
    rw [nth_splice_out (by simp; omega) (.inl (by omega))]
/-- What an instruction makes of a state. -/
def postS (l : List Ins) (en : List Int) (C : List Value) (i : Nat) : List Value :=
  wid25 l en i (l.getD i insD).op (c46 (stAt C i) (l.getD i insD).op (l.getD i insD).d (l.getD i insD).s (l.getD i insD).imm)
theorem getD_mem {l : List Ins} {i : Nat} (h : i < l.length) : l.getD i insD ∈ l := by
  rw [List.getD_eq_getElem?_getD, List.getElem?_eq_getElem h]
  exact List.getElem_mem _
theorem stAt_zero {C : List Value} {i : Nat} : nth (stAt C i) 0 = nth C (i * 25) := by
  rw [stAt, nth_eq, nth_eq, List.getElem?_take_of_lt (by omega), List.getElem?_drop, Nat.add_zero]
theorem postS_st {l : List Ins} {en : List Int} {C : List Value} {i : Nat} (hl : ∀ x ∈ l, right x = true) (h : StsOk C l.length) (hi : i < l.length) : IsSt (postS l en C i) ∧ coA (postS l en C i) 0 = coA C (i * 25) := by
  obtain ⟨_, _, s3⟩ := sta_eq h hi
  have hr := right_regs (hl _ (getD_mem hi))
  have s4 := c46_st (op := (l.getD i insD).op) (imm := (l.getD i insD).imm) s3 hr
  refine ⟨wid25_st hl s4, ?_⟩
  unfold coA
  rw [← stAt_zero, ← c46_zero (op := (l.getD i insD).op) (imm := (l.getD i insD).imm) s3 hr]
  unfold postS wid25
  cases (l.getD i insD).op == 17 with
  | false => rfl
  | true => rw [cond_true, widenL_zero (fun x hx => hl x (List.mem_of_mem_drop (List.mem_of_mem_take hx))) s4]
/-- A place that is right, behind the walk. -/
structure Good (l : List Ins) (lp en : List Int) (C : List Value) (i : Nat) : Prop where
  bad : bad25 l.length lp en (i : Int) (l.getD i insD).op (l.getD i insD).imm = false
  ok : coA C (i * 25) = true → r46 (stAt C i) (l.getD i insD).op (l.getD i insD).d (l.getD i insD).s (l.getD i insD).imm = true
  jmp : coA C (i * 25) = true → r44 (l.getD i insD).op = true → coA C ((l.getD i insD).imm.toNat * 25) = true ∧ Cov C ((l.getD i insD).imm.toNat * 25) (postS l en C i) 0
  nxt : coA C (i * 25) = true → (l.getD i insD).op ≠ 12 → (l.getD i insD).op ≠ 20 → i + 1 < l.length ∧ coA C ((i + 1) * 25) = true ∧ Cov C ((i + 1) * 25) (postS l en C i) 0
theorem join_mono {cs os : List Value} {n k q : Nat} (h : StsOk cs n) (hk : k < n) (ho : IsSt os) (h0 : coA os 0 = true) (hq : coA cs (q * 25) = true) : coA (join48 cs (k * 25) os) (q * 25) = true ∧ Cov (join48 cs (k * 25) os) (q * 25) cs (q * 25) := by
  by_cases e : q = k
  · subst e; exact ⟨join_come h hk ho h0, join_old h hk hq⟩
  · refine ⟨?_, Cov.same fun j hj => join_else h hk ho e hj⟩
    have := join_else h hk ho (os := os) e (j := 0) (by omega)
    unfold coA at *
    rw [Nat.add_zero] at this
    rw [this]; exact hq
theorem stAt_ext {a b : List Value} {i : Nat} (h : ∀ j, j < 25 → nth a (i * 25 + j) = nth b (i * 25 + j)) : stAt a i = stAt b i := by
  apply List.ext_getElem?
  intro j
  by_cases hj : j < 25
  · have := h j hj
    rw [nth_eq, nth_eq] at this
    rw [stAt, stAt, List.getElem?_take_of_lt hj, List.getElem?_take_of_lt hj, List.getElem?_drop, List.getElem?_drop, this]
  · rw [stAt, stAt, List.getElem?_eq_none (by simp; omega), List.getElem?_eq_none (by simp; omega)]
set_option maxHeartbeats 1000000 in
theorem walk_good {l : List Ins} {lp en : List Int} (hl : ∀ x ∈ l, right x = true) : ∀ (f i : Nat) (cst : List Value), l.length - i < f → i ≤ l.length → StsOk cst l.length → PlainL cst → (walkF l lp en f i cst).1 = -1 →
    StsOk (walkF l lp en f i cst).2 l.length ∧ (∀ k, k < i → ∀ j, j < 25 → nth (walkF l lp en f i cst).2 (k * 25 + j) = nth cst (k * 25 + j)) ∧
    (∀ k, k < l.length → coA cst (k * 25) = true → coA (walkF l lp en f i cst).2 (k * 25) = true ∧ Cov (walkF l lp en f i cst).2 (k * 25) cst (k * 25)) ∧
    (∀ k, i ≤ k → k < l.length → Good l lp en (walkF l lp en f i cst).2 k) := by
  intro f
  induction f with
  | zero => intro i cst h1; omega
  | succ f ih =>
    intro i cst h1 h2 h3 h4 hr
    rw [walkF] at hr ⊢
    by_cases hi : i < l.length
    · rw [decide_eq_true hi, cond_true] at hr ⊢
      cases hb : (stepF l lp en i cst).1 with
      | false => rw [hb] at hr; simp only [Bool.not_false, cond_true] at hr; omega
      | true =>
        rw [hb, Bool.not_true, cond_false] at hr
        rw [Bool.not_true, cond_false]
        obtain ⟨s1, s2⟩ := stepF_sts (lp := lp) (en := en) hl hi h3 h4
        obtain ⟨i1, i2, i3, i4⟩ := ih (i + 1) (stepF l lp en i cst).2 (by omega) (by omega) s1 s2 hr
        generalize hC : (walkF l lp en f (i + 1) (stepF l lp en i cst).2).2 = C at i1 i2 i3 i4
        -- the step
        have key : (∀ q, q ≤ i → ∀ j, j < 25 → nth (stepF l lp en i cst).2 (q * 25 + j) = nth cst (q * 25 + j)) ∧
            (∀ q, coA cst (q * 25) = true → coA (stepF l lp en i cst).2 (q * 25) = true ∧ Cov (stepF l lp en i cst).2 (q * 25) cst (q * 25)) ∧
            bad25 l.length lp en (i : Int) (l.getD i insD).op (l.getD i insD).imm = false ∧
            (coA cst (i * 25) = true → r46 (stAt cst i) (l.getD i insD).op (l.getD i insD).d (l.getD i insD).s (l.getD i insD).imm = true ∧
              (r44 (l.getD i insD).op = true → (l.getD i insD).imm.toNat < l.length ∧ coA (stepF l lp en i cst).2 ((l.getD i insD).imm.toNat * 25) = true ∧ Cov (stepF l lp en i cst).2 ((l.getD i insD).imm.toNat * 25) (postS l en cst i) 0) ∧
              ((l.getD i insD).op ≠ 12 → (l.getD i insD).op ≠ 20 → i + 1 < l.length ∧ coA (stepF l lp en i cst).2 ((i + 1) * 25) = true ∧ Cov (stepF l lp en i cst).2 ((i + 1) * 25) (postS l en cst i) 0)) := by
          obtain ⟨p1, p2⟩ := postS_st (en := en) hl h3 hi
          have hs : (stepF l lp en i cst) = bif bad25 l.length lp en i (l.getD i insD).op (l.getD i insD).imm then (false, cst) else
              bif !boolO (nth cst (i * 25)) then (true, cst) else
              bif !r46 (stAt cst i) (l.getD i insD).op (l.getD i insD).d (l.getD i insD).s (l.getD i insD).imm then (false, cst) else
              fin25 (l.getD i insD).op l.length i (jmp25 (l.getD i insD).op (l.getD i insD).imm cst (postS l en cst i)) (postS l en cst i) := rfl
          rw [hs] at hb ⊢
          clear hs
          generalize postS l en cst i = S at *
          cases c1 : bad25 l.length lp en i (l.getD i insD).op (l.getD i insD).imm with
          | true => rw [c1] at hb; cases hb
          | false =>
            rw [c1, cond_false] at hb
            rw [cond_false]
            cases c2 : boolO (nth cst (i * 25)) with
            | false =>
              refine ⟨fun q _ j _ => rfl, fun q hq => ⟨hq, Cov.refl _ _⟩, rfl, fun hc => ?_⟩
              unfold coA at hc
              rw [c2] at hc; cases hc
            | true =>
              have hS : coA S 0 = true := by rw [p2]; exact c2
              rw [c2, Bool.not_true, cond_false] at hb
              rw [Bool.not_true, cond_false]
              cases c3 : r46 (stAt cst i) (l.getD i insD).op (l.getD i insD).d (l.getD i insD).s (l.getD i insD).imm with
              | false => rw [c3] at hb; cases hb
              | true =>
                rw [c3, Bool.not_true, cond_false] at hb
                rw [Bool.not_true, cond_false]
                -- the jump
                have hJ : StsOk (jmp25 (l.getD i insD).op (l.getD i insD).imm cst S) l.length ∧ (∀ q, q ≤ i → ∀ j, j < 25 → nth (jmp25 (l.getD i insD).op (l.getD i insD).imm cst S) (q * 25 + j) = nth cst (q * 25 + j)) ∧
                    (∀ q, coA cst (q * 25) = true → coA (jmp25 (l.getD i insD).op (l.getD i insD).imm cst S) (q * 25) = true ∧ Cov (jmp25 (l.getD i insD).op (l.getD i insD).imm cst S) (q * 25) cst (q * 25)) ∧
                    (r44 (l.getD i insD).op = true → (l.getD i insD).imm.toNat < l.length ∧ coA (jmp25 (l.getD i insD).op (l.getD i insD).imm cst S) ((l.getD i insD).imm.toNat * 25) = true ∧ Cov (jmp25 (l.getD i insD).op (l.getD i insD).imm cst S) ((l.getD i insD).imm.toNat * 25) S 0) := by
                  unfold jmp25
                  cases c4 : r44 (l.getD i insD).op with
                  | false => exact ⟨h3, fun q _ j _ => rfl, fun q hq => ⟨hq, Cov.refl _ _⟩, fun h => by cases h⟩
                  | true =>
                    obtain ⟨q1, q2, q3⟩ := jump_imm c1 c4 (by omega)
                    have hgt : i < (l.getD i insD).imm.toNat := by
                      unfold bad25 at c1
                      rw [c4, cond_true] at c1
                      cases c5 : decide ((l.getD i insD).imm ≤ (i : Int)) with
                      | true => rw [c5] at c1; cases c1
                      | false => simp only [decide_eq_false_iff_not] at c5; omega
                    rw [cond_true]
                    exact ⟨join48_sts h3 q3 p1, fun q hq j hj => join_else h3 q3 p1 (by omega) hj, fun q hq => join_mono h3 q3 p1 hS hq, fun _ => ⟨q3, join_come h3 q3 p1 hS, join_new h3 q3 p1⟩⟩
                generalize jmp25 (l.getD i insD).op (l.getD i insD).imm cst S = J at hJ hb ⊢
                obtain ⟨j1, j2, j3, j4⟩ := hJ
                unfold fin25 at hb ⊢
                cases c5 : (l.getD i insD).op == 12 with
                | true =>
                  have e := beq_iff_eq.1 c5
                  exact ⟨j2, j3, rfl, fun _ => ⟨rfl, j4, fun h => absurd e h⟩⟩
                | false =>
                  rw [c5, cond_false] at hb
                  rw [cond_false]
                  cases c6 : (l.getD i insD).op == 20 with
                  | true =>
                    have e := beq_iff_eq.1 c6
                    exact ⟨j2, j3, rfl, fun _ => ⟨rfl, j4, fun _ h => absurd e h⟩⟩
                  | false =>
                    rw [c6, cond_false] at hb
                    rw [cond_false]
                    cases c7 : ((i + 1 : Nat) : Int) == (l.length : Int) with
                    | true => rw [c7] at hb; cases hb
                    | false =>
                      have hlt : i + 1 < l.length := by
                        have := beq_eq_false_iff_ne.mp c7
                        omega
                      rw [cond_false]
                      refine ⟨fun q hq j hj => (join_else j1 hlt p1 (by omega) hj).trans (j2 q hq j hj), fun q hq => ?_, rfl, fun _ => ⟨rfl, fun h => ?_, fun _ _ => ⟨hlt, join_come j1 hlt p1 hS, join_new j1 hlt p1⟩⟩⟩
                      · obtain ⟨a1, a2⟩ := j3 q hq
                        obtain ⟨b1, b2⟩ := join_mono j1 hlt p1 hS a1
                        exact ⟨b1, b2.trans a2⟩
                      · obtain ⟨a1, a2, a3⟩ := j4 h
                        obtain ⟨b1, b2⟩ := join_mono j1 hlt p1 hS a2
                        exact ⟨a1, b1, b2.trans a3⟩
        obtain ⟨k1, k2, k3, k4⟩ := key
        have hst : stAt C i = stAt cst i := stAt_ext fun j hj => (i2 i (by omega) j hj).trans (k1 i (Nat.le_refl _) j hj)
        have hco : coA C (i * 25) = coA cst (i * 25) := by
          have := (i2 i (by omega) 0 (by omega)).trans (k1 i (Nat.le_refl _) 0 (by omega))
          rw [Nat.add_zero] at this
          unfold coA; rw [this]
        have hpo : postS l en C i = postS l en cst i := by unfold postS; rw [hst]
        refine ⟨i1, fun k hk j hj => (i2 k (by omega) j hj).trans (k1 k (by omega) j hj), fun k hk hc => ?_, fun k hk hkn => ?_⟩
        · obtain ⟨a1, a2⟩ := k2 k hc
          obtain ⟨b1, b2⟩ := i3 k hk a1
          exact ⟨b1, b2.trans a2⟩
        · by_cases e : k = i
          · subst e
            refine ⟨k3, fun hc => ?_, fun hc hj => ?_, fun hc h12 h20 => ?_⟩
            · rw [hst]; exact (k4 (hco ▸ hc)).1
            · obtain ⟨a0, a1, a2⟩ := (k4 (hco ▸ hc)).2.1 hj
              obtain ⟨b1, b2⟩ := i3 _ a0 a1
              rw [hpo]
              exact ⟨b1, b2.trans a2⟩
            · obtain ⟨a0, a1, a2⟩ := (k4 (hco ▸ hc)).2.2 h12 h20
              obtain ⟨b1, b2⟩ := i3 _ a0 a1
              rw [hpo]
              exact ⟨a0, b1, b2.trans a2⟩
          · exact i4 k (by omega) hkn
    · rw [decide_eq_false hi, cond_false]
      exact ⟨h3, fun k _ j _ => rfl, fun k _ hc => ⟨hc, Cov.refl _ _⟩, fun k hk hkn => by omega⟩


theorem r77_in {a b : Int} (ha : In40 a) (hb : -2147483648 ≤ b ∧ b < 2147483648) : In40 (r77 a b) := by rw [r77_eq ha hb]; exact r28_in _
theorem right_r51 {x : Ins} (h : right x = true) : r51 x.op x.d x.s x.imm = true := by
  unfold right r29 at h
  cases h1 : r50 x.d <;> simp only [h1, Bool.not_true, Bool.not_false, cond_true, cond_false] at h
  · simp at h
  cases h2 : r50 x.s <;> simp only [h2, Bool.not_true, Bool.not_false, cond_true, cond_false] at h
  · simp at h
  cases h3 : decide (x.imm < -2147483648) <;> simp only [h3, cond_true, cond_false] at h
  · cases h4 : decide (x.imm ≥ 2147483648) <;> simp only [h4, cond_true, cond_false] at h
    · cases h5 : r51 x.op x.d x.s x.imm with
      | true => rfl
      | false => rw [h5] at h; simp at h
    · simp at h
  · simp at h
/-! A state in which a register is told. -/
section
variable {cs : List Value} {d : Nat} {a b : Int}
theorem setA_at (h : cs.length = 25) (hd : d < 8) : knA (setA cs 0 (d : Int) a b) 0 d = true ∧ loA (setA cs 0 (d : Int) a b) 0 d = a ∧ hiA (setA cs 0 (d : Int) a b) 0 d = b := by
  unfold setA knA loA hiA
  rw [Int.toNat_natCast, Nat.mul_one]
  have l1 : 0 + 1 + d + [B true].length ≤ cs.length := by simp; omega
  have l2 : 0 + 9 + d * 2 + [I a, I b].length ≤ (splice cs (0 + 1 + d) [B true]).length := by rw [splice_len l1]; simp; omega
  refine ⟨?_, ?_, ?_⟩
  · rw [nth_splice_out l2 (.inl (by omega)), nth_splice_at _ (by omega)]; rfl
  · rw [nth_splice_in (k := 0) l2 (by simp)]; rfl
  · rw [nth_splice_in (k := 1) l2 (by simp)]; rfl
theorem setA_else (h : cs.length = 25) (hd : d < 8) {r : Nat} (hr : r < 8) (hne : r ≠ d) : knA (setA cs 0 (d : Int) a b) 0 r = knA cs 0 r ∧ loA (setA cs 0 (d : Int) a b) 0 r = loA cs 0 r ∧ hiA (setA cs 0 (d : Int) a b) 0 r = hiA cs 0 r := by
  refine three_same fun j hj => ?_
  unfold setA
  rw [Int.toNat_natCast, Nat.mul_one]
  have l1 : 0 + 1 + d + [B true].length ≤ cs.length := by simp; omega
  have l2 : 0 + 9 + d * 2 + [I a, I b].length ≤ (splice cs (0 + 1 + d) [B true]).length := by rw [splice_len l1]; simp; omega
  rw [nth_splice_out l2 (by simp; omega), nth_splice_out l1 (by simp; omega)]
end
/-- Spans that a register may have. -/
def SpB (cs : List Value) (off : Nat) : Prop := ∀ r, r < 8 → In40 (loA cs off r) ∧ In40 (hiA cs off r)
theorem SpB.setA {cs : List Value} {d : Nat} {a b : Int} (h : cs.length = 25) (hd : d < 8) (hs : SpB cs 0) (h1 : In40 a) (h2 : In40 b) : SpB (setA cs 0 (d : Int) a b) 0 := by
  intro r hr
  by_cases e : r = d
  · subst e
    obtain ⟨_, e2, e3⟩ := setA_at (a := a) (b := b) h hd
    rw [e2, e3]; exact ⟨h1, h2⟩
  · obtain ⟨_, e2, e3⟩ := setA_else (a := a) (b := b) h hd hr e
    rw [e2, e3]; exact hs r hr

theorem kI_eq {cs : List Value} (d : Nat) : kI cs (d : Int) = knA cs 0 d := by unfold knA kI; rw [Int.toNat_natCast, Nat.mul_one, Nat.zero_add]
theorem lI_eq {cs : List Value} (d : Nat) : lI cs (d : Int) = loA cs 0 d := by unfold loA lI; rw [Int.toNat_natCast, Nat.zero_add]
theorem hI_eq {cs : List Value} (d : Nat) : hI cs (d : Int) = hiA cs 0 d := by unfold hiA hI; rw [Int.toNat_natCast, Nat.zero_add]

theorem SpB.ext {a b : List Value} {oa ob : Nat} (h : ∀ j, 9 ≤ j → j < 25 → nth a (oa + j) = nth b (ob + j)) (hs : SpB b ob) : SpB a oa := by
  intro r hr
  have e2 : nth a (oa + 9 + r * 2 + 0) = nth b (ob + 9 + r * 2 + 0) := by rw [show oa + 9 + r * 2 + 0 = oa + (9 + r * 2) by omega, show ob + 9 + r * 2 + 0 = ob + (9 + r * 2) by omega]; exact h _ (by omega) (by omega)
  have e3 : nth a (oa + 9 + r * 2 + 1) = nth b (ob + 9 + r * 2 + 1) := by rw [show oa + 9 + r * 2 + 1 = oa + (9 + r * 2 + 1) by omega, show ob + 9 + r * 2 + 1 = ob + (9 + r * 2 + 1) by omega]; exact h _ (by omega) (by omega)
  have := hs r hr
  unfold loA hiA at *
  rw [e2, e3]; exact this
theorem jn_spb {os cs : List Value} {off i : Nat} (h : off + 25 ≤ cs.length) (hi : i < 8) (h1 : SpB cs off) (h2 : SpB os 0) : SpB (jn os off i cs) off := by
  intro r hr
  by_cases e : r = i
  · subst e
    have a1 := h1 r hr
    have a2 := h2 r hr
    have e2 : nth os (0 + 9 + r * 2 + 0) = nth os (9 + r * 2 + 0) := by rw [Nat.zero_add]
    have e3 : nth os (0 + 9 + r * 2 + 1) = nth os (9 + r * 2 + 1) := by rw [Nat.zero_add]
    unfold loA hiA In40 at a1 a2 ⊢
    rw [e2, e3] at a2
    unfold jn
    generalize hb : (boolO (nth cs (off + 1 + r)) && boolO (nth os (1 + r))) = b
    have l1 : off + 1 + r + [B b].length ≤ cs.length := by simp; omega
    have key : ∀ u v : Int, (-1099511627776 ≤ u ∧ u ≤ 1099511627776) → (-1099511627776 ≤ v ∧ v ≤ 1099511627776) →
        (-1099511627776 ≤ intO (nth (splice (splice cs (off + 1 + r) [B b]) (off + 9 + r * 2) [I u, I v]) (off + 9 + r * 2 + 0)) ∧ intO (nth (splice (splice cs (off + 1 + r) [B b]) (off + 9 + r * 2) [I u, I v]) (off + 9 + r * 2 + 0)) ≤ 1099511627776) ∧
        -1099511627776 ≤ intO (nth (splice (splice cs (off + 1 + r) [B b]) (off + 9 + r * 2) [I u, I v]) (off + 9 + r * 2 + 1)) ∧ intO (nth (splice (splice cs (off + 1 + r) [B b]) (off + 9 + r * 2) [I u, I v]) (off + 9 + r * 2 + 1)) ≤ 1099511627776 := by
      intro u v hu hv
      have l2 : off + 9 + r * 2 + [I u, I v].length ≤ (splice cs (off + 1 + r) [B b]).length := by rw [splice_len l1]; simp; omega
      rw [nth_splice_in (k := 0) l2 (by simp), nth_splice_in (k := 1) l2 (by simp)]
      exact ⟨hu, hv⟩
    cases b with
    | true =>
      refine key _ _ ?_ ?_
      · unfold r72b; split <;> omega
      · unfold r72c; split <;> omega
    | false => exact key 0 0 (by omega) (by omega)
  · obtain ⟨_, c2, c3⟩ := jn_other (os := os) h hi hr e
    rw [c2, c3]; exact h1 r hr
theorem joinFrom_spb {os : List Value} {off : Nat} (h2 : SpB os 0) : ∀ (m i : Nat) (cs : List Value), i + m ≤ 8 → off + 25 ≤ cs.length → SpB cs off → SpB (joinFrom os off m i cs) off
  | 0, _, _, _, _, h => h
  | m + 1, i, cs, hi, hl, h => joinFrom_spb h2 m (i + 1) _ (by omega) (by rw [jn_len hl (by omega)]; exact hl) (jn_spb hl (by omega) h h2)
/-- All spans of so many states. -/
def SpAll (cs : List Value) (n : Nat) : Prop := ∀ k, k < n → SpB cs (k * 25)
theorem join_spb {cs os : List Value} {n k : Nat} (h : StsOk cs n) (hk : k < n) (ho : IsSt os) (h1 : SpAll cs n) (h2 : SpB os 0) : SpAll (join48 cs (k * 25) os) n := by
  intro q hq
  by_cases e : q = k
  · subst e
    have hl := (h.st q hk).len
    unfold join48
    cases hc : boolO (nth cs (q * 25)) with
    | true => exact joinFrom_spb h2 8 0 cs (by omega) hl (h1 q hq)
    | false =>
      have h25 := isSt_len ho
      refine SpB.ext (b := os) (ob := 0) (fun j _ hj => ?_) h2
      rw [cond_false, nth_splice_in (by omega) (by omega), Nat.zero_add]
  · exact (h1 q hq).ext fun j _ hj => join_else h hk ho e hj
theorem wide1_at {x : Ins} {ss : List Value} (hx : right x = true) (h : IsSt ss) {r : Nat} (hr : r < 8) : knA (wide1 x ss) 0 r = knA ss 0 r ∧
    (if wrI x = (r : Int) ∧ knA ss 0 r = true then loA (wide1 x ss) 0 r = -1099511627776 ∧ hiA (wide1 x ss) 0 r = 1099511627776 else loA (wide1 x ss) 0 r = loA ss 0 r ∧ hiA (wide1 x ss) 0 r = hiA ss 0 r) := by
  have h25 := isSt_len h
  obtain ⟨w1, w2⟩ := wrI_le hx
  unfold wide1
  cases hd : decide (wrI x ≥ 0) with
  | false =>
    simp only [decide_eq_false_iff_not] at hd
    rw [cond_false, if_neg (by omega)]
    exact ⟨rfl, rfl, rfl⟩
  | true =>
    simp only [decide_eq_true_eq] at hd
    obtain ⟨q, hq⟩ := Int.eq_ofNat_of_zero_le hd
    rw [hq] at w2
    have hq8 : q < 8 := by omega
    rw [cond_true, hq, kI_eq]
    cases hk : knA ss 0 q with
    | false =>
      rw [cond_false]
      refine ⟨rfl, ?_⟩
      rw [if_neg]
      · exact ⟨rfl, rfl⟩
      · rintro ⟨e1, e2⟩
        have : q = r := by omega
        subst this
        rw [hk] at e2; cases e2
    | true =>
      rw [cond_true, Int.toNat_natCast]
      have l2 : 9 + q * 2 + [I (-1099511627776), I 1099511627776].length ≤ ss.length := by simp; omega
      refine ⟨?_, ?_⟩
      · unfold knA
        rw [nth_splice_out l2 (by simp; omega)]
      · by_cases e : q = r
        · subst e
          rw [if_pos ⟨rfl, hk⟩]
          unfold loA hiA
          rw [Nat.zero_add, nth_splice_in (k := 0) l2 (by simp), nth_splice_in (k := 1) l2 (by simp)]
          exact ⟨rfl, rfl⟩
        · rw [if_neg (by omega)]
          unfold loA hiA
          rw [Nat.zero_add, nth_splice_out l2 (by simp; omega), nth_splice_out l2 (by simp; omega)]
          exact ⟨rfl, rfl⟩
/-- Registers that are written in a body may have any number; the others are as they were. -/
theorem widenL_at : ∀ {b : List Ins} {ss : List Value}, (∀ x ∈ b, right x = true) → IsSt ss → ∀ {r : Nat}, r < 8 → knA (widenL b ss) 0 r = knA ss 0 r ∧
    (knA ss 0 r = true → (∃ x ∈ b, wrI x = (r : Int)) → loA (widenL b ss) 0 r = -1099511627776 ∧ hiA (widenL b ss) 0 r = 1099511627776) ∧
    ((loA (widenL b ss) 0 r = loA ss 0 r ∧ hiA (widenL b ss) 0 r = hiA ss 0 r) ∨ (loA (widenL b ss) 0 r = -1099511627776 ∧ hiA (widenL b ss) 0 r = 1099511627776))
  | [], ss, _, _, r, _ => ⟨rfl, fun _ h => by obtain ⟨x, h1, _⟩ := h; simp at h1, .inl ⟨rfl, rfl⟩⟩
  | x :: b, ss, hl, h, r, hr => by
    have hx := hl x (List.mem_cons_self ..)
    obtain ⟨a1, a2⟩ := wide1_at hx h hr
    obtain ⟨b1, b2, b3⟩ := widenL_at (b := b) (fun y hy => hl y (List.mem_cons_of_mem _ hy)) (wide1_st hx h) hr
    rw [widenL]
    refine ⟨b1.trans a1, fun hk hw => ?_, ?_⟩
    · by_cases c : wrI x = (r : Int)
      · rw [if_pos ⟨c, hk⟩] at a2
        rcases b3 with ⟨c1, c2⟩ | c1
        · rw [c1, c2]; exact a2
        · exact c1
      · refine b2 (a1.trans hk) ?_
        obtain ⟨y, hy, e⟩ := hw
        rcases List.mem_cons.1 hy with rfl | hy
        · exact absurd e c
        · exact ⟨y, hy, e⟩
    · rcases b3 with ⟨c1, c2⟩ | c1
      · split at a2
        · exact .inr ⟨c1.trans a2.1, c2.trans a2.2⟩
        · exact .inl ⟨c1.trans a2.1, c2.trans a2.2⟩
      · exact .inr c1
theorem widenL_spb {b : List Ins} {ss : List Value} (hl : ∀ x ∈ b, right x = true) (h : IsSt ss) (hs : SpB ss 0) : SpB (widenL b ss) 0 := by
  intro r hr
  obtain ⟨_, _, a3⟩ := widenL_at hl h hr
  have := hs r hr
  unfold In40 at *
  rcases a3 with ⟨c1, c2⟩ | ⟨c1, c2⟩ <;> rw [c1, c2] <;> omega
theorem bif_spb {c : Bool} {x y : List Value} (hx : SpB x 0) (hy : SpB y 0) : SpB (bif c then x else y) 0 := by
  cases c
  · exact hy
  · exact hx
theorem bifP_spb {c : Bool} {x y : List Value} (hx : c = true → SpB x 0) (hy : c = false → SpB y 0) : SpB (bif c then x else y) 0 := by
  cases c
  · exact hy rfl
  · exact hx rfl
theorem c46_spb {cs : List Value} {x : Ins} (hr : right x = true) (h : IsSt cs) (hs : SpB cs 0) : SpB (c46 cs x.op x.d x.s x.imm) 0 := by
  obtain ⟨⟨d0, d1⟩, s0, s1⟩ := right_regs hr
  have hi := right_imm hr
  have h25 := isSt_len h
  obtain ⟨d, hd⟩ := Int.eq_ofNat_of_zero_le d0
  obtain ⟨s, hss⟩ := Int.eq_ofNat_of_zero_le s0
  rw [hd, hss]
  rw [hd] at d1
  rw [hss] at s1
  obtain ⟨D1, D2⟩ := hs d (by omega)
  obtain ⟨S1, S2⟩ := hs s (by omega)
  have set : ∀ {a b : Int}, In40 a → In40 b → SpB (setA cs 0 (d : Int) a b) 0 := fun ha hb => hs.setA h25 (by omega) ha hb
  unfold c46
  refine bif_spb (set (r28_in _) (r28_in _)) ?_
  refine bif_spb (bif_spb (set (by rw [lI_eq]; exact S1) (by rw [hI_eq]; exact S2)) hs) ?_
  refine bif_spb (bif_spb (set (r28_in _) (r28_in _)) hs) ?_
  refine bif_spb (bif_spb (set (r28_in _) (r28_in _)) hs) ?_
  refine bif_spb (bif_spb (set (r28_in _) (r28_in _)) hs) ?_
  refine bif_spb (bif_spb (set ?_ ?_) hs) ?_
  · rw [lI_eq, hI_eq]; unfold r52b; split <;> first | exact r77_in D1 hi | exact r77_in D2 hi
  · rw [lI_eq, hI_eq]; unfold r52c; split <;> first | exact r77_in D1 hi | exact r77_in D2 hi
  refine bif_spb (bif_spb (set ?_ ?_) hs) ?_
  · rw [lI_eq, hI_eq]
    unfold r69b
    unfold In40 at *
    repeat' split
    all_goals omega
  · rw [lI_eq, hI_eq]
    unfold r69c
    unfold In40 at *
    repeat' split
    all_goals omega
  unfold c70
  refine bif_spb (bif_spb (set (by decide) (by decide)) hs) ?_
  refine bif_spb (bif_spb (set (by decide) (by decide)) hs) ?_
  refine bif_spb (bif_spb (set (by decide) (by decide)) hs) ?_
  refine bif_spb (bif_spb (set (by decide) (by decide)) hs) ?_
  refine bif_spb hs (bif_spb hs (bif_spb hs (bif_spb hs (bif_spb hs (bif_spb ?_ hs)))))
  unfold c85
  exact bif_spb (bif_spb (hs.setA (d := 0) h25 (by omega) (by decide) (by decide)) hs) hs
theorem stAt_spb {C : List Value} {i : Nat} (h : SpB C (i * 25)) : SpB (stAt C i) 0 := by
  refine h.ext fun j _ hj => ?_
  rw [stAt, nth_eq, nth_eq, Nat.zero_add, List.getElem?_take_of_lt hj, List.getElem?_drop]
theorem postS_spb {l : List Ins} {en : List Int} {C : List Value} {i : Nat} (hl : ∀ x ∈ l, right x = true) (h : StsOk C l.length) (hi : i < l.length) (hs : SpAll C l.length) : SpB (postS l en C i) 0 := by
  obtain ⟨_, _, s3⟩ := sta_eq h hi
  have hx := hl _ (getD_mem hi)
  have s4 := c46_spb hx s3 (stAt_spb (hs i hi))
  have s5 := c46_st (op := (l.getD i insD).op) (imm := (l.getD i insD).imm) s3 (right_regs hx)
  unfold postS wid25
  exact bif_spb (widenL_spb (fun x hx => hl x (List.mem_of_mem_drop (List.mem_of_mem_take hx))) s5 s4) s4
theorem bif_spa {c : Bool} {x y : Bool × List Value} {n : Nat} (hx : c = true → SpAll x.2 n) (hy : c = false → SpAll y.2 n) : SpAll (bif c then x else y).2 n := by
  cases c
  · exact hy rfl
  · exact hx rfl
theorem stepF_spb {l : List Ins} {lp en : List Int} {i : Nat} {cst : List Value} (hl : ∀ x ∈ l, right x = true) (hi : i < l.length) (hsts : StsOk cst l.length) (hs : SpAll cst l.length) : SpAll (stepF l lp en i cst).2 l.length := by
  obtain ⟨p1, _⟩ := postS_st (en := en) hl hsts hi
  have p2 := postS_spb (en := en) hl hsts hi hs
  have e : (stepF l lp en i cst) = bif bad25 l.length lp en i (l.getD i insD).op (l.getD i insD).imm then (false, cst) else
      bif !boolO (nth cst (i * 25)) then (true, cst) else
      bif !r46 (stAt cst i) (l.getD i insD).op (l.getD i insD).d (l.getD i insD).s (l.getD i insD).imm then (false, cst) else
      fin25 (l.getD i insD).op l.length i (jmp25 (l.getD i insD).op (l.getD i insD).imm cst (postS l en cst i)) (postS l en cst i) := rfl
  rw [e]
  clear e
  generalize postS l en cst i = S at *
  refine bif_spa (fun _ => hs) fun c1 => ?_
  refine bif_spa (fun _ => hs) fun _ => ?_
  refine bif_spa (fun _ => hs) fun _ => ?_
  have hJ : StsOk (jmp25 (l.getD i insD).op (l.getD i insD).imm cst S) l.length ∧ SpAll (jmp25 (l.getD i insD).op (l.getD i insD).imm cst S) l.length := by
    unfold jmp25
    cases c4 : r44 (l.getD i insD).op with
    | false => exact ⟨hsts, hs⟩
    | true =>
      obtain ⟨_, _, q3⟩ := jump_imm c1 c4 (by omega)
      exact ⟨join48_sts hsts q3 p1, join_spb hsts q3 p1 hs p2⟩
  unfold fin25
  refine bif_spa (fun _ => hJ.2) fun _ => ?_
  refine bif_spa (fun _ => hJ.2) fun _ => ?_
  refine bif_spa (fun _ => hJ.2) fun c7 => ?_
  have hlt : i + 1 < l.length := by
    have := beq_eq_false_iff_ne.mp c7
    omega
  exact join_spb hJ.1 hlt p1 hJ.2 p2
theorem walk_spb {l : List Ins} {lp en : List Int} (hl : ∀ x ∈ l, right x = true) : ∀ (f i : Nat) (cst : List Value), StsOk cst l.length → PlainL cst → SpAll cst l.length → SpAll (walkF l lp en f i cst).2 l.length := by
  intro f
  induction f with
  | zero => intro i cst _ _ h; exact h
  | succ f ih =>
    intro i cst h1 h2 h3
    rw [walkF]
    by_cases hi : i < l.length
    · rw [decide_eq_true hi, cond_true]
      obtain ⟨s1, s2⟩ := stepF_sts (lp := lp) (en := en) hl hi h1 h2
      cases (stepF l lp en i cst).1 with
      | false => exact h3
      | true => exact ih (i + 1) _ s1 s2 (stepF_spb hl hi h1 h3)
    · rw [decide_eq_false hi]; exact h3

abbrev SemL (w0 : World) (K : List Value → AHeap → Prop) (t : List Item) (fr : List AV) (h : AHeap) : Prop := Agm.Sem Tryd.prog w0 (Tryd.prog.globals.size + nt1.flags.length) Tryd.f33 (retT G nt1 K) t fr h
theorem leaf33 {K : List Value → AHeap → Prop} : ∀ t fr h, (match t with
    | .code (.region 3 _ _) :: _ => canonT G nt1 (SemL w0 K t) fr h
    | .code (.region 14 _ _) :: _ => canonT G nt1 (SemL w0 K t) fr h
    | _ => False) → SemL w0 K t fr h := by
  intro t fr h e
  split at e
  · exact canonT_semN (nt := nt1) rfl e
  · exact canonT_semN (nt := nt1) rfl e
  · exact e.elim
theorem ok33 : ∀ c ∈ [con64], c.ok Tryd.prog w0 := fun c hc => by
  simp only [List.mem_cons, List.not_mem_nil, or_false] at hc
  subst hc
  exact con64_ok
set_option maxRecDepth 100000 in
theorem loop33b {K : List Value → AHeap → Prop} {rw : Bool} {l : List Ins} (hl : l.length < 1000000000) : ∀ (f i : Nat), l.length - i < f → i ≤ l.length →
    K [I (lopB l f i)] (heapB G [some (.cells (insC l) rw)]) → SemL w0 K todo33b (fr33b l.length i) (heapB G [some (.cells (insC l) rw)]) := by
  intro f
  induction f with
  | zero => intro i h1; omega
  | succ f ih =>
    intro i h1 h2 hK
    refine seg_semI3 (F := ft33) mixed (callsOf_ok ok33) leaf33 [3, 14] 20 400 ((head33b l.length rw (insC l) i K _).mpr ?_)
    have hp : PlainL (insC l) ∧ True := ⟨plain_insC l, trivial⟩
    rw [lopB] at hK
    refine bifP (fun c0 => ?_) (fun c0 => ?_)
    · simp only [decide_eq_true_eq] at c0
      have hi : i < l.length := by omega
      obtain ⟨e1, ⟨e2, e3, e4, e5⟩, e6⟩ := at_insC3 hi
      have hw1 : w ((i : Int) + 1) = ((i + 1 : Nat) : Int) := by rw [w_id (by omega) (by omega)]; omega
      rw [decide_eq_true hi, cond_true] at hK
      rw [decide_eq_true (show (0 : Int) ≤ (i : Int) by omega), decide_eq_true c0, e2, e6]
      simp only [Bool.and_self, cond_true]
      refine bifP (fun o1 => ?_) (fun o1 => ?_)
      · rw [o1, cond_true] at hK
        unfold nx33
        rw [unIns_insC, Int.toNat_natCast, hw1]
        refine ⟨⟨hp, hp, rfl, rfl, hl, by omega, by omega⟩, ?_⟩
        refine bifP (fun o2 => ?_) (fun o2 => ?_)
        · have o2' : decide (enD l i < 0) = true := o2
          rw [o2', cond_true] at hK
          exact ⟨hp, hK⟩
        · have o2' : decide (enD l i < 0) = false := o2
          rw [o2', cond_false] at hK
          exact ⟨hp, ih _ (by omega) (by omega) hK⟩
      · rw [o1, cond_false] at hK
        unfold nx33
        rw [hw1]
        exact ⟨hp, ih _ (by omega) (by omega) hK⟩
    · simp only [decide_eq_false_iff_not] at c0
      have hi : ¬ i < l.length := by omega
      rw [decide_eq_false hi, cond_false] at hK
      exact ⟨hp, hK⟩
set_option maxRecDepth 100000 in
theorem loop33a {K : List Value → AHeap → Prop} {rw : Bool} {l : List Ins} (hl : l.length < 1000000000) : ∀ (f i d : Nat), l.length - i < f → i ≤ l.length → d ≤ i →
    K [I (lopA l f i d)] (heapB G [some (.cells (insC l) rw)]) → SemL w0 K todo33a (fr33a l.length d i) (heapB G [some (.cells (insC l) rw)]) := by
  intro f
  induction f with
  | zero => intro i d h1; omega
  | succ f ih =>
    intro i d h1 h2 h3 hK
    refine seg_semI3 (F := ft33) mixed (callsOf_ok ok33) leaf33 [3, 14] 20 400 ((head33a l.length rw (insC l) d i K _).mpr ?_)
    have hp : PlainL (insC l) ∧ True := ⟨plain_insC l, trivial⟩
    rw [lopA] at hK
    refine bifP (fun c0 => ?_) (fun c0 => ?_)
    · simp only [decide_eq_true_eq] at c0
      have hi : i < l.length := by omega
      obtain ⟨e1, ⟨e2, e3, e4, e5⟩, e6⟩ := at_insC3 hi
      have hw1 : w ((i : Int) + 1) = ((i + 1 : Nat) : Int) := by rw [w_id (by omega) (by omega)]; omega
      have hw2 : w ((d : Int) + 1) = ((d + 1 : Nat) : Int) := by rw [w_id (by omega) (by omega)]; omega
      rw [decide_eq_true hi, cond_true] at hK
      rw [decide_eq_true (show (0 : Int) ≤ (i : Int) by omega), decide_eq_true c0, e2, e6]
      simp only [Bool.and_self, cond_true]
      refine bifP (fun o1 => ?_) (fun o1 => ?_)
      · rw [o1, cond_true] at hK
        have o2 : ((l.getD i insD).op == 18) = false := by
          have := beq_iff_eq.1 o1
          rw [this]; rfl
        refine bifP (fun o3 => ?_) (fun o3 => ?_)
        · have hd : (d == 3) = true := by
            simp only [beq_iff_eq] at o3 ⊢; omega
          rw [hd, cond_true] at hK
          exact ⟨hp, hK⟩
        · have hd : (d == 3) = false := by
            rw [beq_eq_false_iff_ne] at o3 ⊢; omega
          rw [hd, cond_false] at hK
          rw [o2, hw2]
          unfold go33
          rw [hw1]
          exact ⟨hp, ih _ _ (by omega) (by omega) (by omega) hK⟩
      · rw [o1, cond_false] at hK
        refine bifP (fun o2 => ?_) (fun o2 => ?_)
        · rw [o2, cond_true] at hK
          refine bifP (fun o3 => ?_) (fun o3 => ?_)
          · have hd : (d == 0) = true := by
              simp only [beq_iff_eq] at o3 ⊢; omega
            rw [hd, cond_true] at hK
            exact ⟨hp, hK⟩
          · have hd : (d == 0) = false := by
              rw [beq_eq_false_iff_ne] at o3 ⊢; omega
            have hd' : d ≠ 0 := beq_eq_false_iff_ne.mp hd
            have hw3 : w ((d : Int) - 1) = ((d - 1 : Nat) : Int) := by rw [w_id (by omega) (by omega)]; omega
            rw [hd, cond_false] at hK
            unfold go33
            rw [hw3, hw1]
            exact ⟨hp, ih _ _ (by omega) (by omega) (by omega) hK⟩
        · rw [o2, cond_false] at hK
          unfold go33
          rw [hw1]
          exact ⟨hp, ih _ _ (by omega) (by omega) (by omega) hK⟩
    · simp only [decide_eq_false_iff_not] at c0
      have hi : ¬ i < l.length := by omega
      rw [decide_eq_false hi, cond_false] at hK
      exact ⟨hp, loop33b hl (l.length + 1) 0 (by omega) (by omega) hK⟩
/-- Where the Loops are wrong, by the document. -/
def lopI (l : List Ins) : Int := lopA l (l.length + 1) 0 0
noncomputable def lN (args : List Value) (bs : List (Option ABlk)) (P : List Ins → Prop) (rs : List Ins → List Value) : Option (Prop × List Value × List OutB) := match args, bs with
  | [s], [some (.cells cl rw)] => match slN s 0 4 with
    | some n => some (cl = insC (unIns cl) ∧ (unIns cl).length = n ∧ n < 1000000000 ∧ P (unIns cl), rs (unIns cl), [(true, some (.cells cl rw))])
    | none => none
  | _, _ => none
theorem lN_some {args : List Value} {bs : List (Option ABlk)} {P : List Ins → Prop} {rs : List Ins → List Value} {p : Prop} {rs' : List Value} {out : List OutB} (e : lN args bs P rs = some (p, rs', out)) (hp : p) :
    ∃ (l : List Ins) (rw : Bool), args = [SL G l.length 4] ∧ bs = [some (.cells (insC l) rw)] ∧ l.length < 1000000000 ∧ P l ∧ rs' = rs l ∧ out = [(true, some (.cells (insC l) rw))] := by
  unfold lN at e
  split at e
  · rename_i s cs rw
    split at e
    · rename_i n hn
      simp only [Option.some.injEq, Prod.mk.injEq] at e
      obtain ⟨rfl, rfl, rfl⟩ := e
      obtain ⟨h1, h2, h3, h4⟩ := hp
      exact ⟨unIns cs, rw, by rw [slN_eq hn, h2]; rfl, by rw [← h1], by omega, h4, rfl, by rw [← h1]⟩
    · simp at e
  · simp at e
noncomputable def con33 : Con := { f := 33, gh := [], paths := pt1, spec := fun args bs => lN args bs (fun _ => True) fun l => [I (lopI l)] }
set_option maxRecDepth 100000 in
theorem con33_ok : con33.ok Tryd.prog w0 := by
  intro args bs p rs out e hp
  simp only [con33] at e
  obtain ⟨l, rw, rfl, rfl, h3, _, rfl, rfl⟩ := lN_some e hp
  change CallS Tryd.prog w0 33 [SL G l.length 4] (heapB Tryd.prog.globals.size [some (.cells (insC l) rw)]) fun rs' h' => rs' = [I (lopI l)] ∧ h' = heapB Tryd.prog.globals.size [some (.cells (insC l) rw)]
  have hn : (heapB Tryd.prog.globals.size [some (.cells (insC l) rw)]).next = Tryd.prog.globals.size + nt1.flags.length := by rw [heapB_next]; rfl
  refine retT_call (nt := nt1) hn (call_sem (cd := Tryd.f33.body.getD .skip) Tryd.func33 (by kernel_rfl) ?_)
  rw [hn]
  refine seg_semI3 (F := ft33) mixed (callsOf_ok ok33) leaf33 [3, 14] 20 400 ((start33 l.length rw (insC l) _ _).mpr ⟨⟨plain_insC l, trivial⟩, ?_⟩)
  exact loop33a h3 (l.length + 1) 0 0 (by omega) (by omega) (by omega) ⟨rfl, rfl⟩
/-! Fuel. -/
noncomputable def ft40 : FT := { loc := fun _ => false, mask := fun id => bif Nat.beq id 3 then live 41 [0, 3, 4] else bif Nat.beq id 7 then live 41 [0, 3, 4, 5, 6] else [] }
noncomputable def todo40a : List Item := todoOf Tryd.f40 3
noncomputable def todo40b : List Item := todoOf Tryd.f40 7
noncomputable def fr40a (n : Nat) (t i : Int) : List AV := frm 41 [(0, .v (SL G n 4)), (3, .v (I t)), (4, .v (I i))]
noncomputable def fr40b (n : Nat) (t i q k : Int) : List AV := frm 41 [(0, .v (SL G n 4)), (3, .v (I t)), (4, .v (I i)), (5, .v (I q)), (6, .v (I k))]
abbrev seg40 (K : List Value → AHeap → Prop) (L : List Item → List AV → AHeap → Prop) (t : List Item) (fr : List AV) (h : AHeap) : Prop :=
  segK3 Tryd.prog ft40 (semI Tryd.prog (fun _ => ft0) (callsOf G [con34]) 400 20 (retT G nt1 K)) Tryd.f40 [3, 7] 400 t fr (fun t fr h => match t with
  | .code (.region 3 _ _) :: _ => canonT G nt1 (L t) fr h
  | .code (.region 7 _ _) :: _ => canonT G nt1 (L t) fr h
  | _ => False) h
section
variable (n : Nat) (rw : Bool) (cl : List Value) (t i q k : Int) (K : List Value → AHeap → Prop) (L : List Item → List AV → AHeap → Prop)
theorem start40 : seg40 K L [.code (Tryd.f40.body.getD .skip)] (startF Tryd.f40 [SL G n 4]) (heapB G [some (.cells cl rw)])
    = ((PlainL cl ∧ True) ∧ L todo40a (fr40a n 0 0) (heapB G [some (.cells cl rw)])) := by kernel_rfl
theorem head40a : seg40 K L todo40a (fr40a n t i) (heapB G [some (.cells cl rw)])
    = (bif decide (i < (n : Int)) then (PlainL cl ∧ True) ∧ L todo40b (fr40b n t i 1 0) (heapB G [some (.cells cl rw)])
      else (PlainL cl ∧ True) ∧ K [I t] (heapB G [some (.cells cl rw)])) := by kernel_rfl
abbrev pi64 (cl : List Value) (i : Int) : Option Value := nth cl (0 + i.toNat * 4 + 3)
abbrev nx40 (n : Nat) (cl : List Value) (rw : Bool) (L : List Item → List AV → AHeap → Prop) (t i q k : Int) : Prop := (PlainL cl ∧ True) ∧ L todo40b (fr40b n t i q (w (k + 1))) (heapB G [some (.cells cl rw)])
theorem head40b : seg40 K L todo40b (fr40b n t i q k) (heapB G [some (.cells cl rw)])
    = (bif decide (k < i) then bif decide (0 ≤ k) && decide (k < (n : Int)) then bif okI .i64 (pk64 cl k) then
        bif intO (pk64 cl k) == 17 then ((PlainL cl ∧ True) ∧ (PlainL cl ∧ True) ∧ cl = insC (unIns cl) ∧ (unIns cl).length = n ∧ n < 1000000000 ∧ 0 ≤ k ∧ k < (n : Int)) ∧
          bif inD (unIns cl) k i then bif decide (0 ≤ k) && decide (k < (n : Int)) then bif okI .i64 (pi64 cl k) then nx40 n cl rw L t i (w (q * intO (pi64 cl k))) k else False else False
          else nx40 n cl rw L t i q k
        else nx40 n cl rw L t i q k else False else False
      else (PlainL cl ∧ True) ∧ L todo40a (fr40a n (w (t + q)) (w (i + 1))) (heapB G [some (.cells cl rw)])) := by kernel_rfl
end
abbrev Sem40 (w0 : World) (K : List Value → AHeap → Prop) (t : List Item) (fr : List AV) (h : AHeap) : Prop := Agm.Sem Tryd.prog w0 (Tryd.prog.globals.size + nt1.flags.length) Tryd.f40 (retT G nt1 K) t fr h
theorem leaf40 {K : List Value → AHeap → Prop} : ∀ t fr h, (match t with
    | .code (.region 3 _ _) :: _ => canonT G nt1 (Sem40 w0 K t) fr h
    | .code (.region 7 _ _) :: _ => canonT G nt1 (Sem40 w0 K t) fr h
    | _ => False) → Sem40 w0 K t fr h := by
  intro t fr h e
  split at e
  · exact canonT_semN (nt := nt1) rfl e
  · exact canonT_semN (nt := nt1) rfl e
  · exact e.elim
theorem ok40 : ∀ c ∈ [con34], c.ok Tryd.prog w0 := fun c hc => by
  simp only [List.mem_cons, List.not_mem_nil, or_false] at hc
  subst hc
  exact con34_ok
set_option maxRecDepth 100000 in
theorem loop40b {K : List Value → AHeap → Prop} {rw : Bool} {l : List Ins} (hl : l.length < 1000000000) {i : Nat} (hi : i < l.length) {t : Int} : ∀ (f k : Nat) (q : Int), i - k < f → k ≤ i →
    Sem40 w0 K todo40a (fr40a l.length (w (t + timD l i f k q)) (i + 1 : Nat)) (heapB G [some (.cells (insC l) rw)]) → Sem40 w0 K todo40b (fr40b l.length t i q k) (heapB G [some (.cells (insC l) rw)]) := by
  intro f
  induction f with
  | zero => intro k q h1; omega
  | succ f ih =>
    intro k q h1 h2 hK
    refine seg_semI3 (F := ft40) mixed (callsOf_ok ok40) leaf40 [3, 7] 20 400 ((head40b l.length rw (insC l) t i q k K _).mpr ?_)
    have hp : PlainL (insC l) ∧ True := ⟨plain_insC l, trivial⟩
    rw [timD] at hK
    refine bifP (fun c0 => ?_) (fun c0 => ?_)
    · simp only [decide_eq_true_eq] at c0
      have hki : k < i := by omega
      have hk : k < l.length := by omega
      obtain ⟨e1, ⟨e2, e3, e4, e5⟩, e6⟩ := at_insC3 hk
      obtain ⟨g1, g2⟩ := imm_insC hk
      have hw1 : w ((k : Int) + 1) = ((k + 1 : Nat) : Int) := by rw [w_id (by omega) (by omega)]; omega
      rw [decide_eq_true hki, cond_true] at hK
      have hpi : pi64 (insC l) (k : Int) = nth (insC l) (0 + k * 4 + 3) := by unfold pi64; rw [Int.toNat_natCast]
      rw [decide_eq_true (show (0 : Int) ≤ (k : Int) by omega), decide_eq_true (show (k : Int) < (l.length : Int) by omega), e2, e6]
      simp only [Bool.and_self, cond_true]
      unfold nx40
      rw [hw1]
      refine bifP (fun o1 => ?_) (fun o1 => ?_)
      · rw [o1, cond_true] at hK
        rw [unIns_insC]
        refine ⟨⟨hp, hp, rfl, rfl, hl, by omega, by omega⟩, ?_⟩
        refine bifP (fun o2 => ?_) (fun o2 => ?_)
        · rw [o2, cond_true] at hK
          rw [hpi, g1, g2, cond_true]
          exact ⟨hp, ih _ _ (by omega) (by omega) hK⟩
        · rw [o2, cond_false] at hK
          exact ⟨hp, ih _ _ (by omega) (by omega) hK⟩
      · rw [o1, cond_false] at hK
        exact ⟨hp, ih _ _ (by omega) (by omega) hK⟩
    · simp only [decide_eq_false_iff_not] at c0
      have hw1 : w ((i : Int) + 1) = ((i + 1 : Nat) : Int) := by rw [w_id (by omega) (by omega)]; omega
      rw [decide_eq_false (show ¬ k < i by omega), cond_false] at hK
      rw [hw1]
      exact ⟨hp, hK⟩
set_option maxRecDepth 100000 in
theorem loop40a {K : List Value → AHeap → Prop} {rw : Bool} {l : List Ins} (hl : l.length < 1000000000) : ∀ (f i : Nat) (t : Int), l.length - i < f → i ≤ l.length →
    K [I (fuD l f i t)] (heapB G [some (.cells (insC l) rw)]) → Sem40 w0 K todo40a (fr40a l.length t i) (heapB G [some (.cells (insC l) rw)]) := by
  intro f
  induction f with
  | zero => intro i t h1; omega
  | succ f ih =>
    intro i t h1 h2 hK
    refine seg_semI3 (F := ft40) mixed (callsOf_ok ok40) leaf40 [3, 7] 20 400 ((head40a l.length rw (insC l) t i K _).mpr ?_)
    have hp : PlainL (insC l) ∧ True := ⟨plain_insC l, trivial⟩
    rw [fuD] at hK
    refine bifP (fun c0 => ?_) (fun c0 => ?_)
    · simp only [decide_eq_true_eq] at c0
      have hi : i < l.length := by omega
      rw [decide_eq_true hi, cond_true] at hK
      exact ⟨hp, loop40b hl hi (i + 1) 0 1 (by omega) (by omega) (ih _ _ (by omega) (by omega) hK)⟩
    · simp only [decide_eq_false_iff_not] at c0
      have hi : ¬ i < l.length := by omega
      rw [decide_eq_false hi, cond_false] at hK
      exact ⟨hp, hK⟩
/-- A program's fuel, by the document. -/
def fuI (l : List Ins) : Int := fuD l (l.length + 1) 0 0
noncomputable def con40 : Con := { f := 40, gh := [], paths := pt1, spec := fun args bs => lN args bs (fun _ => True) fun l => [I (fuI l)] }
set_option maxRecDepth 100000 in
theorem con40_ok : con40.ok Tryd.prog w0 := by
  intro args bs p rs out e hp
  simp only [con40] at e
  obtain ⟨l, rw, rfl, rfl, h3, _, rfl, rfl⟩ := lN_some e hp
  change CallS Tryd.prog w0 40 [SL G l.length 4] (heapB Tryd.prog.globals.size [some (.cells (insC l) rw)]) fun rs' h' => rs' = [I (fuI l)] ∧ h' = heapB Tryd.prog.globals.size [some (.cells (insC l) rw)]
  have hn : (heapB Tryd.prog.globals.size [some (.cells (insC l) rw)]).next = Tryd.prog.globals.size + nt1.flags.length := by rw [heapB_next]; rfl
  refine retT_call (nt := nt1) hn (call_sem (cd := Tryd.f40.body.getD .skip) Tryd.func40 (by kernel_rfl) ?_)
  rw [hn]
  refine seg_semI3 (F := ft40) mixed (callsOf_ok ok40) leaf40 [3, 7] 20 400 ((start40 l.length rw (insC l) _ _).mpr ⟨⟨plain_insC l, trivial⟩, ?_⟩)
  exact loop40a h3 (l.length + 1) 0 0 (by omega) (by omega) ⟨rfl, rfl⟩
end Go.Proofs.YtadaindmgmielaaDoor
