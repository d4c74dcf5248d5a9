/- The law HoldNever: step by step. No condition. -/
import Derived.Test.YtdggbficiakbhaaHoldXf
import Derived.Test.YtdggbficiakbhaaB10
namespace Go.Proofs.Ytdggbficiakbhaa
open Go.Agm
variable {w0 : World}

noncomputable def cs10 : List Con := [con27, con28, con29, con31, con32, con35, con36]
noncomputable def ft10 : FT := { loc := fun _ => false, mask := fun id => bif Nat.beq id 9 then live 111 [0, 3, 4, 5, 6, 7, 8] else bif Nat.beq id 20 then live 111 [0, 3, 4, 5, 6, 7, 8] else bif Nat.beq id 22 then live 111 [3, 4, 5, 6, 7] else bif Nat.beq id 23 then live 111 [3, 5, 6, 7, 84] else bif Nat.beq id 24 then live 111 [3, 5, 6, 7, 84] else bif Nat.beq id 25 then live 111 [3, 5, 6, 7, 9, 84] else [] }
abbrev gh10 : List Gh := [⟨3, some ([], 1), 1⟩, ⟨3, some ([], 2), 2⟩]
abbrev nt10 : Nt := { gh := gh10, flags := [true], paths := [⟨3, [], false⟩, ⟨3, [1], true⟩, ⟨3, [2], true⟩, ⟨4, [], true⟩], tr := [] }
noncomputable abbrev MP (b : Nat) : Value := .map (some b)
noncomputable def hp10 (cl : List Value) (rw : Bool) (la : Int) (n m : Nat) (ci ch : List Value) (es : List (Value × Value)) : List (Option ABlk) :=
  [some (.cells cl rw), some (.cells [I la, SL (G + 2) n 1, SL (G + 3) m 2] true), some (.cells ci true), some (.cells ch true), some (.map es)]
noncomputable def fr10 (q : Nat) (dr fre fi i : Int) : List AV := frm 111 [(0, .v (SL G q 3)), (3, .v (PT (G + 1))), (4, .v (MP (G + 4))), (5, .v (I dr)), (6, .v (I fre)), (7, .v (I fi)), (8, .v (I i))]
noncomputable def fr10c (dr fre fi : Int) : List AV := frm 111 [(3, .v (PT (G + 1))), (4, .v (MP (G + 4))), (5, .v (I dr)), (6, .v (I fre)), (7, .v (I fi))]
noncomputable abbrev mN : Mach (List Item) := { fail := [], ret := fun _ _ => [], call := fun f _ h k => bif Nat.beq f 27 then k [.bool true] h else bif Nat.beq f 31 then k [SL G 0 1] h else k [I 1] h }
noncomputable def todo10a : List Item := segK2 Try.prog ft10 mN Try.f10 [9] 60 [.code (Try.f10.body.getD .skip)] (startF Try.f10 [SL G 0 3]) (fun t _ _ => t) (heapB G [some (.cells [] true)])
noncomputable def todo10b : List Item := segK2 Try.prog ft10 mN Try.f10 [20] 60 todo10a (fr10 1 0 0 0 0) (fun t _ _ => t) (heapB G (hp10 [I 2, I 0, I 0] true 0 0 0 [] [] []))
noncomputable def todo10c : List Item := segK2 Try.prog ft10 mN Try.f10 [22] 60 todo10a (fr10 0 0 0 0 0) (fun t _ _ => t) (heapB G (hp10 [] true 0 0 0 [] [] []))
abbrev leaf10 (La Lb Lc : List Item → List AV → AHeap → Prop) : List Item → List AV → AHeap → Prop := fun t fr h => match t with
  | .code (.region 9 _ _) :: _ => canonT G nt10 (La t) fr h
  | .code (.region 20 _ _) :: _ => canonT G nt10 (Lb t) fr h
  | .code (.region 22 _ _) :: _ => canonT G nt10 (Lc t) fr h
  | _ => False
abbrev seg10 (Q : Post) (La Lb Lc : List Item → List AV → AHeap → Prop) (t : List Item) (fr : List AV) (h : AHeap) : Prop :=
  segK2 Try.prog ft10 (semM (callsOf G cs10) Q) Try.f10 [9, 20, 22] 90 t fr (leaf10 La Lb Lc) h

abbrev obl10 (cl : List Value) (rw : Bool) (ci ch : List Value) (es : List (Value × Value)) : Prop := plr cl rw ∧ pl ci ∧ pl ch ∧ plainB (.map es) ∧ True
abbrev oblE (la : Int) (n m : Nat) (ci ch : List Value) : Prop := (pl ci ∧ pl ch ∧ True) ∧ (pl ch ∧ pl (ints (insE la ci)) ∧ True) ∧ preH n m ci ch
abbrev oblD (la : Int) (n m : Nat) (ci ch cx : List Value) : Prop := (pl ci ∧ pl ch ∧ pl cx ∧ True) ∧ (pl ci ∧ pl cx ∧ pl (prs (k31 la ci ch cx)) ∧ pl (ints (o31 la ci ch cx)) ∧ True) ∧ preD 1 n m ci ch cx
abbrev oblL (t : Int) (n m : Nat) (ci ch : List Value) : Prop := (pl ci ∧ pl ch ∧ True) ∧ (pl (ints (insL t ci)) ∧ pl (prs (kL t ci ch)) ∧ pl (ints (oL t ci ch)) ∧ True) ∧ preH n m ci ch

theorem start10 (q : Nat) (cl : List Value) (rw : Bool) (Q : Post) (La Lb Lc : List Item → List AV → AHeap → Prop) :
    seg10 Q La Lb Lc [.code (Try.f10.body.getD .skip)] (startF Try.f10 [SL G q 3]) (heapB G [some (.cells cl rw)])
    = ((True ∧ True ∧ True) ∧ oblE 0 0 0 [] [] ∧ oblD (w (0 + 1)) 1 0 (ints (insE 0 [])) [] [I (-1)] ∧
        obl10 cl rw (ints (insE 0 [])) (prs (k31 (w (0 + 1)) (ints (insE 0 [])) [] [I (-1)])) [] ∧
        La todo10a (fr10 q 0 0 (w (0 + 1)) 0) (heapB G (hp10 cl rw (w (0 + 1)) 1 (k31 (w (0 + 1)) (ints (insE 0 [])) [] [I (-1)]).length (ints (insE 0 [])) (prs (k31 (w (0 + 1)) (ints (insE 0 [])) [] [I (-1)])) []))) := by kernel_rfl

abbrev okA (cl : List Value) (i : Int) (j : Nat) : Bool := okI .i64 (nth cl (0 + i.toNat * 3 + j))
abbrev acA (cl : List Value) (i : Int) (j : Nat) : Int := intO (nth cl (0 + i.toNat * 3 + j))
abbrev inB (q : Nat) (i : Int) : Bool := decide (0 ≤ i) && decide (i < q)
abbrev kind (x : Int) : Int := (w (x.tmod 4 + 4)).tmod 4
abbrev keysB (es : List (Value × Value)) : Bool := es.all fun e => isKeyI .i64 e.1
abbrev exit10 (Lc : List Item → List AV → AHeap → Prop) (cl : List Value) (rw : Bool) (dr fre fi la : Int) (n m : Nat) (ci ch : List Value) (es : List (Value × Value)) : Prop :=
  obl10 cl rw ci ch es ∧ Lc todo10c (fr10c dr fre fi) (heapB G (hp10 cl rw la n m ci ch es))
theorem head10a (q : Nat) (dr fre fi i la : Int) (n m : Nat) (ci ch : List Value) (es : List (Value × Value)) (cl : List Value) (rw : Bool) (Q : Post) (La Lb Lc : List Item → List AV → AHeap → Prop) :
    seg10 Q La Lb Lc todo10a (fr10 q dr fre fi i) (heapB G (hp10 cl rw la n m ci ch es))
    = (bif decide (i < q) then bif decide (i < 60) then
        (bif inB q i then bif okA cl i 0 then
          (bif (kind (acA cl i 0) == 0) then
            (oblE la n m ci ch ∧ bif keysB es then
              (obl10 cl rw (ints (insE la ci)) ch (upsert (I (w (la + 1))) (.bool true) es) ∧ Lb todo10b (fr10 q dr fre fi i) (heapB G (hp10 cl rw (w (la + 1)) (n + 1) m (ints (insE la ci)) ch (upsert (I (w (la + 1))) (.bool true) es)))) else False)
           else bif (kind (acA cl i 0) == 1) then
            (bif inB q i then bif okA cl i 1 then
              (bif (acA cl i 1 == fi) then (obl10 cl rw ci ch es ∧ La todo10a (fr10 q dr fre fi (w (i + 1))) (heapB G (hp10 cl rw la n m ci ch es)))
               else (bif inB q i then bif okA cl i 1 then bif keysB es then bif inB q i then bif okA cl i 1 then
                (oblL (acA cl i 1) n m ci ch ∧ obl10 cl rw (ints (insL (acA cl i 1) ci)) (prs (kL (acA cl i 1) ci ch)) (eraseK (I (acA cl i 1)) es) ∧
                  Lb todo10b (fr10 q dr (w (fre + (oL (acA cl i 1) ci ch).length)) fi i) (heapB G (hp10 cl rw la (insL (acA cl i 1) ci).length (kL (acA cl i 1) ci ch).length (ints (insL (acA cl i 1) ci)) (prs (kL (acA cl i 1) ci ch)) (eraseK (I (acA cl i 1)) es))))
                else False else False else False else False else False)) else False else False)
           else (oblD la n m ci ch [I i] ∧ obl10 cl rw ci (prs (k31 la ci ch [I i])) es ∧
              Lb todo10b (fr10 q (w (dr + 1)) (w (fre + (o31 la ci ch [I i]).length)) fi i) (heapB G (hp10 cl rw la n (k31 la ci ch [I i]).length ci (prs (k31 la ci ch [I i])) es))))
         else False else False)
       else exit10 Lc cl rw dr fre fi la n m ci ch es else exit10 Lc cl rw dr fre fi la n m ci ch es) := by kernel_rfl

theorem head10b (q : Nat) (dr fre fi i la : Int) (n m : Nat) (ci ch : List Value) (es : List (Value × Value)) (cl : List Value) (rw : Bool) (K : List Value → Prop) (La Lb Lc : List Item → List AV → AHeap → Prop) :
    seg10 (fun rs _ => K rs) La Lb Lc todo10b (fr10 q dr fre fi i) (heapB G (hp10 cl rw la n m ci ch es))
    = (bif !(fre == 0) then K [.bool false] else
        (((pl ci ∧ pl ch ∧ True) ∧ (pl ci ∧ pl ch ∧ True) ∧ (PlainL ci ∧ ch = prs (unP ch) ∧ (unP ch).length = m ∧ m < 1000000000)) ∧
          bif !((unP ch).any fun p => p.1 == -1) then K [.bool false] else
            (((pl ci ∧ pl ch ∧ True) ∧ (pl ci ∧ pl ch ∧ True) ∧ (PlainL ci ∧ PlainL ch)) ∧
              bif !((n : Int) == w (1 + (es.length : Int))) then K [.bool false] else
                (obl10 cl rw ci ch es ∧ La todo10a (fr10 q dr fre fi (w (i + 1))) (heapB G (hp10 cl rw la n m ci ch es)))))) := by kernel_rfl

/-- The code's next region, what comes behind it. -/
def opsOf (t : List Item) : Array Oper := match t with
  | .code (.region _ ops _) :: _ => ops
  | _ => #[]
abbrev ntJ : Nt := { gh := gh10, flags := [true, false, false, false, false, false], paths := [⟨3, [1], true⟩, ⟨3, [2], true⟩], tr := [] }
noncomputable def hpJ (cl : List Value) (rw : Bool) (la : Int) (n m : Nat) (ci ch : List Value) : List (Option ABlk) :=
  [some (.cells cl rw), some (.cells [I la, SL (G + 6) n 1, SL (G + 7) m 2] true), none, none, none, none, some (.cells ci true), some (.cells ch true)]
noncomputable def frJ (dr fre fi : Int) : List AV := frm 111 [(3, .v (PT (G + 1))), (5, .v (I dr)), (6, .v (I fre)), (7, .v (I fi)), (84, .v (PT (G + 5)))]
noncomputable def frJx (dr fre fi x : Int) : List AV := frm 111 [(3, .v (PT (G + 1))), (5, .v (I dr)), (6, .v (I fre)), (7, .v (I fi)), (9, .v (I x)), (84, .v (PT (G + 5)))]
/-- Behind the range's start. -/
noncomputable def frR (dr fre fi : Int) : List AV := putF (putF (maskF (ft10.mask 22) (fr10c dr fre fi)) (some 83) .dead) (some 84) (.v (PT (G + 5)))
noncomputable def hR (cl : List Value) (rw : Bool) (la : Int) (n m : Nat) (ci ch : List Value) (es : List (Value × Value)) : AHeap := { next := G + 5 + 1, tr := ((heapB G (hp10 cl rw la n m ci ch es)).del (G + 4)).tr }
noncomputable def ops22 : Array Oper := opsOf todo10c
noncomputable def todoR : List Item := todo10c.tail
theorem todo10c_eq : todo10c = .code (.region 22 ops22 false) :: todoR := by kernel_rfl
noncomputable def todoJ : List Item := segK2 Try.prog ft10 mN Try.f10 [23] 60 todoR (frR 0 0 0) (fun t _ _ => t) (hR [] true 0 0 0 [] [] [])
noncomputable def ops23 : Array Oper := opsOf todoJ
noncomputable def todoK : List Item := todoJ.tail
theorem todoJ_eq : todoJ = .code (.region 23 ops23 false) :: todoK := by kernel_rfl
noncomputable def frK (dr fre fi : Int) (b : Bool) (xs : List Value) : List AV := (putF (maskF (ft10.mask 23) (frJ dr fre fi)) (some 85) (.tup (.bool b :: xs))).set 86 (.v (.bool b))
noncomputable def todoE : List Item := segK2 Try.prog ft10 mN Try.f10 [24] 60 todoK (frK 0 0 0 true [I 0, .chan none]) (fun t _ _ => t) (heapB G (hpJ [] true 0 0 0 [] []))
noncomputable def ops24 : Array Oper := opsOf todoE
noncomputable def todoF : List Item := todoE.tail
theorem todoE_eq : todoE = .code (.region 24 ops24 false) :: todoF := by kernel_rfl
noncomputable def frE (dr fre fi x : Int) : List AV := ((putF (maskF (ft10.mask 24) (frJ dr fre fi)) (some 87) (.tup [I x, .chan none])).set 88 (.v (I x))).set 9 (.v (I x))

abbrev oblJ (cl : List Value) (rw : Bool) (ci ch : List Value) : Prop := plr cl rw ∧ pl ci ∧ pl ch ∧ True
abbrev leafJ (Lj Le : List Item → List AV → AHeap → Prop) : List Item → List AV → AHeap → Prop := fun t fr h => match t with
  | .code (.region 23 _ _) :: _ => canonT G ntJ (Lj t) fr h
  | .code (.region 24 _ _) :: _ => canonT G ntJ (Le t) fr h
  | _ => False
abbrev segJ (Q : Post) (Lj Le : List Item → List AV → AHeap → Prop) (t : List Item) (fr : List AV) (h : AHeap) : Prop :=
  segK2 Try.prog ft10 (semM (callsOf G cs10) Q) Try.f10 [23, 24] 90 t fr (leafJ Lj Le) h

theorem startR (dr fre fi la : Int) (n m : Nat) (ci ch : List Value) (es : List (Value × Value)) (cl : List Value) (rw : Bool) (Q : Post) (Lj Le : List Item → List AV → AHeap → Prop) :
    segJ Q Lj Le todoR (frR dr fre fi) (hR cl rw la n m ci ch es) = (oblJ cl rw ci ch ∧ Lj todoJ (frJ dr fre fi) (heapB G (hpJ cl rw la n m ci ch))) := by kernel_rfl
theorem next_no (dr fre fi la : Int) (n m : Nat) (ci ch : List Value) (cl : List Value) (rw : Bool) (Q : Post) (K : List AV → AHeap → Prop) :
    opsK Try.prog ft10.loc (semM (callsOf G cs10) Q) ops23 [1] (putF (maskF (ft10.mask 23) (frJ dr fre fi)) (some 85) (.tup [.bool false])) K (heapB G (hpJ cl rw la n m ci ch))
    = K (frK dr fre fi false []) (heapB G (hpJ cl rw la n m ci ch)) := by kernel_rfl
theorem next_yes (dr fre fi la x : Int) (n m : Nat) (ci ch : List Value) (cl : List Value) (rw : Bool) (Q : Post) (K : List AV → AHeap → Prop) :
    opsK Try.prog ft10.loc (semM (callsOf G cs10) Q) ops23 [1] (putF (maskF (ft10.mask 23) (frJ dr fre fi)) (some 85) (.tup [.bool true, I x, .chan none])) K (heapB G (hpJ cl rw la n m ci ch))
    = K (frK dr fre fi true [I x, .chan none]) (heapB G (hpJ cl rw la n m ci ch)) := by kernel_rfl
theorem stepK_yes (dr fre fi la x : Int) (n m : Nat) (ci ch : List Value) (cl : List Value) (rw : Bool) (Q : Post) (Lj Le : List Item → List AV → AHeap → Prop) :
    segJ Q Lj Le todoK (frK dr fre fi true [I x, .chan none]) (heapB G (hpJ cl rw la n m ci ch)) = (oblJ cl rw ci ch ∧ Le todoE (frJ dr fre fi) (heapB G (hpJ cl rw la n m ci ch))) := by kernel_rfl
theorem entry_yes (dr fre fi la x : Int) (n m : Nat) (ci ch : List Value) (cl : List Value) (rw : Bool) (Q : Post) (K : List AV → AHeap → Prop) :
    opsK Try.prog ft10.loc (semM (callsOf G cs10) Q) ops24 [1, 2] (putF (maskF (ft10.mask 24) (frJ dr fre fi)) (some 87) (.tup [I x, .chan none])) K (heapB G (hpJ cl rw la n m ci ch))
    = K (frE dr fre fi x) (heapB G (hpJ cl rw la n m ci ch)) := by kernel_rfl
theorem stepF (dr fre fi la x : Int) (n m : Nat) (ci ch : List Value) (cl : List Value) (rw : Bool) (Q : Post) (Lj Le : List Item → List AV → AHeap → Prop) :
    segJ Q Lj Le todoF (frE dr fre fi x) (heapB G (hpJ cl rw la n m ci ch))
    = (oblL x n m ci ch ∧ oblJ cl rw (ints (insL x ci)) (prs (kL x ci ch)) ∧ Lj todoJ (frJ dr (w (fre + (oL x ci ch).length)) fi) (heapB G (hpJ cl rw la (insL x ci).length (kL x ci ch).length (ints (insL x ci)) (prs (kL x ci ch))))) := by kernel_rfl

theorem exitJ (dr fre fi la : Int) (n m : Nat) (ci ch : List Value) (cl : List Value) (rw : Bool) (K : List Value → Prop) (La Lb Lc : List Item → List AV → AHeap → Prop) :
    seg10 (fun rs _ => K rs) La Lb Lc todoK (frK dr fre fi false []) (heapB G (hpJ cl rw la n m ci ch))
    = (bif !(fre == 0) then K [.bool false] else
        (oblL fi n m ci ch ∧ bif ((oL fi ci ch).length : Int) == w (dr + 1) then
          (((pl (ints (insL fi ci)) ∧ pl (prs (kL fi ci ch)) ∧ True) ∧ (pl (ints (insL fi ci)) ∧ pl (prs (kL fi ci ch)) ∧ True) ∧ (PlainL (ints (insL fi ci)) ∧ PlainL (prs (kL fi ci ch)))) ∧
            bif (((insL fi ci).length : Int) == 0) then
              (((pl (ints (insL fi ci)) ∧ pl (prs (kL fi ci ch)) ∧ True) ∧ (pl (ints (insL fi ci)) ∧ pl (prs (kL fi ci ch)) ∧ pl (ints ((unP (prs (kL fi ci ch))).map (·.1))) ∧ True) ∧ (PlainL (ints (insL fi ci)) ∧ prs (kL fi ci ch) = prs (unP (prs (kL fi ci ch))) ∧ (unP (prs (kL fi ci ch))).length = (kL fi ci ch).length ∧ (kL fi ci ch).length < 1000000000)) ∧
                K [.bool (((kL fi ci ch).length : Int) == 0)])
            else K [.bool false])
         else K [.bool false])) := by kernel_rfl

theorem ok10 : CallsOk Try.prog w0 (callsOf G cs10) := callsOf_ok fun c hc => by
  simp only [cs10, List.mem_cons, List.not_mem_nil, or_false] at hc
  rcases hc with rfl | rfl | rfl | rfl | rfl | rfl | rfl
  · exact con27_ok
  · exact con28_ok
  · exact con29_ok
  · exact con31_ok
  · exact con32_ok
  · exact con35_ok
  · exact con36_ok
abbrev S10 (w0 : World) : List Item → List AV → AHeap → Prop := Agm.Sem Try.prog w0 (Try.prog.globals.size + 1) Try.f10 yes
abbrev SJ (w0 : World) (L : List Int) : List Item → List AV → AHeap → Prop := SemJ Try.prog w0 (It .i64 (G + 5) L) (Try.prog.globals.size + 6) Try.f10 yes
abbrev SE (w0 : World) (x : Int) (L : List Int) : List Item → List AV → AHeap → Prop := SemJ Try.prog w0 (ItE .i64 (G + 5) x L) (Try.prog.globals.size + 6) Try.f10 yes
theorem leaf10_sem (t : List Item) (fr : List AV) (h : AHeap) (x : leaf10 (S10 w0) (S10 w0) (S10 w0) t fr h) : S10 w0 t fr h := by
  unfold leaf10 at x
  split at x
  · exact canonT_sem (nt := nt10) x
  · exact canonT_sem (nt := nt10) x
  · exact canonT_sem (nt := nt10) x
  · exact x.elim
theorem seg10_sem {t : List Item} {fr : List AV} {h : AHeap} (x : seg10 yes (S10 w0) (S10 w0) (S10 w0) t fr h) : S10 w0 t fr h :=
  seg_sem2 (F := ft10) (c := callsOf G cs10) mixed ok10 leaf10_sem [9, 20, 22] 90 x
/-- The same, where more names are kept. -/
theorem seg6_sem {t : List Item} {fr : List AV} {h : AHeap} (x : seg10 yes (fun _ _ _ => False) (fun _ _ _ => False) (fun _ _ _ => False) t fr h) : Agm.Sem Try.prog w0 (Try.prog.globals.size + 6) Try.f10 yes t fr h := by
  refine seg_sem2 (F := ft10) (c := callsOf G cs10) mixed ok10 (fun t fr h x => ?_) [9, 20, 22] 90 x
  unfold leaf10 at x
  split at x
  all_goals first
    | exact x.elim
    | (unfold canonT canonQ at x
       split at x
       · exact x.2.elim
       · exact x.elim)
theorem stJ {L : List Int} : Stable (Try.prog.globals.size + 6) (It .i64 (G + 5) L) := It.stable (Nat.lt_succ_self _)
theorem stE {x : Int} {L : List Int} : Stable (Try.prog.globals.size + 6) (ItE .i64 (G + 5) x L) := ItE.stable (Nat.lt_succ_self _)
theorem segJ_sem {L : List Int} {t : List Item} {fr : List AV} {h : AHeap} (x : segJ yes (SJ w0 L) (fun _ _ _ => False) t fr h) : SJ w0 L t fr h := by
  refine seg_semJ2 (F := ft10) (c := callsOf G cs10) mixed ok10 stJ (fun t fr h x => ?_) [23, 24] 90 x
  unfold leafJ at x
  split at x
  · exact canonT_semJ (nt := ntJ) stJ x
  · unfold canonT canonQ at x
    split at x
    · exact x.2.elim
    · exact x.elim
  · exact x.elim
theorem segE_sem {x : Int} {L : List Int} {t : List Item} {fr : List AV} {h : AHeap} (e : segJ yes (fun _ _ _ => False) (SE w0 x L) t fr h) : SE w0 x L t fr h := by
  refine seg_semJ2 (F := ft10) (c := callsOf G cs10) mixed ok10 stE (fun t fr h x => ?_) [23, 24] 90 e
  unfold leafJ at x
  split at x
  · unfold canonT canonQ at x
    split at x
    · exact x.2.elim
    · exact x.elim
  · exact canonT_semJ (nt := ntJ) stE x
  · exact x.elim

theorem alive1 {T : List Int} {l : List (Int × Int)} (h : ∀ p ∈ l, 1 ≤ p.2) : ∀ p ∈ l, diesB (1 :: T) p.2 = false := fun p hp => by simp [diesB, h p hp]
theorem gone_cons {t x : Int} {T : List Int} (h : x ≠ t) : gone t (x :: T) = x :: gone t T := by
  simp only [gone]; rw [List.filter_cons_of_pos (by simpa using h)]
theorem gone_perm {x : Int} : ∀ {T : List Int}, T.Nodup → x ∈ T → T.Perm (x :: gone x T)
  | [], _, h => by simp at h
  | y :: T, hn, h => by
    obtain ⟨h1, h2⟩ := List.nodup_cons.1 hn
    by_cases hy : y = x
    · subst hy
      simp only [gone]
      rw [List.filter_cons_of_neg (by simp), List.filter_eq_self.2]
      intro z hz
      simp only [Bool.not_eq_true', beq_eq_false_iff_ne, ne_eq]
      rintro rfl
      exact h1 hz
    · have hx : x ∈ T := by
        rcases List.mem_cons.1 h with h | h
        · exact absurd h.symm hy
        · exact h
      rw [gone_cons hy]
      exact ((gone_perm h2 hx).cons y).trans (List.Perm.swap _ _ _)

/-- The holds, the first one inside. -/
noncomputable abbrev hJ (cl : List Value) (rw : Bool) (la : Int) (T : List Int) (l : List (Int × Int)) : AHeap := heapB G (hpJ cl rw la (1 :: T).length l.length (ints (1 :: T)) (prs l))

theorem loopJ (cl : List Value) (rw : Bool) (hcl : PlainL cl) (la : Int) (dr : Nat) (hdr : dr < 1000) (l : List (Int × Int)) (hll : l.length = dr + 1) (hl : ∀ p ∈ l, 1 ≤ p.2) : ∀ (k : Nat) (T L : List Int), L.length = k → T.Perm L → T.Nodup → 1 ∉ T → T.length < 1000 →
    SJ w0 L todoJ (frJ dr 0 1) (hJ cl rw la T l) := by
  have hp0 : plr cl rw := hcl
  intro k
  induction k with
  | zero =>
    intro T L hk hTL _ _ _
    have hL : L = [] := List.length_eq_zero_iff.1 hk
    subst hL
    have hT : T = [] := hTL.eq_nil
    subst hT
    rw [todoJ_eq]
    refine next_semJ (F := ft10) (id := 23) (mk := ft10.mask 23) (o0 := ops23.getD 0 default) (o1 := ops23.getD 1 default) (s := 84) (d := 85) ok10 (by kernel_rfl) (by kernel_rfl) (by kernel_rfl) (by kernel_rfl) (by kernel_rfl) (Nat.lt_succ_self _) (fun _ => ?_) (fun x L' h => ?_)
    · rw [next_no]
      refine Sem.toJ ?_
      apply seg6_sem
      · have hh := exitJ dr 0 1 la 1 l.length (ints [1]) (prs l) cl rw (fun rs => rs = [.bool true]) (fun _ _ _ => False) (fun _ _ _ => False) (fun _ _ _ => False)
        change seg10 (fun rs _ => rs = [.bool true]) _ _ _ _ _ (heapB G (hpJ cl rw la 1 l.length (ints [1]) (prs l)))
        rw [hh]
        have f1 : insL 1 (ints [1]) = [] := rfl
        have f2 : kL 1 (ints [1]) (prs l) = [] := by
          simp only [kL, unP_prs]; rw [f1]
          simp [keptD, diesB]
        have f3 : (oL 1 (ints [1]) (prs l)).length = dr + 1 := by
          simp only [oL, unP_prs]; rw [f1, ← hll]
          simp [freeD, diesB]
        have h4 : (((oL 1 (ints [1]) (prs l)).length : Int) == w ((dr : Int) + 1)) = true := by
          rw [f3, w_id (by omega) (by omega)]; simp
        rw [h4, f1, f2]
        have hz : (0 : Nat) < 1000000000 := by omega
        exact ⟨⟨⟨plain_ints _, plain_prs _, trivial⟩, ⟨plain_ints _, plain_prs _, plain_ints _, trivial⟩, ⟨by rw [unI_ints], rfl, by omega, by rw [unP_prs], by rw [unP_prs], by omega⟩⟩,
          ⟨⟨plain_ints _, plain_prs _, trivial⟩, ⟨plain_ints _, plain_prs _, trivial⟩, plain_ints _, plain_prs _⟩,
          ⟨⟨plain_ints _, plain_prs _, trivial⟩, ⟨plain_ints _, plain_prs _, plain_ints _, trivial⟩, plain_ints _, rfl, rfl, hz⟩, rfl⟩
    · have := h.length_eq
      simp at this
  | succ k ih =>
    intro T L hk hTL hnd h1 hT
    rw [todoJ_eq]
    refine next_semJ (F := ft10) (id := 23) (mk := ft10.mask 23) (o0 := ops23.getD 0 default) (o1 := ops23.getD 1 default) (s := 84) (d := 85) ok10 (by kernel_rfl) (by kernel_rfl) (by kernel_rfl) (by kernel_rfl) (by kernel_rfl) (Nat.lt_succ_self _) (fun h => ?_) (fun x L' h => ?_)
    · rw [h] at hk; simp at hk
    · rw [next_yes]
      refine segE_sem ?_
      rw [stepK_yes]
      refine ⟨⟨hp0, plain_ints _, plain_prs _, trivial⟩, ?_⟩
      rw [todoE_eq]
      refine entry_semJ (F := ft10) (id := 24) (mk := ft10.mask 24) (o0 := ops24.getD 0 default) (o1 := ops24.getD 1 default) (o2 := ops24.getD 2 default) (s := 84) (d := 87) ok10 (by kernel_rfl) (by kernel_rfl) (by kernel_rfl) (by kernel_rfl) (by kernel_rfl) (Nat.lt_succ_self _) ?_
      rw [entry_yes]
      refine segJ_sem ?_
      rw [stepF]
      have hxT : x ∈ T := (hTL.trans h).mem_iff.2 (List.mem_cons_self ..)
      have hx1 : (1 : Int) ≠ x := by rintro rfl; exact h1 hxT
      have hgp := gone_perm hnd hxT
      have f1 : insL x (ints (1 :: T)) = 1 :: gone x T := by simp only [insL, unI_ints]; exact gone_cons hx1
      obtain ⟨q1, q2⟩ := kept_alive (alive1 (T := gone x T) hl)
      have f2 : kL x (ints (1 :: T)) (prs l) = l := by simp only [kL, unP_prs]; rw [f1, q1]
      have f3 : oL x (ints (1 :: T)) (prs l) = [] := by simp only [oL, unP_prs]; rw [f1, q2]
      rw [f1, f2, f3]
      have hlen : (gone x T).length < 1000 := by have := hgp.length_eq; simp at this; omega
      refine ⟨⟨⟨plain_ints _, plain_prs _, trivial⟩, ⟨plain_ints _, plain_prs _, plain_ints _, trivial⟩, ⟨by rw [unI_ints], by rw [ints_len], by simp; omega, by rw [unP_prs], by rw [unP_prs], by omega⟩⟩, ⟨hp0, plain_ints _, plain_prs _, trivial⟩, ?_⟩
      have hw : w (0 + (([] : List Int).length : Int)) = 0 := rfl
      rw [hw]
      refine ih (gone x T) L' ?_ ?_ ?_ ?_ hlen
      · have := h.length_eq; simp at this; omega
      · exact List.Perm.cons_inv ((hgp.symm.trans hTL).trans h)
      · exact hnd.sublist List.filter_sublist
      · intro hh; exact h1 ((List.mem_filter.1 hh).1)

def kv (T : List Int) : List (Value × Value) := T.map fun t => (I t, .bool true)
def acts : List (Int × Int) → List Value
  | [] => []
  | p :: r => I p.1 :: I p.2 :: .chan none :: acts r
theorem acts_len : ∀ l : List (Int × Int), (acts l).length = 3 * l.length
  | [] => rfl
  | p :: r => by simp [acts, acts_len r]; omega
theorem plain_acts : ∀ l : List (Int × Int), PlainL (acts l)
  | [], x, hx => by simp [acts] at hx
  | p :: r, x, hx => by
    simp only [acts, List.mem_cons] at hx
    rcases hx with rfl | rfl | rfl | hx
    · rfl
    · rfl
    · rfl
    · exact plain_acts r x hx
theorem nth_acts : ∀ {l : List (Int × Int)} {i : Nat} (h : i < l.length), nth (acts l) (i * 3) = some (I l[i].1) ∧ nth (acts l) (i * 3 + 1) = some (I l[i].2)
  | p :: r, 0, _ => ⟨rfl, rfl⟩
  | p :: r, i + 1, h => by
    have := nth_acts (l := r) (i := i) (by simpa using h)
    have e : (i + 1) * 3 = i * 3 + 1 + 1 + 1 := by omega
    rw [e]
    exact this
theorem el_acts {l : List (Int × Int)} {i : Nat} (h : i < l.length) : okA (acts l) (i : Int) 0 = true ∧ okA (acts l) (i : Int) 1 = true ∧ acA (acts l) (i : Int) 0 = l[i].1 ∧ acA (acts l) (i : Int) 1 = l[i].2 := by
  obtain ⟨h1, h2⟩ := nth_acts h
  have e0 : 0 + (i : Int).toNat * 3 + 0 = i * 3 := by simp
  have e1 : 0 + (i : Int).toNat * 3 + 1 = i * 3 + 1 := by simp
  refine ⟨?_, ?_, ?_, ?_⟩
  · simp only [okA, e0, h1]; rfl
  · simp only [okA, e1, h2]; rfl
  · simp only [acA, e0, h1]; rfl
  · simp only [acA, e1, h2]; rfl

theorem key_ints {x y : Int} : keyEq (I x) (I y) = (x == y) := by simp [keyEq]
theorem up_kv {t : Int} : ∀ {T : List Int}, t ∉ T → upsert (I t) (.bool true) (kv T) = kv (T ++ [t])
  | [], _ => rfl
  | x :: T, h => by
    simp only [List.mem_cons, not_or] at h
    have hx : (t == x) = false := by simpa using h.1
    have := up_kv (T := T) h.2
    simp only [kv, List.map_cons, List.cons_append, upsert, key_ints, hx, cond_false] at this ⊢
    rw [this]
theorem er_kv {t : Int} : ∀ {T : List Int}, T.Nodup → eraseK (I t) (kv T) = kv (gone t T)
  | [], _ => rfl
  | x :: T, hn => by
    obtain ⟨h1, h2⟩ := List.nodup_cons.1 hn
    by_cases hx : t = x
    · subst hx
      simp only [kv, List.map_cons, eraseK, key_ints, beq_self_eq_true, cond_true, gone]
      rw [List.filter_cons_of_neg (by simp), List.filter_eq_self.2]
      intro z hz
      simp only [Bool.not_eq_true', beq_eq_false_iff_ne, ne_eq]
      rintro rfl
      exact h1 hz
    · have hx' : (t == x) = false := by simpa using hx
      have := er_kv (t := t) h2
      rw [gone_cons (fun e => hx e.symm)]
      simp only [kv, List.map_cons, eraseK, key_ints, hx', cond_false] at this ⊢
      rw [this]
theorem keys_kv (T : List Int) : keysB (kv T) = true := by
  simp only [keysB, kv, List.all_map, List.all_eq_true, Function.comp_apply]
  intro x _; rfl
theorem plain_kv (T : List Int) : plainB (.map (kv T)) := by
  refine ⟨fun x hx => ?_, fun x hx => ?_⟩
  · simp only [kv, List.map_map, List.mem_map, Function.comp_apply] at hx
    obtain ⟨_, _, rfl⟩ := hx; rfl
  · simp only [kv, List.map_map, List.mem_map, Function.comp_apply] at hx
    obtain ⟨_, _, rfl⟩ := hx; rfl
theorem kv_len (T : List Int) : (kv T).length = T.length := List.length_map _

structure I10 (i a : Nat) (T : List Int) (l : List (Int × Int)) (dr : Nat) : Prop where
  nd : T.Nodup
  rng : ∀ t ∈ T, 2 ≤ t ∧ t ≤ (a : Int)
  len : l.length = dr + 1
  at1 : ∀ p ∈ l, 1 ≤ p.2
  has : (l.any fun p => p.1 == -1) = true
  a1 : 1 ≤ a
  ai : a ≤ i + 1
  ti : T.length ≤ i
  di : dr ≤ i

noncomputable abbrev h10 (xs : List (Int × Int)) (rw : Bool) (a : Nat) (T : List Int) (l : List (Int × Int)) : AHeap := heapB G (hp10 (acts xs) rw (a : Int) (1 :: T).length l.length (ints (1 :: T)) (prs l) (kv T))

theorem rangeS (xs : List (Int × Int)) (rw : Bool) (i a dr : Nat) (T : List Int) (l : List (Int × Int)) (hi : i ≤ 60) (hI : I10 i a T l dr) : S10 w0 todo10c (fr10c dr 0 1) (h10 xs rw a T l) := by
  have hn : (h10 xs rw a T l).next = G + 5 := heapB_next G _
  have hg : (h10 xs rw a T l).get (G + 4) = some (.map (kv T)) := by
    show (heapB G _).get _ = _
    rw [heapB_get, if_neg (by omega), Nat.add_sub_cancel_left]; rfl
  rw [todo10c_eq]
  refine range_semJ (kd := .i64) (L := T) (n' := Try.prog.globals.size + 6) (o0 := ops22.getD 0 default) (o1 := ops22.getD 1 default) (s := 4) (d := 83) (e1 := 84) (ty := 63) (kt := 3) (et := 4) (ft10.mask 22) (by kernel_rfl) (by kernel_rfl) (by kernel_rfl) (by kernel_rfl) (by kernel_rfl) (by kernel_rfl) (by kernel_rfl) (by kernel_rfl)
    (n0 := G + 4) (by kernel_rfl) (by kernel_rfl) hg ?_ ?_ (by kernel_rfl) (by omega) ?_
  · simp only [kv, List.map_map]; rfl
  · intro y hy
    simp only [kv, List.map_map, List.mem_map, Function.comp_apply] at hy
    obtain ⟨_, _, rfl⟩ := hy; rfl
  · rw [hn]
    change SJ w0 T todoR (frR dr 0 1) (hR (acts xs) rw (a : Int) (1 :: T).length l.length (ints (1 :: T)) (prs l) (kv T))
    refine segJ_sem ?_
    rw [startR]
    refine ⟨⟨plain_acts xs, plain_ints _, plain_prs _, trivial⟩, ?_⟩
    have h1 := hI.di
    have h2 := hI.ti
    exact loopJ (acts xs) rw (plain_acts xs) a dr (by omega) l hI.len hI.at1 T.length T T rfl (List.Perm.refl _) hI.nd (fun h => by have := (hI.rng 1 h).1; omega) (by omega)

theorem back10 (xs : List (Int × Int)) (rw : Bool) (i a dr : Nat) (T : List Int) (l : List (Int × Int)) (hi : i < 60) (hI : I10 (i + 1) a T l dr) (hA : S10 w0 todo10a (fr10 xs.length dr 0 1 ((i + 1 : Nat) : Int)) (h10 xs rw a T l)) :
    S10 w0 todo10b (fr10 xs.length dr 0 1 (i : Int)) (h10 xs rw a T l) := by
  have h1 := hI.di
  have h2 := hI.ti
  have h3 := hI.len
  apply seg10_sem
  have hh := head10b xs.length dr 0 1 i a (1 :: T).length l.length (ints (1 :: T)) (prs l) (kv T) (acts xs) rw (fun rs => rs = [.bool true]) (S10 w0) (S10 w0) (S10 w0)
  rw [hh, unP_prs, hI.has]
  have hw : w ((i : Int) + 1) = ((i + 1 : Nat) : Int) := by rw [w_id (by omega) (by omega)]; omega
  have hb : ((((1 :: T).length : Nat) : Int) == w (1 + ((kv T).length : Int))) = true := by
    rw [kv_len, w_id (by omega) (by omega), List.length_cons, beq_iff_eq]; omega
  rw [hb, hw]
  exact ⟨⟨⟨plain_ints _, plain_prs _, trivial⟩, ⟨plain_ints _, plain_prs _, trivial⟩, plain_ints _, rfl, rfl, by omega⟩, ⟨⟨plain_ints _, plain_prs _, trivial⟩, ⟨plain_ints _, plain_prs _, trivial⟩, plain_ints _, plain_prs _⟩,
    ⟨plain_acts xs, plain_ints _, plain_prs _, plain_kv T, trivial⟩, hA⟩

theorem loop10 (xs : List (Int × Int)) (rw : Bool) : ∀ (N i a dr : Nat) (T : List Int) (l : List (Int × Int)), i + N = 60 → I10 i a T l dr → S10 w0 todo10a (fr10 xs.length dr 0 1 (i : Int)) (h10 xs rw a T l) := by
  have hp0 : plr (acts xs) rw := plain_acts xs
  intro N
  induction N with
  | zero =>
    intro i a dr T l hi hI
    apply seg10_sem
    have hh := head10a xs.length dr 0 1 i a (1 :: T).length l.length (ints (1 :: T)) (prs l) (kv T) (acts xs) rw yes (S10 w0) (S10 w0) (S10 w0)
    rw [hh]
    have ex : exit10 (S10 w0) (acts xs) rw dr 0 1 a (1 :: T).length l.length (ints (1 :: T)) (prs l) (kv T) := ⟨⟨hp0, plain_ints _, plain_prs _, plain_kv T, trivial⟩, rangeS xs rw i a dr T l (by omega) hI⟩
    have h2 : ¬ ((i : Int) < 60) := by omega
    rw [decide_eq_false h2]
    cases decide ((i : Int) < (xs.length : Int)) with
    | true => exact ex
    | false => exact ex
  | succ N ih =>
    intro i a dr T l hi hI
    apply seg10_sem
    have hh := head10a xs.length dr 0 1 i a (1 :: T).length l.length (ints (1 :: T)) (prs l) (kv T) (acts xs) rw yes (S10 w0) (S10 w0) (S10 w0)
    rw [hh]
    have ex : exit10 (S10 w0) (acts xs) rw dr 0 1 a (1 :: T).length l.length (ints (1 :: T)) (prs l) (kv T) := ⟨⟨hp0, plain_ints _, plain_prs _, plain_kv T, trivial⟩, rangeS xs rw i a dr T l (by omega) hI⟩
    have i1 := hI.a1
    have i2 := hI.ai
    have i3 := hI.ti
    have i4 := hI.di
    have i5 := hI.len
    by_cases hq : (i : Int) < (xs.length : Int)
    · have hlt : i < xs.length := by omega
      have h2 : (i : Int) < 60 := by omega
      have h0 : (0 : Int) ≤ (i : Int) := by omega
      obtain ⟨e1, e2, e3, e4⟩ := el_acts hlt
      have hw : w ((i : Int) + 1) = ((i + 1 : Nat) : Int) := by rw [w_id (by omega) (by omega)]; omega
      have hin : inB xs.length (i : Int) = true := by simp only [inB, h0, hq, decide_true, Bool.and_self]
      rw [decide_eq_true hq, decide_eq_true h2, hin, e1, e2, e3, e4, keys_kv]
      simp only [cond_true]
      by_cases hk0 : kind xs[i].1 = 0
      · have hb : (kind xs[i].1 == 0) = true := by simp [hk0]
        rw [hb, cond_true]
        have hwa : w ((a : Int) + 1) = ((a + 1 : Nat) : Int) := by rw [w_id (by omega) (by omega)]; omega
        have hnew : ((a + 1 : Nat) : Int) ∉ T := fun hh => by have := (hI.rng _ hh).2; omega
        have f1 : insE (a : Int) (ints (1 :: T)) = 1 :: (T ++ [((a + 1 : Nat) : Int)]) := by simp only [insE, unI_ints, hwa]; rfl
        rw [f1, hwa, up_kv hnew]
        have hI' : I10 (i + 1) (a + 1) (T ++ [((a + 1 : Nat) : Int)]) l dr := by
          refine ⟨?_, ?_, i5, hI.at1, hI.has, by omega, by omega, by simp; omega, by omega⟩
          · refine List.nodup_append.2 ⟨hI.nd, by simp, ?_⟩
            intro x hx y hy
            simp only [List.mem_singleton] at hy
            subst hy
            rintro rfl
            exact hnew hx
          · intro t ht
            simp only [List.mem_append, List.mem_singleton] at ht
            rcases ht with ht | rfl
            · have := hI.rng t ht; omega
            · omega
        have hle : (1 :: T).length + 1 = (1 :: (T ++ [((a + 1 : Nat) : Int)])).length := by simp
        rw [hle]
        exact ⟨⟨⟨plain_ints _, plain_prs _, trivial⟩, ⟨plain_prs _, plain_ints _, trivial⟩, ⟨by rw [unI_ints], by rw [ints_len], by simp; omega, by rw [unP_prs], by rw [unP_prs], by omega⟩⟩,
          ⟨hp0, plain_ints _, plain_prs _, plain_kv _, trivial⟩, back10 xs rw i (a + 1) dr _ l (by omega) hI' (ih (i + 1) (a + 1) dr _ l (by omega) hI')⟩
      · have hb : (kind xs[i].1 == 0) = false := by simpa using hk0
        rw [hb, cond_false]
        by_cases hk1 : kind xs[i].1 = 1
        · have hb : (kind xs[i].1 == 1) = true := by simp [hk1]
          rw [hb, cond_true]
          by_cases ht : xs[i].2 = 1
          · have hb : (xs[i].2 == 1) = true := by simp [ht]
            rw [hb, cond_true, hw]
            exact ⟨⟨hp0, plain_ints _, plain_prs _, plain_kv _, trivial⟩, ih (i + 1) a dr T l (by omega) ⟨hI.nd, hI.rng, i5, hI.at1, hI.has, i1, by omega, by omega, by omega⟩⟩
          · have hb : (xs[i].2 == 1) = false := by simpa using ht
            rw [hb, cond_false]
            have f1 : insL xs[i].2 (ints (1 :: T)) = 1 :: gone xs[i].2 T := by simp only [insL, unI_ints]; exact gone_cons (fun e => ht e.symm)
            obtain ⟨q1, q2⟩ := kept_alive (alive1 (T := gone xs[i].2 T) hI.at1)
            have f2 : kL xs[i].2 (ints (1 :: T)) (prs l) = l := by simp only [kL, unP_prs]; rw [f1, q1]
            have f3 : oL xs[i].2 (ints (1 :: T)) (prs l) = [] := by simp only [oL, unP_prs]; rw [f1, q2]
            rw [f1, f2, f3, er_kv hI.nd]
            have hgl := List.length_filter_le (fun x => !(x == xs[i].2)) T
            have hI' : I10 (i + 1) a (gone xs[i].2 T) l dr := ⟨hI.nd.sublist List.filter_sublist, fun t h => hI.rng t (List.mem_filter.1 h).1, i5, hI.at1, hI.has, i1, by omega, by simp only [gone]; omega, by omega⟩
            have hw0 : w (0 + (([] : List Int).length : Int)) = 0 := rfl
            rw [hw0]
            exact ⟨⟨⟨plain_ints _, plain_prs _, trivial⟩, ⟨plain_ints _, plain_prs _, plain_ints _, trivial⟩, ⟨by rw [unI_ints], by rw [ints_len], by simp; omega, by rw [unP_prs], by rw [unP_prs], by omega⟩⟩,
              ⟨hp0, plain_ints _, plain_prs _, plain_kv _, trivial⟩, back10 xs rw i a dr _ l (by omega) hI' (ih (i + 1) a dr _ l (by omega) hI')⟩
        · have hb : (kind xs[i].1 == 1) = false := by simpa using hk1
          rw [hb, cond_false]
          have hat : ∀ p ∈ l ++ [((i : Int), (a : Int))], 1 ≤ p.2 := by
            intro p hp
            simp only [List.mem_append, List.mem_singleton] at hp
            rcases hp with hp | rfl
            · exact hI.at1 p hp
            · simp only; omega
          obtain ⟨q1, q2⟩ := kept_alive (alive1 (T := T) hat)
          have f0 : all31 (a : Int) (prs l) [I (i : Int)] = l ++ [((i : Int), (a : Int))] := by simp only [all31, unP_prs]; rfl
          have f1 : k31 (a : Int) (ints (1 :: T)) (prs l) [I (i : Int)] = l ++ [((i : Int), (a : Int))] := by simp only [k31, unI_ints]; rw [f0, q1]
          have f2 : o31 (a : Int) (ints (1 :: T)) (prs l) [I (i : Int)] = [] := by simp only [o31, unI_ints]; rw [f0, q2]
          have hwd : w ((dr : Int) + 1) = ((dr + 1 : Nat) : Int) := by rw [w_id (by omega) (by omega)]; omega
          have hw0 : w (0 + (([] : List Int).length : Int)) = 0 := rfl
          have p1 : pl [I (i : Int)] := plain_ints [(i : Int)]
          have hI' : I10 (i + 1) a T (l ++ [((i : Int), (a : Int))]) (dr + 1) := ⟨hI.nd, hI.rng, by simp; omega, hat, by rw [List.any_append, hI.has]; rfl, i1, by omega, by omega, by omega⟩
          rw [f1, f2, hwd, hw0]
          exact ⟨⟨⟨plain_ints _, plain_prs _, p1, trivial⟩, ⟨plain_ints _, p1, plain_prs _, plain_ints _, trivial⟩, ⟨by rw [unI_ints], by rw [ints_len], by simp; omega, by rw [unP_prs], by rw [unP_prs], by omega⟩, rfl, rfl, by omega⟩,
            ⟨hp0, plain_ints _, plain_prs _, plain_kv _, trivial⟩, back10 xs rw i a (dr + 1) T _ (by omega) hI' (ih (i + 1) a (dr + 1) T _ (by omega) hI')⟩
    · rw [decide_eq_false hq]
      exact ex

theorem never_true (xs : List (Int × Int)) (rw : Bool) : CallS Try.prog w0 10 [SL G xs.length 3] (heapB Try.prog.globals.size [some (.cells (acts xs) rw)]) yes := by
  have hn : (heapB Try.prog.globals.size [some (.cells (acts xs) rw)]).next = Try.prog.globals.size + 1 := by rw [heapB_next]; rfl
  refine call_sem (fn := Try.f10) (cd := Try.f10.body.getD .skip) Try.func10 (by kernel_rfl) ?_
  rw [hn]
  apply seg10_sem
  have hh := start10 xs.length (acts xs) rw yes (S10 w0) (S10 w0) (S10 w0)
  rw [hh]
  have f1 : insE 0 [] = [1] := rfl
  have e1 : w (0 + 1) = 1 := rfl
  have f2 : k31 1 (ints [1]) [] [I (-1)] = [(-1, 1)] := rfl
  rw [f1, e1, f2]
  have p1 : pl [I (-1)] := plain_ints [-1]
  have hz : (0 : Nat) < 1000000000 := by omega
  have ho : (1 : Nat) < 1000000000 := by omega
  exact ⟨⟨trivial, trivial, trivial⟩, ⟨⟨plain_nil, plain_nil, trivial⟩, ⟨plain_nil, plain_ints _, trivial⟩, rfl, rfl, hz, rfl, rfl, hz⟩,
    ⟨⟨plain_ints _, plain_nil, p1, trivial⟩, ⟨plain_ints _, p1, plain_prs _, plain_ints _, trivial⟩, ⟨rfl, rfl, ho, rfl, rfl, hz⟩, rfl, rfl, ho⟩,
    ⟨plain_acts xs, plain_ints _, plain_prs _, plain_kv [], trivial⟩, loop10 xs rw 60 0 1 0 [] [(-1, 1)] rfl ⟨List.nodup_nil, fun t h => by simp at h, rfl, fun p hp => by simp at hp; subst hp; simp, rfl, by omega, by omega, by simp, by omega⟩⟩
end Go.Proofs.Ytdggbficiakbhaa
