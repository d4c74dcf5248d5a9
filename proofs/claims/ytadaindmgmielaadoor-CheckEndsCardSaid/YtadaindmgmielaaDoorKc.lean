/- check.Program: words. No condition. -/
import Derived.Test.YtadaindmgmielaaDoorKb
import Derived.Test.YtadaindmgmielaaDoorKasc
namespace Go.Proofs.YtadaindmgmielaaDoor
open Go.Agm
variable {w0 : World}
noncomputable abbrev cs10 : List Con := [con22, con23, con24, con25, con26]
noncomputable def ft10 : FT := { loc := fun _ => false, mask := fun id => bif Nat.beq id 7 then live 105 [0, 2, 7] else bif Nat.beq id 13 then live 105 [2, 7, 60, 61] else bif Nat.beq id 22 then live 105 [2, 10, 83, 84, 85] else [] }
abbrev pt10 : List Pth := [⟨2, [], false⟩, ⟨7, [], false⟩, ⟨7, [1], true⟩, ⟨7, [2], true⟩, ⟨7, [3], true⟩]
abbrev nt10 : Nt := { gh := [], flags := [true], paths := pt10, tr := [] }
abbrev nt10c : Nt := { gh := [⟨10, some ([], 1), 8⟩, ⟨10, some ([], 2), 16⟩], flags := [true], paths := [⟨2, [], false⟩, ⟨10, [], false⟩, ⟨83, [], true⟩, ⟨10, [1], true⟩, ⟨10, [2], true⟩], tr := [(10, [1]), (10, [2])] }
abbrev ntR : Nt := { gh := [], flags := [true], paths := [], tr := [] }
abbrev ntO : Nt := { gh := [], flags := [true], paths := [⟨0, [1], true⟩, ⟨0, [2], true⟩], tr := [] }
noncomputable def todo10a : List Item := todoOf Tryd.f10 7
noncomputable def todo10b : List Item := todoOf Tryd.f10 13
noncomputable def todo10c : List Item := todoOf Tryd.f10 22
/-- The answer: with a table, or without one. -/
abbrev post2 (K1 K2 : List Value → AHeap → Prop) : Post := fun rs h => match rs with
  | [.agg cs, _, _] => match nth cs.toList 1 with
    | some (.slice none _ _) => retT G ntR K1 rs h
    | _ => retT G ntO K2 rs h
  | _ => False
abbrev seg10 (K1 K2 : List Value → AHeap → Prop) (L : List Item → List AV → AHeap → Prop) (t : List Item) (fr : List AV) (h : AHeap) : Prop :=
  segK3 Tryd.prog ft10 (semI Tryd.prog (fun _ => ft0) (callsOf G cs10) 400 20 (post2 K1 K2)) Tryd.f10 [7, 13, 22] 400 t fr (fun t fr h => match t with
  | .code (.region 22 _ _) :: _ => canonT G nt10c (L t) fr h
  | .code (.region _ _ _) :: _ => canonT G nt10 (L t) fr h
  | _ => False) h
/-- The blocks at work: the program, the answer, the checker's. -/
noncomputable def bs10 (n : Nat) (cl : List Value) (rw : Bool) (cp ce cst : List Value) : List (Option ABlk) :=
  [some (.cells cl rw), some (.cells [I 0, .slice none 0 0, .slice none 0 0] true), some (.cells [SL G n 4, SL (G + 3) n 1, SL (G + 4) n 1, SL (G + 5) n 25] true), some (.cells cp true), some (.cells ce true), some (.cells cst true)]
noncomputable def fr10a (n : Nat) : List AV := frm 105 [(0, .v (SL G n 4)), (2, .v (PT (G + 1))), (7, .v (PT (G + 2)))]
noncomputable def fr10b (n : Nat) (i : Int) : List AV := frm 105 [(2, .v (PT (G + 1))), (7, .v (PT (G + 2))), (60, .v (I n)), (61, .v (I i))]
noncomputable def bs10c (cl : List Value) (rw : Bool) (v : Int) (m : Nat) (cst kn sp : List Value) : List (Option ABlk) :=
  [some (.cells cl rw), some (.cells [I 0, .slice none 0 0, .slice none 0 0] true), some (.cells [I v, SL (G + 4) m 8, SL (G + 5) m 16] true), some (.cells cst true), some (.cells kn true), some (.cells sp true)]
noncomputable def fr10c (n : Nat) (i : Int) : List AV := frm 105 [(2, .v (PT (G + 1))), (10, .v (PT (G + 2))), (83, .v (SL (G + 3) n 25)), (84, .v (I n)), (85, .v (I i))]

abbrev zer (n : Nat) : List Value := (List.replicate (n : Int).toNat [I 0]).flatten
abbrev zst (n : Nat) : List Value := (List.replicate (n : Int).toNat [B false, B false, B false, B false, B false, B false, B false, B false, B false, I 0, I 0, I 0, I 0, I 0, I 0, I 0, I 0, I 0, I 0, I 0, I 0, I 0, I 0, I 0, I 0]).flatten
abbrev kr (cst : List Value) (i : Int) : List Value := [B (boolO (nth cst (0 + i.toNat * 25 + 1))), B (boolO (nth cst (0 + i.toNat * 25 + 2))), B (boolO (nth cst (0 + i.toNat * 25 + 3))), B (boolO (nth cst (0 + i.toNat * 25 + 4))), B (boolO (nth cst (0 + i.toNat * 25 + 5))), B (boolO (nth cst (0 + i.toNat * 25 + 6))), B (boolO (nth cst (0 + i.toNat * 25 + 7))), B (boolO (nth cst (0 + i.toNat * 25 + 8)))]
abbrev sr (cst : List Value) (i : Int) : List Value := [I (intO (nth cst (0 + i.toNat * 25 + 9))), I (intO (nth cst (0 + i.toNat * 25 + 10))), I (intO (nth cst (0 + i.toNat * 25 + 11))), I (intO (nth cst (0 + i.toNat * 25 + 12))), I (intO (nth cst (0 + i.toNat * 25 + 13))), I (intO (nth cst (0 + i.toNat * 25 + 14))), I (intO (nth cst (0 + i.toNat * 25 + 15))), I (intO (nth cst (0 + i.toNat * 25 + 16))), I (intO (nth cst (0 + i.toNat * 25 + 17))), I (intO (nth cst (0 + i.toNat * 25 + 18))), I (intO (nth cst (0 + i.toNat * 25 + 19))), I (intO (nth cst (0 + i.toNat * 25 + 20))), I (intO (nth cst (0 + i.toNat * 25 + 21))), I (intO (nth cst (0 + i.toNat * 25 + 22))), I (intO (nth cst (0 + i.toNat * 25 + 23))), I (intO (nth cst (0 + i.toNat * 25 + 24)))]
theorem start10 (n : Nat) (cl : List Value) (rw : Bool) (K1 K2 : List Value → AHeap → Prop) (L : List Item → List AV → AHeap → Prop) :
    seg10 K1 K2 L [.code (Tryd.f10.body.getD .skip)] (startF Tryd.f10 [SL G n 4]) (heapB G [some (.cells cl rw)])
    = (((PlainL cl ∧ True) ∧ (PlainL cl ∧ True) ∧ cl = insC (unIns cl) ∧ (unIns cl).length = n ∧ n ≤ 128 ∧ ∀ (x : Ins), x ∈ unIns cl → right x = true) ∧
      bif (↑n : Int) == 0 then
      (PlainL cl ∧ True) ∧ K1 [AG [I 0, Value.slice none 0 0, Value.slice none 0 0], I 0, Value.iface 77 (I 11)] (heapB G [some (ABlk.cells cl rw)])
    else (bif decide (0 ≤ (↑n : Int)) && decide ((↑n : Int) ≤ (↑n : Int)) && decide ((↑n : Int) ≤ 1099511627776) && room (↑n : Int).toNat 8 then
      bif (↑n : Int) == (↑n : Int) && ((↑n : Int) == (↑n : Int) && true) then
      bif decide (0 ≤ (↑n : Int)) && decide ((↑n : Int) ≤ (↑n : Int)) && decide ((↑n : Int) ≤ 1099511627776) && room (↑n : Int).toNat 8 then
      bif (↑n : Int) == (↑n : Int) && true then
      bif decide (0 ≤ (↑n : Int)) && decide ((↑n : Int) ≤ (↑n : Int)) && decide ((↑n : Int) ≤ 1099511627776) && room (↑n : Int).toNat 144 then
      (PlainL cl ∧ PlainL (zer n) ∧ PlainL (zer n) ∧ PlainL (zst n) ∧ True) ∧ L todo10a (frm 105 [(0, AV.v (SL G n 4)), (2, AV.v (PT (G + 1))), (7, AV.v (PT (G + 2)))]) (heapB G (bs10 n cl rw (zer n) (zer n) (zst n)))
    else False
    else False
    else False
    else False
    else False) ∧ (bif decide (0 ≤ (↑n : Int)) && decide ((↑n : Int) ≤ (↑n : Int)) && decide ((↑n : Int) ≤ 1099511627776) && room (↑n : Int).toNat 8 then
      bif (↑n : Int) == (↑n : Int) && ((↑n : Int) == (↑n : Int) && true) then
      bif decide (0 ≤ (↑n : Int)) && decide ((↑n : Int) ≤ (↑n : Int)) && decide ((↑n : Int) ≤ 1099511627776) && room (↑n : Int).toNat 144 then
      bif (↑n : Int) == (↑n : Int) && true then
      bif decide (0 ≤ (↑n : Int)) && decide ((↑n : Int) ≤ (↑n : Int)) && decide ((↑n : Int) ≤ 1099511627776) && room (↑n : Int).toNat 8 then
      (PlainL cl ∧ PlainL (zer n) ∧ PlainL (zer n) ∧ PlainL (zst n) ∧ True) ∧ L todo10a (frm 105 [(0, AV.v (SL G n 4)), (2, AV.v (PT (G + 1))), (7, AV.v (PT (G + 2)))]) (heapB G (bs10 n cl rw (zer n) (zer n) (zst n)))
    else False
    else False
    else False
    else False
    else False) ∧ (bif decide (0 ≤ (↑n : Int)) && decide ((↑n : Int) ≤ (↑n : Int)) && decide ((↑n : Int) ≤ 1099511627776) && room (↑n : Int).toNat 8 then
      bif (↑n : Int) == (↑n : Int) && ((↑n : Int) == (↑n : Int) && true) then
      bif decide (0 ≤ (↑n : Int)) && decide ((↑n : Int) ≤ (↑n : Int)) && decide ((↑n : Int) ≤ 1099511627776) && room (↑n : Int).toNat 8 then
      bif (↑n : Int) == (↑n : Int) && true then
      bif decide (0 ≤ (↑n : Int)) && decide ((↑n : Int) ≤ (↑n : Int)) && decide ((↑n : Int) ≤ 1099511627776) && room (↑n : Int).toNat 144 then
      (PlainL cl ∧ PlainL (zer n) ∧ PlainL (zer n) ∧ PlainL (zst n) ∧ True) ∧ L todo10a (frm 105 [(0, AV.v (SL G n 4)), (2, AV.v (PT (G + 1))), (7, AV.v (PT (G + 2)))]) (heapB G (bs10 n cl rw (zer n) (zer n) (zst n)))
    else False
    else False
    else False
    else False
    else False) ∧ (bif decide (0 ≤ (↑n : Int)) && decide ((↑n : Int) ≤ (↑n : Int)) && decide ((↑n : Int) ≤ 1099511627776) && room (↑n : Int).toNat 8 then
      bif (↑n : Int) == (↑n : Int) && ((↑n : Int) == (↑n : Int) && true) then
      bif decide (0 ≤ (↑n : Int)) && decide ((↑n : Int) ≤ (↑n : Int)) && decide ((↑n : Int) ≤ 1099511627776) && room (↑n : Int).toNat 144 then
      bif (↑n : Int) == (↑n : Int) && true then
      bif decide (0 ≤ (↑n : Int)) && decide ((↑n : Int) ≤ (↑n : Int)) && decide ((↑n : Int) ≤ 1099511627776) && room (↑n : Int).toNat 8 then
      (PlainL cl ∧ PlainL (zer n) ∧ PlainL (zer n) ∧ PlainL (zst n) ∧ True) ∧ L todo10a (frm 105 [(0, AV.v (SL G n 4)), (2, AV.v (PT (G + 1))), (7, AV.v (PT (G + 2)))]) (heapB G (bs10 n cl rw (zer n) (zer n) (zst n)))
    else False
    else False
    else False
    else False
    else False) ∧ (bif decide (0 ≤ (↑n : Int)) && decide ((↑n : Int) ≤ (↑n : Int)) && decide ((↑n : Int) ≤ 1099511627776) && room (↑n : Int).toNat 144 then
      bif (↑n : Int) == (↑n : Int) && ((↑n : Int) == (↑n : Int) && true) then
      bif decide (0 ≤ (↑n : Int)) && decide ((↑n : Int) ≤ (↑n : Int)) && decide ((↑n : Int) ≤ 1099511627776) && room (↑n : Int).toNat 8 then
      bif (↑n : Int) == (↑n : Int) && true then
      bif decide (0 ≤ (↑n : Int)) && decide ((↑n : Int) ≤ (↑n : Int)) && decide ((↑n : Int) ≤ 1099511627776) && room (↑n : Int).toNat 8 then
      (PlainL cl ∧ PlainL (zer n) ∧ PlainL (zer n) ∧ PlainL (zst n) ∧ True) ∧ L todo10a (frm 105 [(0, AV.v (SL G n 4)), (2, AV.v (PT (G + 1))), (7, AV.v (PT (G + 2)))]) (heapB G (bs10 n cl rw (zer n) (zer n) (zst n)))
    else False
    else False
    else False
    else False
    else False) ∧
      bif decide (0 ≤ (↑n : Int)) && decide ((↑n : Int) ≤ (↑n : Int)) && decide ((↑n : Int) ≤ 1099511627776) && room (↑n : Int).toNat 144 then
      bif (↑n : Int) == (↑n : Int) && ((↑n : Int) == (↑n : Int) && true) then
      bif decide (0 ≤ (↑n : Int)) && decide ((↑n : Int) ≤ (↑n : Int)) && decide ((↑n : Int) ≤ 1099511627776) && room (↑n : Int).toNat 8 then
      bif (↑n : Int) == (↑n : Int) && true then
      bif decide (0 ≤ (↑n : Int)) && decide ((↑n : Int) ≤ (↑n : Int)) && decide ((↑n : Int) ≤ 1099511627776) && room (↑n : Int).toNat 8 then
      (PlainL cl ∧ PlainL (zer n) ∧ PlainL (zer n) ∧ PlainL (zst n) ∧ True) ∧ L todo10a (frm 105 [(0, AV.v (SL G n 4)), (2, AV.v (PT (G + 1))), (7, AV.v (PT (G + 2)))]) (heapB G (bs10 n cl rw (zer n) (zer n) (zst n)))
    else False
    else False
    else False
    else False
    else False) := by kernel_rfl

theorem mid10 (n : Nat) (cl : List Value) (rw : Bool) (cp ce cst : List Value) (K1 K2 : List Value → AHeap → Prop) (L : List Item → List AV → AHeap → Prop) :
    seg10 K1 K2 L todo10a (fr10a n) (heapB G (bs10 n cl rw cp ce cst))
    = (((PlainL cl ∧ PlainL cp ∧ PlainL ce ∧ PlainL cst ∧ True) ∧ (PlainL cl ∧ PlainL (ints (loopF (unIns cl) (n + 1) 0 [] (unI cp) (unI ce)).snd.fst) ∧ PlainL (ints (loopF (unIns cl) (n + 1) 0 [] (unI cp) (unI ce)).snd.snd) ∧ PlainL cst ∧ True) ∧ (n = n ∧ n = n ∧ n = n) ∧ cl = insC (unIns cl) ∧ (unIns cl).length = n ∧ n < 1000000000 ∧ PlainL cst ∧ cp = ints (unI cp) ∧ (unI cp).length = n ∧ ce = ints (unI ce) ∧ (unI ce).length = n) ∧
      bif decide ((loopF (unIns cl) (n + 1) 0 [] (unI cp) (unI ce)).fst ≥ 0) then
      (PlainL cl ∧ True) ∧ K1 [AG [I 0, Value.slice none 0 0, Value.slice none 0 0], I (loopF (unIns cl) (n + 1) 0 [] (unI cp) (unI ce)).fst, Value.iface 77 (I 11)] (heapB G [some (ABlk.cells cl rw)])
    else bif decide (0 < (↑n : Int)) then
      bif Nat.ble 1 cst.length then
      bif decide (0 < (↑n : Int)) then
      ((PlainL (splice cst 0 [B true]) ∧ True) ∧ (PlainL (setA (splice cst 0 [B true]) 0 1 0 16) ∧ True) ∧ (0 : Int) ≤ 1 ∧ (1 : Int) < 8 ∧ 25 ≤ (splice cst 0 [B true]).length ∧ PlainL (splice cst 0 [B true])) ∧ (PlainL cl ∧ PlainL (ints (loopF (unIns cl) (n + 1) 0 [] (unI cp) (unI ce)).snd.fst) ∧ PlainL (ints (loopF (unIns cl) (n + 1) 0 [] (unI cp) (unI ce)).snd.snd) ∧ PlainL (setA (splice cst 0 [B true]) 0 1 0 16) ∧ True) ∧ L todo10b (frm 105 [(2, AV.v (PT (G + 1))), (7, AV.v (PT (G + 2))), (60, AV.v (I (↑n : Int))), (61, AV.v (I 0))]) (heapB G [some (ABlk.cells cl rw), some (ABlk.cells [I 0, Value.slice none 0 0, Value.slice none 0 0] true), some (ABlk.cells [SL G n 4, SL (G + 3) n 1, SL (G + 4) n 1, SL (G + 5) n 25] true), some (ABlk.cells (ints (loopF (unIns cl) (n + 1) 0 [] (unI cp) (unI ce)).snd.fst) true), some (ABlk.cells (ints (loopF (unIns cl) (n + 1) 0 [] (unI cp) (unI ce)).snd.snd) true), some (ABlk.cells (setA (splice cst 0 [B true]) 0 1 0 16) true)])
    else False
    else False
    else False) := by kernel_rfl

theorem head10 (i : Int) (n : Nat) (cl : List Value) (rw : Bool) (cp ce cst : List Value) (K1 K2 : List Value → AHeap → Prop) (L : List Item → List AV → AHeap → Prop) :
    seg10 K1 K2 L todo10b (fr10b n i) (heapB G (bs10 n cl rw cp ce cst))
    = (bif decide (i < (↑n : Int)) then
      ((PlainL cl ∧ PlainL cp ∧ PlainL ce ∧ PlainL cst ∧ True) ∧ (PlainL cl ∧ PlainL cp ∧ PlainL ce ∧ PlainL (stepF (unIns cl) (unI cp) (unI ce) i.toNat cst).snd ∧ True) ∧ (n = n ∧ n = n ∧ n = n) ∧ CkOk n cl cp ce cst ∧ 0 ≤ i ∧ i < (↑n : Int)) ∧
      bif !(stepF (unIns cl) (unI cp) (unI ce) i.toNat cst).fst then
      (PlainL cl ∧ True) ∧ K1 [AG [I 0, Value.slice none 0 0, Value.slice none 0 0], I i, Value.iface 77 (I 11)] (heapB G [some (ABlk.cells cl rw)])
    else (PlainL cl ∧ PlainL cp ∧ PlainL ce ∧ PlainL (stepF (unIns cl) (unI cp) (unI ce) i.toNat cst).snd ∧ True) ∧ L todo10b (frm 105 [(2, AV.v (PT (G + 1))), (7, AV.v (PT (G + 2))), (60, AV.v (I (↑n : Int))), (61, AV.v (I (w (i + 1))))]) (heapB G [some (ABlk.cells cl rw), some (ABlk.cells [I 0, Value.slice none 0 0, Value.slice none 0 0] true), some (ABlk.cells [SL G n 4, SL (G + 3) n 1, SL (G + 4) n 1, SL (G + 5) n 25] true), some (ABlk.cells cp true), some (ABlk.cells ce true), some (ABlk.cells (stepF (unIns cl) (unI cp) (unI ce) i.toNat cst).snd true)])
    else ((PlainL cl ∧ PlainL cp ∧ PlainL ce ∧ PlainL cst ∧ True) ∧ (PlainL cl ∧ PlainL cp ∧ PlainL ce ∧ PlainL cst ∧ True) ∧ (n = n ∧ n = n ∧ n = n) ∧ cl = insC (unIns cl) ∧ (unIns cl).length = n ∧ n < 1000000000 ∧ PlainL ce ∧ PlainL cst ∧ cp = ints (unI cp) ∧ LpOk (unI cp) n) ∧
      bif decide (fuelF (unIns cl) (unI cp) (n + 1) 0 (0 : Int) > 4096) then
      (PlainL cl ∧ True) ∧ K1 [AG [I 0, Value.slice none 0 0, Value.slice none 0 0], I 0, Value.iface 77 (I 12)] (heapB G [some (ABlk.cells cl rw)])
    else (PlainL cl ∧ PlainL cst ∧ PlainL [] ∧ PlainL [] ∧ True) ∧ L todo10c (frm 105 [(2, AV.v (PT (G + 1))), (10, AV.v (PT (G + 2))), (83, AV.v (SL (G + 3) n 25)), (84, AV.v (I (↑n : Int))), (85, AV.v (I 0))]) (heapB G [some (ABlk.cells cl rw), some (ABlk.cells [I 0, Value.slice none 0 0, Value.slice none 0 0] true), some (ABlk.cells [I (fuelF (unIns cl) (unI cp) (n + 1) 0 0), SL (G + 4) 0 8, SL (G + 5) 0 16] true), some (ABlk.cells cst true), some (ABlk.cells [] true), some (ABlk.cells [] true)])) := by kernel_rfl


theorem tail10 (i v : Int) (m n : Nat) (cl : List Value) (rw : Bool) (cst kn sp : List Value) (K1 K2 : List Value → AHeap → Prop) (L : List Item → List AV → AHeap → Prop) :
    seg10 K1 K2 L todo10c (fr10c n i) (heapB G (bs10c cl rw v m cst kn sp))
    = (bif decide (i < (↑n : Int)) then
      bif decide (0 ≤ i) && decide (i < (↑n : Int)) then
      bif (0 + i.toNat * 25 + 25).ble cst.length && okS cst i then
      (bif (9 + 16).ble (sta cst i).length && true && veq 4 (AG (sr cst i)) (AG (sr cst i)) && (veq 4 (SL (G + 5) m 16) (SL (G + 5) m 16) && (veq 4 (SL (G + 4) m 8) (SL (G + 4) m 8) && true)) then
      bif room (m + 1) 8 then
      bif (0 + m * 8).ble kn.length then
      bif (9 + 16).ble (sta cst i).length && true && veq 4 (AG (sr cst i)) (AG (sr cst i)) && (veq 4 (SL (G + 5) m 16) (SL (G + 5) m 16) && true) then
      bif veq 4 (SL (G + 5) m 16) (SL (G + 5) m 16) && true then
      bif room (m + 1) 128 then
      bif (0 + m * 16).ble sp.length then
      (PlainL cl ∧ PlainL cst ∧ PlainL (List.take ((m + 1) * 8) (List.take (m * 8) (List.drop 0 kn) ++ (kr cst i))) ∧ PlainL (List.take ((m + 1) * 16) (List.take (m * 16) (List.drop 0 sp) ++ (sr cst i))) ∧ True) ∧ L todo10c (frm 105 [(2, AV.v (PT (G + 1))), (10, AV.v (PT (G + 2))), (83, AV.v (SL (G + 3) n 25)), (84, AV.v (I (↑n : Int))), (85, AV.v (I (w (i + 1))))]) (heapB G [some (ABlk.cells cl rw), some (ABlk.cells [I 0, Value.slice none 0 0, Value.slice none 0 0] true), some (ABlk.cells [I v, SL (G + 4) (m + 1) 8, SL (G + 5) (m + 1) 16] true), some (ABlk.cells cst true), some (ABlk.cells (List.take ((m + 1) * 8) (List.take (m * 8) (List.drop 0 kn) ++ (kr cst i))) true), some (ABlk.cells (List.take ((m + 1) * 16) (List.take (m * 16) (List.drop 0 sp) ++ (sr cst i))) true)])
    else False
    else False
    else False
    else False
    else False
    else False
    else False) ∧ (bif (9 + 16).ble (sta cst i).length && true && veq 4 (AG (sr cst i)) (AG (sr cst i)) && (veq 4 (SL (G + 5) m 16) (SL (G + 5) m 16) && (veq 4 (SL (G + 4) m 8) (SL (G + 4) m 8) && true)) then
      bif veq 4 (SL (G + 5) m 16) (SL (G + 5) m 16) && (veq 4 (SL (G + 4) m 8) (SL (G + 4) m 8) && true) then
      bif room (m + 1) 8 then
      bif (0 + m * 8).ble kn.length then
      bif veq 4 (SL (G + 5) m 16) (SL (G + 5) m 16) && true then
      bif room (m + 1) 128 then
      bif (0 + m * 16).ble sp.length then
      (PlainL cl ∧ PlainL cst ∧ PlainL (List.take ((m + 1) * 8) (List.take (m * 8) (List.drop 0 kn) ++ (kr cst i))) ∧ PlainL (List.take ((m + 1) * 16) (List.take (m * 16) (List.drop 0 sp) ++ (sr cst i))) ∧ True) ∧ L todo10c (frm 105 [(2, AV.v (PT (G + 1))), (10, AV.v (PT (G + 2))), (83, AV.v (SL (G + 3) n 25)), (84, AV.v (I (↑n : Int))), (85, AV.v (I (w (i + 1))))]) (heapB G [some (ABlk.cells cl rw), some (ABlk.cells [I 0, Value.slice none 0 0, Value.slice none 0 0] true), some (ABlk.cells [I v, SL (G + 4) (m + 1) 8, SL (G + 5) (m + 1) 16] true), some (ABlk.cells cst true), some (ABlk.cells (List.take ((m + 1) * 8) (List.take (m * 8) (List.drop 0 kn) ++ (kr cst i))) true), some (ABlk.cells (List.take ((m + 1) * 16) (List.take (m * 16) (List.drop 0 sp) ++ (sr cst i))) true)])
    else False
    else False
    else False
    else False
    else False
    else False
    else False) ∧
      bif veq 4 (SL (G + 5) m 16) (SL (G + 5) m 16) && ((1 + 8).ble (sta cst i).length && true && veq 4 (AG (kr cst i)) (AG (kr cst i)) && (veq 4 (SL (G + 4) m 8) (SL (G + 4) m 8) && true)) then
      bif veq 4 (SL (G + 5) m 16) (SL (G + 5) m 16) && (veq 4 (SL (G + 4) m 8) (SL (G + 4) m 8) && true) then
      bif room (m + 1) 8 then
      bif (0 + m * 8).ble kn.length then
      bif veq 4 (SL (G + 5) m 16) (SL (G + 5) m 16) && true then
      bif room (m + 1) 128 then
      bif (0 + m * 16).ble sp.length then
      (PlainL cl ∧ PlainL cst ∧ PlainL (List.take ((m + 1) * 8) (List.take (m * 8) (List.drop 0 kn) ++ (kr cst i))) ∧ PlainL (List.take ((m + 1) * 16) (List.take (m * 16) (List.drop 0 sp) ++ (sr cst i))) ∧ True) ∧ L todo10c (frm 105 [(2, AV.v (PT (G + 1))), (10, AV.v (PT (G + 2))), (83, AV.v (SL (G + 3) n 25)), (84, AV.v (I (↑n : Int))), (85, AV.v (I (w (i + 1))))]) (heapB G [some (ABlk.cells cl rw), some (ABlk.cells [I 0, Value.slice none 0 0, Value.slice none 0 0] true), some (ABlk.cells [I v, SL (G + 4) (m + 1) 8, SL (G + 5) (m + 1) 16] true), some (ABlk.cells cst true), some (ABlk.cells (List.take ((m + 1) * 8) (List.take (m * 8) (List.drop 0 kn) ++ (kr cst i))) true), some (ABlk.cells (List.take ((m + 1) * 16) (List.take (m * 16) (List.drop 0 sp) ++ (sr cst i))) true)])
    else False
    else False
    else False
    else False
    else False
    else False
    else False
    else False
    else False
    else (PlainL cl ∧ PlainL kn ∧ PlainL sp ∧ True) ∧ K2 [AG [I v, SL (G + 1) m 8, SL (G + 2) m 16], I 0, Value.nilIface] (heapB G [some (ABlk.cells cl rw), some (ABlk.cells kn true), some (ABlk.cells sp true)])) := by kernel_rfl

/-- The walk over the program: the place that is wrong, or -1; the states. -/
def walkF (l : List Ins) (lp en : List Int) : Nat → Nat → List Value → Int × List Value
  | 0, _, cst => (-1, cst)
  | f + 1, i, cst => bif decide (i < l.length) then (bif !(stepF l lp en i cst).1 then ((i : Int), cst) else walkF l lp en f (i + 1) (stepF l lp en i cst).2) else (-1, cst)
def nul (n : Nat) : List Int := List.replicate n 0
def lo0 (l : List Ins) : Int × List Int × List Int := loopF l (l.length + 1) 0 [] (nul l.length) (nul l.length)
def st0 (n : Nat) : List Value := setA (splice (zst n) 0 [B true]) 0 1 0 16
def wk (l : List Ins) : Int × List Value := walkF l (lo0 l).2.1 (lo0 l).2.2 (l.length + 1) 0 (st0 l.length)
def fu (l : List Ins) : Int := fuelF l (lo0 l).2.1 (l.length + 1) 0 0
def knR (cst : List Value) : Nat → Nat → List Value
  | 0, _ => []
  | k + 1, i => kr cst i ++ knR cst k (i + 1)
def spR (cst : List Value) : Nat → Nat → List Value
  | 0, _ => []
  | k + 1, i => sr cst i ++ spR cst k (i + 1)

theorem zer_ints (n : Nat) : zer n = ints (nul n) := by
  unfold zer nul ints
  rw [Int.toNat_natCast]
  induction n with
  | zero => rfl
  | succ n ih => rw [List.replicate_succ, List.flatten_cons, ih]; rfl
abbrev z25 : List Value := [B false, B false, B false, B false, B false, B false, B false, B false, B false, I 0, I 0, I 0, I 0, I 0, I 0, I 0, I 0, I 0, I 0, I 0, I 0, I 0, I 0, I 0, I 0]
theorem zst_len (n : Nat) : (zst n).length = n * 25 := by
  unfold zst
  rw [Int.toNat_natCast]
  induction n with
  | zero => rfl
  | succ n ih => rw [List.replicate_succ, List.flatten_cons, List.length_append, ih]; simp; omega
theorem zst_nth (n : Nat) : ∀ k j, k < n → j < 25 → nth (zst n) (k * 25 + j) = nth z25 j := by
  unfold zst
  rw [Int.toNat_natCast]
  induction n with
  | zero => intro k j h; omega
  | succ n ih =>
    intro k j hk hj
    rw [List.replicate_succ, List.flatten_cons, nth_eq]
    cases k with
    | zero => rw [List.getElem?_append_left (by simp; omega), nth_eq]; simp
    | succ k =>
      rw [List.getElem?_append_right (by simp; omega)]
      have := ih k j (by omega) hj
      rw [nth_eq] at this
      rw [← this]
      congr 1
      simp; omega
theorem zst_plain (n : Nat) : PlainL (zst n) := by
  intro x hx
  obtain ⟨l, h1, h2⟩ := List.mem_flatten.mp hx
  rw [(List.mem_replicate.mp h1).2] at h2
  simp only [List.mem_cons, List.not_mem_nil, or_false] at h2
  repeat' (rcases h2 with rfl | h2)
  all_goals first | rfl | (subst h2; rfl)
theorem zst_sts (n : Nat) : StsOk (zst n) n := by
  refine ⟨zst_len n, fun k hk => ⟨by rw [zst_len]; omega, fun r hr => ?_, fun r hr => ?_, fun r hr => ?_⟩, fun k hk => ?_⟩
  · rw [Nat.add_assoc, zst_nth n k (1 + r) hk (by omega)]
    rcases r with _ | _ | _ | _ | _ | _ | _ | _ | r <;> first | rfl | omega
  · rw [Nat.add_assoc, Nat.add_assoc, zst_nth n k _ hk (by omega)]
    rcases r with _ | _ | _ | _ | _ | _ | _ | _ | r <;> first | rfl | omega
  · rw [Nat.add_assoc, Nat.add_assoc, zst_nth n k _ hk (by omega)]
    rcases r with _ | _ | _ | _ | _ | _ | _ | _ | r <;> first | rfl | omega
  · have := zst_nth n k 0 hk (by omega)
    rw [Nat.add_zero] at this
    rw [this]; rfl
/-- Cells of the first state are written. -/
theorem sts_splice {cs xs : List Value} {n a : Nat} (h : StsOk cs n) (ha : a + xs.length ≤ 25) (hn : 0 < n) (ht : TyF (splice cs a xs) 0) (hc : okB (nth (splice cs a xs) 0) = true) : StsOk (splice cs a xs) n := by
  have hl : a + xs.length ≤ cs.length := by have := h.len; omega
  refine ⟨by rw [splice_len hl]; exact h.len, fun k hk => ?_, fun k hk => ?_⟩
  · cases k with
    | zero => rw [Nat.zero_mul]; exact ht
    | succ k => exact (h.st _ hk).congr (splice_len hl) fun j h1 _ => nth_splice_out hl (.inr (by omega))
  · cases k with
    | zero => rw [Nat.zero_mul]; exact hc
    | succ k => rw [nth_splice_out hl (.inr (by omega))]; exact h.co _ hk
theorem st0_sts {n : Nat} (hn : 0 < n) : StsOk (st0 n) n := by
  have h0 := zst_sts n
  have hlen := zst_len n
  have h1 : StsOk (splice (zst n) 0 [B true]) n := by
    have hl : 0 + [B true].length ≤ (zst n).length := by simp; omega
    have t0 := h0.st 0 hn
    rw [Nat.zero_mul] at t0
    refine sts_splice h0 (by simp) hn ⟨by rw [splice_len hl]; exact t0.len, fun r hr => ?_, fun r hr => ?_, fun r hr => ?_⟩ ?_
    · rw [nth_splice_out hl (.inr (by simp))]; exact t0.kn r hr
    · rw [nth_splice_out hl (.inr (by simp; omega))]; exact t0.lo r hr
    · rw [nth_splice_out hl (.inr (by simp))]; exact t0.hi r hr
    · rw [nth_splice_at _ (by omega)]; rfl
  have t1 := h1.st 0 hn
  rw [Nat.zero_mul] at t1
  have c1 := h1.co 0 hn
  rw [Nat.zero_mul] at c1
  have e1 : (0 : Nat) + 1 + (1 : Int).toNat * 1 = 0 + 1 + 1 := rfl
  have e2 : (0 : Nat) + 9 + (1 : Int).toNat * 2 = 0 + 9 + 1 * 2 := rfl
  unfold st0 setA
  rw [e1, e2]
  have h2 : StsOk (splice (splice (zst n) 0 [B true]) (0 + 1 + 1) [B true]) n := by
    refine sts_splice h1 (by simp) hn (t1.spB (r := 1) (by omega) true) ?_
    rw [nth_splice_out (by rw [h1.len]; simp; omega) (.inl (by omega))]; exact c1
  have t2 := h2.st 0 hn
  rw [Nat.zero_mul] at t2
  have c2 := h2.co 0 hn
  rw [Nat.zero_mul] at c2
  refine sts_splice h2 (by simp) hn (t2.spI (r := 1) (by omega) 0 16) ?_
  rw [nth_splice_out (by rw [h2.len]; simp; omega) (.inl (by omega))]; exact c2
theorem st0_plain (n : Nat) : PlainL (st0 n) := plain_set (plain_splice (zst_plain n) (plain_B _)) _ _ _ _

theorem stepF_sts {l : List Ins} {lp en : List Int} {i : Nat} {cst : List Value} (hl : ∀ x ∈ l, right x = true) (hi : i < l.length) (hsts : StsOk cst l.length) (hpl : PlainL cst) : StsOk (stepF l lp en i cst).2 l.length ∧ PlainL (stepF l lp en i cst).2 := by
  have hget : l.getD i insD = l[i] := by rw [List.getD_eq_getElem?_getD, List.getElem?_eq_getElem hi]; rfl
  have hr := right_regs (hl _ (List.getElem_mem hi))
  obtain ⟨_, _, s3⟩ := sta_eq hsts hi
  unfold stepF
  rw [hget]
  refine bifQ (P := fun r : Bool × List Value => StsOk r.2 l.length ∧ PlainL r.2) (fun _ => ⟨hsts, hpl⟩) (fun hb => ?_)
  refine bifQ (P := fun r : Bool × List Value => StsOk r.2 l.length ∧ PlainL r.2) (fun _ => ⟨hsts, hpl⟩) (fun _ => ?_)
  refine bifQ (P := fun r : Bool × List Value => StsOk r.2 l.length ∧ PlainL r.2) (fun _ => ⟨hsts, hpl⟩) (fun _ => ?_)
  have hs := wid25_st (en := en) (i := i) (op := l[i].op) hl (c46_st (op := l[i].op) (imm := l[i].imm) s3 hr)
  generalize wid25 l en i l[i].op (c46 (stAt cst i) l[i].op l[i].d l[i].s l[i].imm) = s at hs
  have hj : StsOk (jmp25 l[i].op l[i].imm cst s) l.length ∧ PlainL (jmp25 l[i].op l[i].imm cst s) := by
    unfold jmp25
    refine bifQ (P := fun r : List Value => StsOk r l.length ∧ PlainL r) (fun e => ?_) (fun _ => ⟨hsts, hpl⟩)
    obtain ⟨_, _, q3⟩ := jump_imm hb e (by omega)
    exact ⟨join48_sts hsts q3 hs, join48_plain hpl hs⟩
  unfold fin25
  refine bifQ (P := fun r : Bool × List Value => StsOk r.2 l.length ∧ PlainL r.2) (fun _ => hj) (fun _ => ?_)
  refine bifQ (P := fun r : Bool × List Value => StsOk r.2 l.length ∧ PlainL r.2) (fun _ => hj) (fun _ => ?_)
  refine bifQ (P := fun r : Bool × List Value => StsOk r.2 l.length ∧ PlainL r.2) (fun _ => hj) (fun e => ?_)
  have hlt : i + 1 < l.length := by
    have := beq_eq_false_iff_ne.mp e
    omega
  exact ⟨join48_sts hj.1 hlt hs, join48_plain hj.2 hs⟩

theorem ok10 : ∀ c ∈ cs10, c.ok Tryd.prog w0 := fun c hc => by
  simp only [List.mem_cons, List.not_mem_nil, or_false] at hc
  rcases hc with rfl | rfl | rfl | rfl | rfl
  · exact con22_ok
  · exact con23_ok
  · exact con24_ok
  · exact con25_ok
  · exact con26_ok
abbrev Sem10 (w0 : World) (K1 K2 : List Value → AHeap → Prop) (t : List Item) (fr : List AV) (h : AHeap) : Prop :=
  Agm.Sem Tryd.prog w0 (Tryd.prog.globals.size + [true].length) Tryd.f10 (post2 K1 K2) t fr h
theorem leaf10 {K1 K2 : List Value → AHeap → Prop} : ∀ t fr h, (match t with
    | .code (.region 22 _ _) :: _ => canonT G nt10c (Sem10 w0 K1 K2 t) fr h
    | .code (.region _ _ _) :: _ => canonT G nt10 (Sem10 w0 K1 K2 t) fr h
    | _ => False) → Sem10 w0 K1 K2 t fr h := by
  intro t fr h e
  split at e
  · exact canonT_semN (nt := nt10c) rfl e
  · exact canonT_semN (nt := nt10) rfl e
  · exact e.elim

theorem veq_sl' (b n s : Nat) : veq 4 (SL b n s) (SL b n s) = true := by simp [veq]
theorem veq_kr (cst : List Value) (i : Int) : veq 4 (AG (kr cst i)) (AG (kr cst i)) = true := by simp [veq, veq.go]
theorem veq_sr (cst : List Value) (i : Int) : veq 4 (AG (sr cst i)) (AG (sr cst i)) = true := by simp [veq, veq.go]
theorem plain_kr (cst : List Value) (i : Int) : PlainL (kr cst i) := by
  intro x hx
  simp only [kr, List.mem_cons, List.not_mem_nil, or_false] at hx
  rcases hx with rfl | rfl | rfl | rfl | rfl | rfl | rfl | rfl <;> rfl
theorem plain_sr (cst : List Value) (i : Int) : PlainL (sr cst i) := by
  intro x hx
  simp only [sr, List.mem_cons, List.not_mem_nil, or_false] at hx
  rcases hx with rfl | rfl | rfl | rfl | rfl | rfl | rfl | rfl | rfl | rfl | rfl | rfl | rfl | rfl | rfl | rfl <;> rfl
theorem plain_app {a b : List Value} (ha : PlainL a) (hb : PlainL b) : PlainL (a ++ b) := fun x hx => (List.mem_append.mp hx).elim (ha x) (hb x)

theorem push_cells {c : List Value} {m z : Nat} (xs : List Value) (h : c.length = m * z) (hx : xs.length = z) : List.take ((m + 1) * z) (List.take (m * z) (List.drop 0 c) ++ xs) = c ++ xs := by
  rw [List.drop_zero, List.take_of_length_le (l := c) (by omega), List.take_of_length_le]
  rw [List.length_append, h, hx, Nat.succ_mul]
  exact Nat.le_refl _

section
variable {K1 K2 : List Value → AHeap → Prop} {cl : List Value} {rw : Bool} {cst : List Value} {n : Nat} {v : Int}

set_option maxRecDepth 100000 in
set_option maxHeartbeats 4000000 in
theorem tail10_sem (hn : n < 1000000000) (hcl : PlainL cl) (hcst : PlainL cst) (hsts : StsOk cst n) : ∀ (k i : Nat) (kn sp : List Value), i + k = n → kn.length = i * 8 → sp.length = i * 16 → PlainL kn → PlainL sp →
    K2 [AG [I v, SL (G + 1) n 8, SL (G + 2) n 16], I 0, .nilIface] (heapB G [some (.cells cl rw), some (.cells (kn ++ knR cst k i) true), some (.cells (sp ++ spR cst k i) true)]) →
    Sem10 w0 K1 K2 todo10c (fr10c n i) (heapB G (bs10c cl rw v i cst kn sp)) := by
  intro k
  induction k with
  | zero =>
    intro i kn sp hik h1 h2 h3 h4 hK
    refine seg_semI3 (F := ft10) mixed (callsOf_ok ok10) leaf10 [7, 13, 22] 20 400 ((tail10 i v i n cl rw cst kn sp K1 K2 _).mpr ?_)
    have q : ¬ (i : Int) < (n : Int) := by omega
    have e : i = n := by omega
    rw [knR, spR, List.append_nil, List.append_nil] at hK
    simp only [q, decide_false, cond_false]
    rw [e]
    exact ⟨⟨hcl, h3, h4, trivial⟩, hK⟩
  | succ k ih =>
    intro i kn sp hik h1 h2 h3 h4 hK
    refine seg_semI3 (F := ft10) mixed (callsOf_ok ok10) leaf10 [7, 13, 22] 20 400 ((tail10 i v i n cl rw cst kn sp K1 K2 _).mpr ?_)
    have hi : i < n := by omega
    have q1 : (0 : Int) ≤ (i : Int) := by omega
    have q2 : (i : Int) < (n : Int) := by omega
    obtain ⟨s1, _, _⟩ := sta_eq hsts hi
    have hlen : (0 + (i : Int).toNat * 25 + 25).ble cst.length = true := Nat.ble_eq_true_of_le (by have := hsts.len; simp; omega)
    have hb1 : (9 + 16).ble (sta cst (i : Int)).length = true := rfl
    have hb2 : (1 + 8).ble (sta cst (i : Int)).length = true := rfl
    have r1 : room (i + 1) 8 = true := room8 (by omega)
    have r2 : room (i + 1) 128 = true := Nat.ble_eq_true_of_le (by omega)
    have k1 : (0 + i * 8).ble kn.length = true := Nat.ble_eq_true_of_le (by omega)
    have k2 : (0 + i * 16).ble sp.length = true := Nat.ble_eq_true_of_le (by omega)
    have hw1 : w ((i : Int) + 1) = ((i + 1 : Nat) : Int) := by rw [w_id (by omega) (by omega)]; omega
    have p1 := push_cells (kr cst (i : Int)) h1 rfl
    have p2 := push_cells (sr cst (i : Int)) h2 rfl
    rw [knR, spR, ← List.append_assoc, ← List.append_assoc] at hK
    simp only [q1, q2, s1, hlen, hb1, hb2, r1, r2, k1, k2, hw1, p1, p2, veq_sl', veq_kr, veq_sr, decide_true, Bool.and_self, cond_true]
    have pk := plain_app h3 (plain_kr cst (i : Int))
    have ps := plain_app h4 (plain_sr cst (i : Int))
    have fin := ih (i + 1) _ _ (by omega) (by rw [List.length_append, h1, Nat.succ_mul]; rfl) (by rw [List.length_append, h2, Nat.succ_mul]; rfl) pk ps hK
    exact ⟨⟨⟨hcl, hcst, pk, ps, trivial⟩, fin⟩, ⟨⟨hcl, hcst, pk, ps, trivial⟩, fin⟩, ⟨hcl, hcst, pk, ps, trivial⟩, fin⟩
end
/-- The blocks of an answer with tables. -/
noncomputable def okB10 (cl : List Value) (rw : Bool) (n : Nat) (cst : List Value) : List (Option ABlk) := [some (.cells cl rw), some (.cells (knR cst n 0) true), some (.cells (spR cst n 0) true)]
noncomputable abbrev bad10 (i e : Int) : List Value := [AG [I 0, .slice none 0 0, .slice none 0 0], I i, .iface 77 (I e)]
noncomputable abbrev good10 (v : Int) (n : Nat) : List Value := [AG [I v, SL (G + 1) n 8, SL (G + 2) n 16], I 0, .nilIface]
section
variable {K1 K2 : List Value → AHeap → Prop} {l : List Ins} {rw : Bool} {lp en : List Int}

set_option maxRecDepth 100000 in
set_option maxHeartbeats 4000000 in
theorem head10_sem (hn : l.length < 1000000000) (hl : ∀ x ∈ l, right x = true) (hlp : LpOk lp l.length) (hlen : en.length = l.length) (hE : EnOk l en) : ∀ (f i : Nat) (cst : List Value), l.length - i < f → StsOk cst l.length → PlainL cst →
    (bif decide ((walkF l lp en f i cst).1 ≥ 0) then K1 (bad10 (walkF l lp en f i cst).1 11) (heapB G [some (.cells (insC l) rw)])
      else bif decide (fuelF l lp (l.length + 1) 0 0 > 4096) then K1 (bad10 0 12) (heapB G [some (.cells (insC l) rw)])
      else K2 (good10 (fuelF l lp (l.length + 1) 0 0) l.length) (heapB G (okB10 (insC l) rw l.length (walkF l lp en f i cst).2))) →
    Sem10 w0 K1 K2 todo10b (fr10b l.length i) (heapB G (bs10 l.length (insC l) rw (ints lp) (ints en) cst)) := by
  intro f
  induction f with
  | zero => intro i cst h; omega
  | succ f ih =>
    intro i cst h1 h2 h3 hK
    have p1 := plain_insC l
    have p2 := plain_ints lp
    have p3 := plain_ints en
    refine seg_semI3 (F := ft10) mixed (callsOf_ok ok10) leaf10 [7, 13, 22] 20 400 ((head10 i l.length (insC l) rw (ints lp) (ints en) cst K1 K2 _).mpr ?_)
    rw [walkF] at hK
    rw [unIns_insC, unI_ints, unI_ints, Int.toNat_natCast]
    by_cases hi : i < l.length
    · have q1 : (0 : Int) ≤ (i : Int) := by omega
      have q2 : (i : Int) < (l.length : Int) := by omega
      have hw1 : w ((i : Int) + 1) = ((i + 1 : Nat) : Int) := by rw [w_id (by omega) (by omega)]; omega
      obtain ⟨s1, s2⟩ := stepF_sts (lp := lp) (en := en) hl hi h2 h3
      have ck : CkOk l.length (insC l) (ints lp) (ints en) cst := by
        refine ⟨?_, ?_, hn, ?_, ?_, ?_, ?_, ?_, ?_, h3, h2⟩ <;> simp only [unIns_insC, unI_ints] <;> assumption
      simp only [hi, decide_true, cond_true] at hK
      simp only [q2, decide_true, cond_true, hw1]
      refine ⟨⟨⟨p1, p2, p3, h3, trivial⟩, ⟨p1, p2, p3, s2, trivial⟩, by trivial, ck, q1, trivial⟩, ?_⟩
      refine bifP (fun e => ?_) (fun e => ?_)
      · simp only [e, cond_true] at hK
        have q3 : (i : Int) ≥ 0 := q1
        simp only [q3, decide_true, cond_true] at hK
        exact ⟨⟨p1, trivial⟩, hK⟩
      · simp only [e, cond_false] at hK
        exact ⟨⟨p1, p2, p3, s2, trivial⟩, ih (i + 1) _ (by omega) s1 s2 hK⟩
    · have q2 : ¬ (i : Int) < (l.length : Int) := by omega
      simp only [hi, decide_false, cond_false] at hK
      simp only [q2, decide_false, cond_false]
      have hneg : ¬ ((-1 : Int) ≥ 0) := by decide
      simp only [hneg, decide_false, cond_false] at hK
      refine ⟨⟨⟨p1, p2, p3, h3, trivial⟩, ⟨p1, p2, p3, h3, trivial⟩, by trivial, trivial, trivial, hn, p3, h3, trivial, hlp⟩, ?_⟩
      refine bifP (fun e => ?_) (fun e => ?_)
      · simp only [e, cond_true] at hK
        exact ⟨⟨p1, trivial⟩, hK⟩
      · simp only [e, cond_false] at hK
        exact ⟨⟨p1, h3, by intro x hx; simp at hx, by intro x hx; simp at hx, trivial⟩, tail10_sem hn p1 h3 h2 l.length 0 [] [] (by omega) rfl rfl (by intro x hx; simp at hx) (by intro x hx; simp at hx) hK⟩
end

/-- Where a program is wrong, and how; or none. -/
def badAt (l : List Ins) : Option (Int × Int) :=
  bif (l.length : Int) == 0 then some (0, 11) else bif decide ((lo0 l).1 ≥ 0) then some ((lo0 l).1, 11) else
  bif decide ((wk l).1 ≥ 0) then some ((wk l).1, 11) else bif decide (fu l > 4096) then some (0, 12) else none
section
variable {K1 K2 : List Value → AHeap → Prop} {l : List Ins} {rw : Bool}

theorem lo0_neg {l : List Ins} (h : ¬ (lo0 l).1 ≥ 0) : (lo0 l).1 = -1 := by
  have key : ∀ (f i : Nat) (os lp en : List Int), (∀ o ∈ os, 0 ≤ o) → (loopF l f i os lp en).1 ≥ 0 ∨ (loopF l f i os lp en).1 = -1 := by
    intro f
    induction f with
    | zero => intro i os lp en _; exact .inr rfl
    | succ f ih =>
      intro i os lp en hos
      rw [loopF]
      refine bifQ (P := fun r : Int × List Int × List Int => r.1 ≥ 0 ∨ r.1 = -1) (fun _ => ?_) (fun _ => ?_)
      · refine bifQ (P := fun r : Int × List Int × List Int => r.1 ≥ 0 ∨ r.1 = -1) (fun _ => ?_) (fun _ => ?_)
        · refine bifQ (P := fun r : Int × List Int × List Int => r.1 ≥ 0 ∨ r.1 = -1) (fun _ => .inl (by show (i : Int) ≥ 0; omega)) (fun _ => ih _ _ _ _ fun o ho => ?_)
          rcases List.mem_append.mp ho with h | h
          · exact hos o h
          · simp at h; omega
        · refine bifQ (P := fun r : Int × List Int × List Int => r.1 ≥ 0 ∨ r.1 = -1) (fun _ => ?_) (fun _ => ih _ _ _ _ hos)
          exact bifQ (P := fun r : Int × List Int × List Int => r.1 ≥ 0 ∨ r.1 = -1) (fun _ => .inl (by show (i : Int) ≥ 0; omega)) (fun _ => ih _ _ _ _ fun o ho => hos o (List.mem_of_mem_take ho))
      · show (bif decide ((os.length : Int) > 0) then os.getD 0 0 else -1) ≥ 0 ∨ (bif decide ((os.length : Int) > 0) then os.getD 0 0 else -1) = -1
        cases e : decide ((os.length : Int) > 0) with
        | true =>
          have h0 : 0 < os.length := by simp only [decide_eq_true_eq] at e; omega
          exact .inl (hos _ (by rw [List.getD_eq_getElem?_getD, List.getElem?_eq_getElem h0]; exact List.getElem_mem _))
        | false => exact .inr rfl
  rcases key (l.length + 1) 0 [] (nul l.length) (nul l.length) (by simp) with h' | h'
  · exact absurd h' h
  · exact h'
theorem nul_len (n : Nat) : (nul n).length = n := List.length_replicate ..

set_option maxRecDepth 100000 in
set_option maxHeartbeats 4000000 in
theorem mid10_sem (h0 : 0 < l.length) (hn : l.length < 1000000000) (hl : ∀ x ∈ l, right x = true)
    (hK : bif decide ((lo0 l).1 ≥ 0) then K1 (bad10 (lo0 l).1 11) (heapB G [some (.cells (insC l) rw)]) else
      bif decide ((wk l).1 ≥ 0) then K1 (bad10 (wk l).1 11) (heapB G [some (.cells (insC l) rw)])
      else bif decide (fu l > 4096) then K1 (bad10 0 12) (heapB G [some (.cells (insC l) rw)])
      else K2 (good10 (fu l) l.length) (heapB G (okB10 (insC l) rw l.length (wk l).2))) :
    Sem10 w0 K1 K2 todo10a (fr10a l.length) (heapB G (bs10 l.length (insC l) rw (ints (nul l.length)) (ints (nul l.length)) (zst l.length))) := by
  have p1 := plain_insC l
  refine seg_semI3 (F := ft10) mixed (callsOf_ok ok10) leaf10 [7, 13, 22] 20 400 ((mid10 l.length (insC l) rw (ints (nul l.length)) (ints (nul l.length)) (zst l.length) K1 K2 _).mpr ?_)
  rw [unIns_insC, unI_ints]
  obtain ⟨n1, n2⟩ := loopF_len l (l.length + 1) 0 [] (nul l.length) (nul l.length)
  rw [nul_len] at n1 n2
  refine ⟨⟨⟨p1, plain_ints _, plain_ints _, zst_plain _, trivial⟩, ⟨p1, plain_ints _, plain_ints _, zst_plain _, trivial⟩, by trivial, rfl, rfl, hn, zst_plain _, rfl, nul_len _, rfl, nul_len _⟩, ?_⟩
  refine bifP (fun e => ?_) (fun e => ?_)
  · have e' : decide ((lo0 l).1 ≥ 0) = true := e
    rw [e', cond_true] at hK
    exact ⟨⟨p1, trivial⟩, hK⟩
  · have e' : decide ((lo0 l).1 ≥ 0) = false := e
    rw [e', cond_false] at hK
    have hneg := lo0_neg (of_decide_eq_false e')
    obtain ⟨hlp, hE⟩ := loopF_ok l (l.length + 1) 0 [] (nul l.length) (nul l.length) (by omega) (by omega) (nul_len _) (nul_len _) (by simp) (fun k h => by omega) (fun j _ h => by omega) hneg
    have q : (0 : Int) < (l.length : Int) := by omega
    have b1 : Nat.ble 1 (zst l.length).length = true := Nat.ble_eq_true_of_le (by rw [zst_len]; omega)
    simp only [q, b1, decide_true, cond_true]
    have ps := plain_splice (n := 0) (zst_plain l.length) (plain_B true)
    refine ⟨⟨⟨ps, trivial⟩, ⟨st0_plain _, trivial⟩, by decide, by decide, ?_, ps⟩, ⟨p1, plain_ints _, plain_ints _, st0_plain _, trivial⟩, ?_⟩
    · rw [splice_len (by rw [zst_len]; simp; omega), zst_len]; omega
    · exact head10_sem hn hl hlp n2 hE (l.length + 1) 0 (st0 l.length) (by omega) (st0_sts h0) (st0_plain _) hK

set_option maxRecDepth 100000 in
set_option maxHeartbeats 4000000 in
theorem sem10 (hn : l.length ≤ 128) (hl : ∀ x ∈ l, right x = true)
    (hK : match badAt l with
      | some (i, e) => K1 (bad10 i e) (heapB G [some (.cells (insC l) rw)])
      | none => K2 (good10 (fu l) l.length) (heapB G (okB10 (insC l) rw l.length (wk l).2))) :
    Sem10 w0 K1 K2 [.code (Tryd.f10.body.getD .skip)] (startF Tryd.f10 [SL G l.length 4]) (heapB G [some (.cells (insC l) rw)]) := by
  have p1 := plain_insC l
  refine seg_semI3 (F := ft10) mixed (callsOf_ok ok10) leaf10 [7, 13, 22] 20 400 ((start10 l.length (insC l) rw K1 K2 _).mpr ?_)
  refine ⟨⟨⟨p1, trivial⟩, ⟨p1, trivial⟩, by rw [unIns_insC], by rw [unIns_insC], hn, by rw [unIns_insC]; exact hl⟩, ?_⟩
  unfold badAt at hK
  refine bifP (fun e => ?_) (fun e => ?_)
  · rw [e, cond_true] at hK
    exact ⟨⟨p1, trivial⟩, hK⟩
  · rw [e, cond_false] at hK
    have h0 : 0 < l.length := by
      have := beq_eq_false_iff_ne.mp e
      omega
    have q1 : (0 : Int) ≤ (l.length : Int) := by omega
    have q2 : (l.length : Int) ≤ (l.length : Int) := by omega
    have q3 : (l.length : Int) ≤ 1099511627776 := by omega
    have r1 : room (l.length : Int).toNat 8 = true := Nat.ble_eq_true_of_le (by simp; omega)
    have r2 : room (l.length : Int).toNat 144 = true := Nat.ble_eq_true_of_le (by simp; omega)
    simp only [q1, q2, q3, r1, r2, decide_true, Bool.and_self, cond_true, beq_self_eq_true, zer_ints]
    have fin := mid10_sem (w0 := w0) (K1 := K1) (K2 := K2) (rw := rw) h0 (by omega) hl (by
      cases e1 : decide ((lo0 l).1 ≥ 0) with
      | true => rw [e1] at hK; exact hK
      | false =>
        rw [e1, cond_false] at hK; rw [cond_false]
        cases e2 : decide ((wk l).1 ≥ 0) with
        | true => rw [e2] at hK; exact hK
        | false =>
          rw [e2, cond_false] at hK; rw [cond_false]
          cases e3 : decide (fu l > 4096) with
          | true => rw [e3] at hK; exact hK
          | false => rw [e3] at hK; exact hK)
    have pl := plain_ints (nul l.length)
    have pz := zst_plain l.length
    exact ⟨⟨⟨p1, pl, pl, pz, trivial⟩, fin⟩, ⟨⟨p1, pl, pl, pz, trivial⟩, fin⟩, ⟨⟨p1, pl, pl, pz, trivial⟩, fin⟩, ⟨⟨p1, pl, pl, pz, trivial⟩, fin⟩, ⟨⟨p1, pl, pl, pz, trivial⟩, fin⟩, ⟨p1, pl, pl, pz, trivial⟩, fin⟩
end
theorem bifE {c : Bool} {p : Prop} (e : bif c then p else False) : p := by
  cases c
  · exact e.elim
  · exact e
theorem canonT_false {G : Nat} {nt : Nt} {K : List AV → AHeap → Prop} (hk : ∀ fr h, ¬ K fr h) {fr : List AV} {h : AHeap} : ¬ canonT G nt K fr h := by
  intro e
  unfold canonT canonQ at e
  split at e
  · exact hk _ _ (bifE e).2
  · exact e
theorem retT_false {G : Nat} {nt : Nt} {K : List Value → AHeap → Prop} (hk : ∀ rs h, ¬ K rs h) {rs : List Value} {h : AHeap} : ¬ retT G nt K rs h := by
  refine canonT_false fun fr h e => ?_
  split at e
  · exact hk _ _ e
  · exact e
noncomputable def chkS (args : List Value) (bs : List (Option ABlk)) (P : List Ins → Prop) (rs : List Ins → List Value) (out : List Ins → List OutB) : Option (Prop × List Value × List OutB) := match args, bs with
  | [s], [some (.cells cs rw)] => match slN s 0 4 with
    | some n => some (cs = insC (unIns cs) ∧ (unIns cs).length = n ∧ n ≤ 128 ∧ (unIns cs).all right = true ∧ P (unIns cs), rs (unIns cs), (true, some (.cells cs rw)) :: out (unIns cs))
    | none => none
  | _, _ => none
theorem chkS_some {args : List Value} {bs : List (Option ABlk)} {P : List Ins → Prop} {rs : List Ins → List Value} {ou : List Ins → List OutB} {p : Prop} {rs' : List Value} {out : List OutB} (e : chkS args bs P rs ou = some (p, rs', out)) (hp : p) :
    ∃ (l : List Ins) (rw : Bool), args = [SL G l.length 4] ∧ bs = [some (.cells (insC l) rw)] ∧ l.length ≤ 128 ∧ (∀ x ∈ l, right x = true) ∧ P l ∧ rs' = rs l ∧ out = (true, some (.cells (insC l) rw)) :: ou l := by
  unfold chkS at e
  split at e
  · rename_i s cs rw
    split at e
    · rename_i n hn
      simp only [Option.some.injEq, Prod.mk.injEq] at e
      obtain ⟨rfl, rfl, rfl⟩ := e
      obtain ⟨h1, h2, h3, h4, h5⟩ := hp
      exact ⟨unIns cs, rw, by rw [slN_eq hn, h2]; rfl, by rw [← h1], by omega, List.all_eq_true.mp h4, h5, rfl, by rw [← h1]⟩
    · simp at e
  · simp at e
def ba (l : List Ins) : Int × Int := (badAt l).getD (0, 0)
/-- A program that is right. -/
noncomputable def con10 : Con := { f := 10, gh := [⟨0, none, 4⟩], paths := [⟨0, [], true⟩], spec := fun args bs => chkS args bs (fun l => badAt l = none) (fun l => [AG [I (fu l), SL (G + 1) l.length 8, SL (G + 2) l.length 16], I 0, .nilIface]) (fun l => [(true, some (.cells (knR (wk l).2 l.length 0) true)), (true, some (.cells (spR (wk l).2 l.length 0) true))]) }
/-- One that is wrong. -/
noncomputable def con10b : Con := { f := 10, gh := [⟨0, none, 4⟩], paths := [⟨0, [], true⟩], spec := fun args bs => chkS args bs (fun l => (badAt l).isSome = true) (fun l => [AG [I 0, .slice none 0 0, .slice none 0 0], I (ba l).1, .iface 77 (I (ba l).2)]) (fun _ => []) }
set_option maxRecDepth 100000 in
theorem con10_ok : con10.ok Tryd.prog w0 := by
  intro args bs p rs out e hp
  simp only [con10] at e
  obtain ⟨l, rw, rfl, rfl, hn, hl, hb, rfl, rfl⟩ := chkS_some e hp
  have hh : (heapB Tryd.prog.globals.size [some (.cells (insC l) rw)]).next = Tryd.prog.globals.size + ntO.flags.length := by rw [heapB_next]; rfl
  change CallS Tryd.prog w0 10 [SL G l.length 4] (heapB Tryd.prog.globals.size [some (.cells (insC l) rw)]) fun rs' h' => rs' = good10 (fu l) l.length ∧ h' = heapB Tryd.prog.globals.size (okB10 (insC l) rw l.length (wk l).2)
  refine retT_call (nt := ntO) hh (CallS.mono (Q := post2 (fun _ _ => False) fun rs' h' => rs' = good10 (fu l) l.length ∧ h' = heapB Tryd.prog.globals.size (okB10 (insC l) rw l.length (wk l).2)) ?_ (call_sem (cd := Tryd.f10.body.getD .skip) Tryd.func10 (by kernel_rfl) ?_))
  · intro rs h e
    unfold post2 at e
    split at e
    · split at e
      · exact absurd e (retT_false fun _ _ h => h)
      · exact e
    · exact e.elim
  · rw [hh]
    refine sem10 hn hl ?_
    rw [hb]
    exact ⟨rfl, rfl⟩
set_option maxRecDepth 100000 in
theorem con10b_ok : con10b.ok Tryd.prog w0 := by
  intro args bs p rs out e hp
  simp only [con10b] at e
  obtain ⟨l, rw, rfl, rfl, hn, hl, hb, rfl, rfl⟩ := chkS_some e hp
  have hh : (heapB Tryd.prog.globals.size [some (.cells (insC l) rw)]).next = Tryd.prog.globals.size + ntR.flags.length := by rw [heapB_next]; rfl
  change CallS Tryd.prog w0 10 [SL G l.length 4] (heapB Tryd.prog.globals.size [some (.cells (insC l) rw)]) fun rs' h' => rs' = bad10 (ba l).1 (ba l).2 ∧ h' = heapB Tryd.prog.globals.size [some (.cells (insC l) rw)]
  refine retT_call (nt := ntR) hh (CallS.mono (Q := post2 (fun rs' h' => rs' = bad10 (ba l).1 (ba l).2 ∧ h' = heapB Tryd.prog.globals.size [some (.cells (insC l) rw)]) fun _ _ => False) ?_ (call_sem (cd := Tryd.f10.body.getD .skip) Tryd.func10 (by kernel_rfl) ?_))
  · intro rs h e
    unfold post2 at e
    split at e
    · split at e
      · exact e
      · exact absurd e (retT_false fun _ _ h => h)
    · exact e.elim
  · rw [hh]
    refine sem10 hn hl ?_
    unfold ba
    cases hq : badAt l with
    | none => rw [hq] at hb; simp at hb
    | some p => exact ⟨rfl, rfl⟩

abbrev nt0 : Nt := { gh := [], flags := [], paths := [], tr := [] }
abbrev seg11 (K : List Value → AHeap → Prop) (t : List Item) (fr : List AV) (h : AHeap) : Prop :=
  segK3 Tryd.prog ft0 (semI Tryd.prog (fun _ => ft0) (callsOf G [con49]) 400 20 (retT G nt0 K)) Tryd.f11 [] 400 t fr noLeaf h
/-- A contract for slices of one length. -/
def lenIs (k : Nat) (args : List Value) : Bool := match args with
  | [.slice _ n _] => Nat.beq n k
  | _ => false
noncomputable def atN (k : Nat) (c : Con) : Con := { c with spec := fun args bs => bif lenIs k args then c.spec args bs else none }
theorem atN_ok {k : Nat} {c : Con} (h : c.ok Tryd.prog w0) : (atN k c).ok Tryd.prog w0 := by
  intro args bs p rs out e hp
  simp only [atN] at e
  cases hl : lenIs k args with
  | true => rw [hl] at e; exact h args bs p rs out e hp
  | false => rw [hl] at e; simp at e

theorem eval11 (e : Int) (K : List Value → AHeap → Prop) :
    evSeg Tryd.f11 [con49] nt0 [.iface 77 (I e)] [] K = (((PlainL [I 0] ∧ True) ∧ (PlainL [I e] ∧ True) ∧ True) ∧ True ∧ K [I e] (heapB G [])) := by kernel_rfl
noncomputable def con11 : Con := { f := 11, gh := [], paths := [], spec := fun args bs => match args, bs with
  | [.iface 77 e], [] => match intV e with
    | some e => some (True, [I e], [])
    | none => none
  | _, _ => none }
set_option maxRecDepth 100000 in
theorem con11_ok (hg : Laid w0) : con11.ok Tryd.prog w0 := by
  intro args bs p rs out e _
  simp only [con11] at e
  split at e <;> first | (simp at e; done) | skip
  split at e <;> first | (simp at e; done) | skip
  rename_i e0 _ e1 he
  simp only [Option.some.injEq, Prod.mk.injEq] at e
  obtain ⟨rfl, rfl, rfl⟩ := e
  rw [intV_eq he]
  change CallS Tryd.prog w0 11 [.iface 77 (I e1)] (heapB Tryd.prog.globals.size []) fun rs' h' => rs' = [I e1] ∧ h' = heapB Tryd.prog.globals.size []
  refine ev_callS (nt := nt0) (cs := [con49]) (f := 11) (bs := []) Tryd.func11 (by kernel_rfl) (fun c hc => by
    simp only [List.mem_cons, List.not_mem_nil, or_false] at hc
    subst hc
    exact con49_ok hg) rfl ?_
  exact (eval11 e1 _).mpr ⟨⟨⟨plain_I 0, trivial⟩, ⟨plain_I e1, trivial⟩, trivial⟩, trivial, rfl, rfl⟩

def Is10 (v : Int) (kn sp : List Value) (l : List Ins) : Prop := badAt l = none ∧ fu l = v ∧ knR (wk l).2 l.length 0 = kn ∧ spR (wk l).2 l.length 0 = sp
def Is10b (i e : Int) (l : List Ins) : Prop := badAt l = some (i, e)
/-- A right program of length k: how much it takes, the tables. -/
noncomputable def con10v (k : Nat) (v : Int) (kn sp : List Value) : Con := { f := 10, gh := [⟨0, none, 4⟩], paths := [⟨0, [], true⟩], spec := fun args bs => bif lenIs k args then chkS args bs (Is10 v kn sp) (fun _ => [AG [I v, SL (G + 1) k 8, SL (G + 2) k 16], I 0, .nilIface]) (fun _ => [(true, some (.cells kn true)), (true, some (.cells sp true))]) else none }
/-- A wrong program of length k. -/
noncomputable def con10w (k : Nat) (i e : Int) : Con := { f := 10, gh := [⟨0, none, 4⟩], paths := [⟨0, [], true⟩], spec := fun args bs => bif lenIs k args then chkS args bs (Is10b i e) (fun _ => [AG [I 0, .slice none 0 0, .slice none 0 0], I i, .iface 77 (I e)]) (fun _ => []) else none }
theorem call10 {l : List Ins} {rw : Bool} (hn : l.length ≤ 128) (hl : ∀ x ∈ l, right x = true) (hb : badAt l = none) :
    CallS Tryd.prog w0 10 [SL G l.length 4] (heapB Tryd.prog.globals.size [some (.cells (insC l) rw)]) fun rs' h' => rs' = good10 (fu l) l.length ∧ h' = heapB Tryd.prog.globals.size (okB10 (insC l) rw l.length (wk l).2) := by
  have hh : (heapB Tryd.prog.globals.size [some (.cells (insC l) rw)]).next = Tryd.prog.globals.size + ntO.flags.length := by rw [heapB_next]; rfl
  refine retT_call (nt := ntO) hh (CallS.mono (Q := post2 (fun _ _ => False) fun rs' h' => rs' = good10 (fu l) l.length ∧ h' = heapB Tryd.prog.globals.size (okB10 (insC l) rw l.length (wk l).2)) ?_ (call_sem (cd := Tryd.f10.body.getD .skip) Tryd.func10 (by kernel_rfl) ?_))
  · intro rs h e
    unfold post2 at e
    split at e
    · split at e
      · exact absurd e (retT_false fun _ _ h => h)
      · exact e
    · exact e.elim
  · rw [hh]
    refine sem10 hn hl ?_
    rw [hb]
    exact ⟨rfl, rfl⟩
theorem call10b {l : List Ins} {rw : Bool} {i e : Int} (hn : l.length ≤ 128) (hl : ∀ x ∈ l, right x = true) (hb : badAt l = some (i, e)) :
    CallS Tryd.prog w0 10 [SL G l.length 4] (heapB Tryd.prog.globals.size [some (.cells (insC l) rw)]) fun rs' h' => rs' = bad10 i e ∧ h' = heapB Tryd.prog.globals.size [some (.cells (insC l) rw)] := by
  have hh : (heapB Tryd.prog.globals.size [some (.cells (insC l) rw)]).next = Tryd.prog.globals.size + ntR.flags.length := by rw [heapB_next]; rfl
  refine retT_call (nt := ntR) hh (CallS.mono (Q := post2 (fun rs' h' => rs' = bad10 i e ∧ h' = heapB Tryd.prog.globals.size [some (.cells (insC l) rw)]) fun _ _ => False) ?_ (call_sem (cd := Tryd.f10.body.getD .skip) Tryd.func10 (by kernel_rfl) ?_))
  · intro rs h e
    unfold post2 at e
    split at e
    · split at e
      · exact e
      · exact absurd e (retT_false fun _ _ h => h)
    · exact e.elim
  · rw [hh]
    refine sem10 hn hl ?_
    rw [hb]
    exact ⟨rfl, rfl⟩
theorem lenIs_eq {k n : Nat} (h : lenIs k [SL G n 4] = true) : n = k := Nat.eq_of_beq_eq_true h
theorem lenIs_some {α : Type} {b : Bool} {x : Option α} {y : α} (h : (bif b then x else none) = some y) : b = true ∧ x = some y := by
  cases b
  · simp at h
  · exact ⟨rfl, h⟩
set_option maxRecDepth 100000 in
theorem con10v_ok {k : Nat} {v : Int} {kn sp : List Value} : (con10v k v kn sp).ok Tryd.prog w0 := by
  intro args bs p rs out e hp
  simp only [con10v] at e
  obtain ⟨hk, e⟩ := lenIs_some e
  obtain ⟨l, rw, rfl, rfl, hn, hl, ⟨hb, rfl, rfl, rfl⟩, rfl, rfl⟩ := chkS_some e hp
  have hk := lenIs_eq hk
  subst hk
  exact call10 hn hl hb
set_option maxRecDepth 100000 in
theorem con10w_ok {k : Nat} {i e : Int} : (con10w k i e).ok Tryd.prog w0 := by
  intro args bs p rs out h hp
  simp only [con10w] at h
  obtain ⟨hk, h⟩ := lenIs_some h
  obtain ⟨l, rw, rfl, rfl, hn, hl, hb, rfl, rfl⟩ := chkS_some h hp
  exact call10b hn hl hb
noncomputable def con7 : Con := { f := 7, gh := [], paths := [], spec := fun args bs => match args, bs with
  | [], [] => some (True, [B true], [])
  | _, _ => none }

abbrev m6 (x : Int) : Int := w (1 + w (((BitVec.ofInt 64 x).and (BitVec.ofInt 64 63)).toNat : Int))
abbrev FU (a b c : Int) : Int := w (w (w (w (w (w (2 + a) + w (a * b)) + w (w (w (2 * a) * b) * c)) + w (a * b)) + a) + 1)
abbrev P2 : List Ins := [⟨0, 0, 0, 2⟩, ⟨20, 0, 0, 0⟩]
abbrev P3 : List Ins := [⟨0, 1, 0, 600⟩, ⟨7, 0, 1, 0⟩, ⟨20, 0, 0, 0⟩]
abbrev P9 (a b c : Int) : List Ins := [⟨0, 0, 0, 0⟩, ⟨17, 0, 0, a⟩, ⟨17, 0, 0, b⟩, ⟨17, 0, 0, c⟩, ⟨4, 0, 0, 1⟩, ⟨18, 0, 0, 0⟩, ⟨18, 0, 0, 0⟩, ⟨18, 0, 0, 0⟩, ⟨20, 0, 0, 0⟩]
abbrev P11 (a b c : Int) : List Ins := [⟨17, 0, 0, 1⟩, ⟨0, 0, 0, 0⟩, ⟨17, 0, 0, a⟩, ⟨17, 0, 0, b⟩, ⟨17, 0, 0, c⟩, ⟨4, 0, 0, 1⟩, ⟨18, 0, 0, 0⟩, ⟨18, 0, 0, 0⟩, ⟨18, 0, 0, 0⟩, ⟨18, 0, 0, 0⟩, ⟨20, 0, 0, 0⟩]
theorem eval7 (v1 : Int) (kn1 sp1 : List Value) (i2 e2 : Int) (K : List Value → AHeap → Prop) :
    evSeg Tryd.f7 [con10v 2 v1 kn1 sp1, con10w 3 i2 e2, con11] nt0 [] [] K
    = (((PlainL (insC P2) ∧ True) ∧ (PlainL (insC P2) ∧ PlainL kn1 ∧ PlainL sp1 ∧ True) ∧ (insC P2) = insC (unIns (insC P2)) ∧ 2 = 2 ∧ 2 ≤ 128 ∧ true = true ∧ Is10 v1 kn1 sp1 (unIns (insC P2))) ∧ ((PlainL (insC P3) ∧ True) ∧ (PlainL (insC P3) ∧ True) ∧ (insC P3) = insC (unIns (insC P3)) ∧ 3 = 3 ∧ 3 ≤ 128 ∧ true = true ∧ Is10b i2 e2 (unIns (insC P3))) ∧
      bif v1 == 2 then
      bif (16 + 2).ble sp1.length && (okI .i64 (nth sp1 (16 + 0)) && (okI .i64 (nth sp1 (16 + 1)) && true)) then
      bif (16 + 2).ble sp1.length && (okI .i64 (nth sp1 (16 + 0)) && (okI .i64 (nth sp1 (16 + 1)) && true)) && veq 4 (Value.agg { toList := [I (intO (nth sp1 (16 + 0))), I (intO (nth sp1 (16 + 1)))] }) (Value.agg { toList := [I (intO (nth sp1 (16 + 0))), I (intO (nth sp1 (16 + 1)))] }) && true then
      bif intO (nth sp1 (16 + 0)) == 2 && (intO (nth sp1 (16 + 1)) == 2 && true) then
      (True ∧ True ∧ True) ∧
      bif e2 == 11 then
      True ∧ K [B (i2 == 1)] (heapB G [])
    else True ∧ K [B false] (heapB G [])
    else True ∧ K [B false] (heapB G [])
    else False
    else False
    else True ∧ K [B false] (heapB G [])) := by kernel_rfl

theorem eval4a (x y z v1 : Int) (kn1 sp1 : List Value) (i2 e2 : Int) (K : List Value → AHeap → Prop) :
    evSeg Tryd.f4 [con7, con10v 9 v1 kn1 sp1, con10w 11 i2 e2, con11] nt0 [AG [I x, I y, I z]] [] K
    = ((True ∧ True ∧ True) ∧ ((PlainL (insC (P9 (m6 x) (m6 y) (m6 z))) ∧ True) ∧ (PlainL (insC (P9 (m6 x) (m6 y) (m6 z))) ∧ PlainL kn1 ∧ PlainL sp1 ∧ True) ∧ (insC (P9 (m6 x) (m6 y) (m6 z))) = insC (unIns (insC (P9 (m6 x) (m6 y) (m6 z)))) ∧ (unIns (insC (P9 (m6 x) (m6 y) (m6 z)))).length = 9 ∧ 9 ≤ 128 ∧ (unIns (insC (P9 (m6 x) (m6 y) (m6 z)))).all right = true ∧ Is10 v1 kn1 sp1 (unIns (insC (P9 (m6 x) (m6 y) (m6 z))))) ∧
      bif decide (FU (m6 x) (m6 y) (m6 z) > 4096) then
      True ∧ K [B false] (heapB G [])
    else ((PlainL (insC (P11 (m6 x) (m6 y) (m6 z))) ∧ True) ∧ (PlainL (insC (P11 (m6 x) (m6 y) (m6 z))) ∧ True) ∧ (insC (P11 (m6 x) (m6 y) (m6 z))) = insC (unIns (insC (P11 (m6 x) (m6 y) (m6 z)))) ∧ (unIns (insC (P11 (m6 x) (m6 y) (m6 z)))).length = 11 ∧ 11 ≤ 128 ∧ (unIns (insC (P11 (m6 x) (m6 y) (m6 z)))).all right = true ∧ Is10b i2 e2 (unIns (insC (P11 (m6 x) (m6 y) (m6 z))))) ∧
      bif v1 == FU (m6 x) (m6 y) (m6 z) then
      bif (128 + 2).ble sp1.length && (okI .i64 (nth sp1 (128 + 0)) && (okI .i64 (nth sp1 (128 + 1)) && true)) then
      bif (128 + 2).ble sp1.length && (okI .i64 (nth sp1 (128 + 0)) && (okI .i64 (nth sp1 (128 + 1)) && true)) && veq 4 (Value.agg { toList := [I (intO (nth sp1 (128 + 0))), I (intO (nth sp1 (128 + 1)))] }) (Value.agg { toList := [I (intO (nth sp1 (128 + 0))), I (intO (nth sp1 (128 + 1)))] }) && true then
      bif (128 + 2).ble sp1.length && (okI .i64 (nth sp1 (128 + 0)) && (okI .i64 (nth sp1 (128 + 1)) && true)) && veq 4 (Value.agg { toList := [I (intO (nth sp1 (128 + 0))), I (intO (nth sp1 (128 + 1)))] }) (Value.agg { toList := [I (intO (nth sp1 (128 + 0))), I (intO (nth sp1 (128 + 1)))] }) && true then
      bif (128 + 2).ble sp1.length && (okI .i64 (nth sp1 (128 + 0)) && (okI .i64 (nth sp1 (128 + 1)) && true)) && veq 4 (Value.agg { toList := [I (intO (nth sp1 (128 + 0))), I (intO (nth sp1 (128 + 1)))] }) (Value.agg { toList := [I (intO (nth sp1 (128 + 0))), I (intO (nth sp1 (128 + 1)))] }) && true then
      bif (intO (nth sp1 (128 + 0)) == if 1099511627776 < if (-1099511627776) > w ((-1099511627776) + 1) then
      (-1099511627776)
    else w ((-1099511627776) + 1) then
      1099511627776
    else if (-1099511627776) > w ((-1099511627776) + 1) then
      (-1099511627776)
    else w ((-1099511627776) + 1)) && ((intO (nth sp1 (128 + 1)) == if 1099511627776 < if (-1099511627776) > w (1099511627776 + 1) then
      (-1099511627776)
    else w (1099511627776 + 1) then
      1099511627776
    else if (-1099511627776) > w (1099511627776 + 1) then
      (-1099511627776)
    else w (1099511627776 + 1)) && true) then
      (True ∧ True ∧ True) ∧
      bif e2 == 11 then
      True ∧ K [B (i2 == 4)] (heapB G [])
    else True ∧ K [B false] (heapB G [])
    else True ∧ K [B false] (heapB G [])
    else False
    else False
    else False
    else False
    else True ∧ K [B false] (heapB G [])) := by kernel_rfl

theorem eval4b (x y z i1 e1 : Int) (K : List Value → AHeap → Prop) :
    evSeg Tryd.f4 [con7, con10w 9 i1 e1, con11] nt0 [AG [I x, I y, I z]] [] K
    = ((True ∧ True ∧ True) ∧ ((PlainL (insC (P9 (m6 x) (m6 y) (m6 z))) ∧ True) ∧ (PlainL (insC (P9 (m6 x) (m6 y) (m6 z))) ∧ True) ∧ (insC (P9 (m6 x) (m6 y) (m6 z))) = insC (unIns (insC (P9 (m6 x) (m6 y) (m6 z)))) ∧ (unIns (insC (P9 (m6 x) (m6 y) (m6 z)))).length = 9 ∧ 9 ≤ 128 ∧ (unIns (insC (P9 (m6 x) (m6 y) (m6 z)))).all right = true ∧ Is10b i1 e1 (unIns (insC (P9 (m6 x) (m6 y) (m6 z))))) ∧
      bif decide (FU (m6 x) (m6 y) (m6 z) > 4096) then
      (True ∧ True ∧ True) ∧
      bif e1 == 12 then
      True ∧ K [B (i1 == 0)] (heapB G [])
    else True ∧ K [B false] (heapB G [])
    else False) := by kernel_rfl

theorem lo9 (a b c : Int) : lo0 (P9 a b c) = (-1, [-1, -1, 1, 2, 3, 3, 2, 1, -1], [0, 7, 6, 5, 0, 0, 0, 0, 0]) := by kernel_rfl
theorem wk9 (a b c : Int) : (wk (P9 a b c)).1 = -1 := by kernel_rfl
theorem fu9 (a b c : Int) : fu (P9 a b c) = w (w (w (w (w (w (w (w (w (0 + 1) + 1) + w (1 * a)) + w (w (1 * b) * a)) + w (w (w (1 * c) * b) * a)) + w (w (w (1 * c) * b) * a)) + w (w (1 * b) * a)) + w (1 * a)) + 1) := by kernel_rfl
theorem sp9 (a b c : Int) : (spR (wk (P9 a b c)).2 9 0).length = 144 ∧ nth (spR (wk (P9 a b c)).2 9 0) 128 = some (I (-1099511627775)) ∧ nth (spR (wk (P9 a b c)).2 9 0) 129 = some (I 1099511627776) := by
  refine ⟨by kernel_rfl, by kernel_rfl, by kernel_rfl⟩
theorem m6_in (x : Int) : 1 ≤ m6 x ∧ m6 x ≤ 64 := by
  have h : ((BitVec.ofInt 64 x).and (BitVec.ofInt 64 63)).toNat ≤ 63 := by
    show ((BitVec.ofInt 64 x) &&& (BitVec.ofInt 64 63)).toNat ≤ 63
    rw [BitVec.toNat_and]
    exact Nat.and_le_right
  unfold m6
  generalize ((BitVec.ofInt 64 x).and (BitVec.ofInt 64 63)).toNat = k at h
  rw [w_id (n := (k : Int)) (by omega) (by omega), w_id (by omega) (by omega)]
  omega
theorem fuel_eq {a b c : Int} (ha : 1 ≤ a ∧ a ≤ 64) (hb : 1 ≤ b ∧ b ≤ 64) (hc : 1 ≤ c ∧ c ≤ 64) : fu (P9 a b c) = FU a b c := by
  rw [fu9]
  obtain ⟨a0, a1⟩ := ha
  obtain ⟨b0, b1⟩ := hb
  obtain ⟨c0, c1⟩ := hc
  have hab : a * b ≤ 4096 := Int.le_trans (Int.mul_le_mul a1 b1 (by omega) (by omega)) (by decide)
  have hab0 : 0 ≤ a * b := Int.mul_nonneg (by omega) (by omega)
  have hbc : c * b ≤ 4096 := Int.le_trans (Int.mul_le_mul c1 b1 (by omega) (by omega)) (by decide)
  have hbc0 : 0 ≤ c * b := Int.mul_nonneg (by omega) (by omega)
  have habc : a * b * c ≤ 262144 := Int.le_trans (Int.mul_le_mul hab c1 (by omega) (by omega)) (by decide)
  have habc0 : 0 ≤ a * b * c := Int.mul_nonneg hab0 (by omega)
  have e1 : b * a = a * b := Int.mul_comm _ _
  have e2 : c * b * a = a * b * c := by rw [Int.mul_comm c b, Int.mul_assoc, Int.mul_comm c a, ← Int.mul_assoc, e1]
  have e3 : 2 * a * b = 2 * (a * b) := Int.mul_assoc _ _ _
  have e4 : 2 * (a * b) * c = 2 * (a * b * c) := Int.mul_assoc _ _ _
  unfold FU
  rw [Int.one_mul, Int.one_mul, Int.one_mul, w_id (n := a) (by omega) (by omega), w_id (n := b) (by omega) (by omega), w_id (n := c) (by omega) (by omega),
    w_id (n := c * b) (by omega) (by omega), e2, e1, w_id (n := 2 * a) (by omega) (by omega), e3, w_id (n := 2 * (a * b)) (by omega) (by omega), e4]
  generalize a * b = p at *
  generalize p * c = q at *
  have w1 : ∀ n : Int, 0 ≤ n → n ≤ 100000000 → w n = n := fun n h1 h2 => w_id (by omega) (by omega)
  rw [w1 p (by omega) (by omega), w1 q (by omega) (by omega), w1 (2 * q) (by omega) (by omega)]
  rw [w1 (0 + 1) (by omega) (by omega), w1 (0 + 1 + 1) (by omega) (by omega), w1 (0 + 1 + 1 + a) (by omega) (by omega), w1 (0 + 1 + 1 + a + p) (by omega) (by omega), w1 (0 + 1 + 1 + a + p + q) (by omega) (by omega), w1 (0 + 1 + 1 + a + p + q + q) (by omega) (by omega), w1 (0 + 1 + 1 + a + p + q + q + p) (by omega) (by omega), w1 (0 + 1 + 1 + a + p + q + q + p + a) (by omega) (by omega), w1 (0 + 1 + 1 + a + p + q + q + p + a + 1) (by omega) (by omega), w1 (2 + a) (by omega) (by omega), w1 (2 + a + p) (by omega) (by omega), w1 (2 + a + p + 2 * q) (by omega) (by omega), w1 (2 + a + p + 2 * q + p) (by omega) (by omega), w1 (2 + a + p + 2 * q + p + a) (by omega) (by omega), w1 (2 + a + p + 2 * q + p + a + 1) (by omega) (by omega)]
  omega
theorem right9 {a b c : Int} (ha : 1 ≤ a ∧ a ≤ 64) (hb : 1 ≤ b ∧ b ≤ 64) (hc : 1 ≤ c ∧ c ≤ 64) : (P9 a b c).all right = true ∧ (P11 a b c).all right = true := by
  have key : ∀ n : Int, 1 ≤ n ∧ n ≤ 64 → right ⟨17, 0, 0, n⟩ = true := by
    rintro n ⟨h1, h2⟩
    obtain ⟨k, hk, rfl⟩ : ∃ k : Nat, k < 64 ∧ n = ((k + 1 : Nat) : Int) := ⟨n.toNat - 1, by omega, by omega⟩
    revert k
    decide
  have e1 := key a ha
  have e2 := key b hb
  have e3 := key c hc
  have f0 : right ⟨0, 0, 0, 0⟩ = true := by decide
  have f1 : right ⟨4, 0, 0, 1⟩ = true := by decide
  have f2 : right ⟨18, 0, 0, 0⟩ = true := by decide
  have f3 : right ⟨20, 0, 0, 0⟩ = true := by decide
  have f4 : right ⟨17, 0, 0, 1⟩ = true := by decide
  constructor
  · simp only [P9, List.all_cons, List.all_nil, e1, e2, e3, f0, f1, f2, f3, Bool.and_self]
  · simp only [P11, List.all_cons, List.all_nil, e1, e2, e3, f0, f1, f2, f3, f4, Bool.and_self]
theorem bad9 (a b c : Int) : badAt (P9 a b c) = bif decide (fu (P9 a b c) > 4096) then some (0, 12) else none := by
  unfold badAt
  rw [lo9, wk9]
  rfl
theorem bad11 (a b c : Int) : badAt (P11 a b c) = some (4, 11) := by kernel_rfl
theorem bad2 : Is10 2 (knR (wk P2).2 2 0) (spR (wk P2).2 2 0) P2 := ⟨by kernel_rfl, by kernel_rfl, rfl, rfl⟩
theorem bad3 : badAt P3 = some (1, 11) := by kernel_rfl

theorem knR_plain (cst : List Value) : ∀ k i, PlainL (knR cst k i)
  | 0, _ => by intro x hx; simp [knR] at hx
  | k + 1, i => plain_app (plain_kr cst i) (knR_plain cst k (i + 1))
theorem spR_plain (cst : List Value) : ∀ k i, PlainL (spR cst k i)
  | 0, _ => by intro x hx; simp [spR] at hx
  | k + 1, i => plain_app (plain_sr cst i) (spR_plain cst k (i + 1))
theorem sp2 : (spR (wk P2).2 2 0).length = 32 ∧ nth (spR (wk P2).2 2 0) 16 = some (I 2) ∧ nth (spR (wk P2).2 2 0) 17 = some (I 2) := ⟨by kernel_rfl, by kernel_rfl, by kernel_rfl⟩

set_option maxRecDepth 100000 in
theorem con7_ok (hg : Laid w0) : con7.ok Tryd.prog w0 := by
  intro args bs p rs out e _
  simp only [con7] at e
  split at e <;> first | (simp at e; done) | skip
  simp only [Option.some.injEq, Prod.mk.injEq] at e
  obtain ⟨rfl, rfl, rfl⟩ := e
  change CallS Tryd.prog w0 7 [] (heapB Tryd.prog.globals.size []) fun rs' h' => rs' = [B true] ∧ h' = heapB Tryd.prog.globals.size []
  refine ev_callS (nt := nt0) (cs := [con10v 2 2 (knR (wk P2).2 2 0) (spR (wk P2).2 2 0), con10w 3 1 11, con11]) (f := 7) (bs := []) Tryd.func7 (by kernel_rfl) (fun c hc => by
    simp only [List.mem_cons, List.not_mem_nil, or_false] at hc
    rcases hc with rfl | rfl | rfl
    · exact con10v_ok
    · exact con10w_ok
    · exact con11_ok hg) rfl ?_
  refine (eval7 2 _ _ 1 11 _).mpr ?_
  obtain ⟨s1, s2, s3⟩ := sp2
  have p2 := plain_insC P2
  have p3 := plain_insC P3
  have hb : (16 + 2).ble (spR (wk P2).2 2 0).length = true := by rw [s1]; rfl
  have o1 : okI .i64 (some (I 2)) = true := rfl
  have o2 : intO (some (I 2)) = 2 := rfl
  simp only [Nat.add_zero, s2, s3, hb, o1, o2, veq_ints, Bool.and_self, cond_true, beq_self_eq_true]
  refine ⟨⟨⟨p2, trivial⟩, ⟨p2, knR_plain _ _ _, spR_plain _ _ _, trivial⟩, by trivial, by trivial, by decide, by trivial, bad2⟩, ⟨⟨p3, trivial⟩, ⟨p3, trivial⟩, by trivial, by trivial, by decide, by trivial, bad3⟩, ?_⟩
  exact ⟨⟨trivial, trivial, trivial⟩, trivial, by trivial, by trivial⟩

set_option maxRecDepth 100000 in
theorem call4 (hg : Laid w0) (x y z : Int) : CallS Tryd.prog w0 4 [AG [I x, I y, I z]] (heapB Tryd.prog.globals.size []) fun rs' h' => rs' = [B true] ∧ h' = heapB Tryd.prog.globals.size [] := by
  have ha := m6_in x
  have hb := m6_in y
  have hc := m6_in z
  obtain ⟨r1, r2⟩ := right9 ha hb hc
  have hfu := fuel_eq ha hb hc
  have hbad := bad9 (m6 x) (m6 y) (m6 z)
  have hbad2 := bad11 (m6 x) (m6 y) (m6 z)
  have p9 := plain_insC (P9 (m6 x) (m6 y) (m6 z))
  have p11 := plain_insC (P11 (m6 x) (m6 y) (m6 z))
  cases hf : decide (FU (m6 x) (m6 y) (m6 z) > 4096) with
  | true =>
    rw [hfu, hf, cond_true] at hbad
    refine ev_callS (nt := nt0) (cs := [con7, con10w 9 0 12, con11]) (f := 4) (bs := []) Tryd.func4 (by kernel_rfl) (fun c hc => by
      simp only [List.mem_cons, List.not_mem_nil, or_false] at hc
      rcases hc with rfl | rfl | rfl
      · exact con7_ok hg
      · exact con10w_ok
      · exact con11_ok hg) rfl ?_
    refine (eval4b x y z 0 12 _).mpr ?_
    rw [hf, unIns_insC]
    exact ⟨⟨trivial, trivial, trivial⟩, ⟨⟨p9, trivial⟩, ⟨p9, trivial⟩, rfl, rfl, by decide, r1, hbad⟩, ⟨trivial, trivial, trivial⟩, trivial, rfl, rfl⟩
  | false =>
    rw [hfu, hf, cond_false] at hbad
    refine ev_callS (nt := nt0) (cs := [con7, con10v 9 (FU (m6 x) (m6 y) (m6 z)) (knR (wk (P9 (m6 x) (m6 y) (m6 z))).2 9 0) (spR (wk (P9 (m6 x) (m6 y) (m6 z))).2 9 0), con10w 11 4 11, con11]) (f := 4) (bs := []) Tryd.func4 (by kernel_rfl) (fun c hc => by
      simp only [List.mem_cons, List.not_mem_nil, or_false] at hc
      rcases hc with rfl | rfl | rfl | rfl
      · exact con7_ok hg
      · exact con10v_ok
      · exact con10w_ok
      · exact con11_ok hg) rfl ?_
    refine (eval4a x y z _ _ _ 4 11 _).mpr ?_
    obtain ⟨s1, s2, s3⟩ := sp9 (m6 x) (m6 y) (m6 z)
    have hb : (128 + 2).ble (spR (wk (P9 (m6 x) (m6 y) (m6 z))).2 9 0).length = true := by rw [s1]; rfl
    have o1 : okI .i64 (some (I (-1099511627775))) = true := rfl
    have o2 : intO (some (I (-1099511627775))) = -1099511627775 := rfl
    have o3 : okI .i64 (some (I 1099511627776)) = true := rfl
    have o4 : intO (some (I 1099511627776)) = 1099511627776 := rfl
    have c1 : ((-1099511627775 : Int) == if 1099511627776 < if (-1099511627776) > w ((-1099511627776) + 1) then (-1099511627776) else w ((-1099511627776) + 1) then 1099511627776 else if (-1099511627776) > w ((-1099511627776) + 1) then (-1099511627776) else w ((-1099511627776) + 1)) = true := by decide
    have c2 : ((1099511627776 : Int) == if 1099511627776 < if (-1099511627776) > w (1099511627776 + 1) then (-1099511627776) else w (1099511627776 + 1) then 1099511627776 else if (-1099511627776) > w (1099511627776 + 1) then (-1099511627776) else w (1099511627776 + 1)) = true := by decide
    rw [hf, unIns_insC, unIns_insC]
    simp only [Nat.add_zero, s2, s3, hb, o1, o2, o3, o4, c1, c2, veq_ints, Bool.and_self, cond_true, cond_false, beq_self_eq_true]
    exact ⟨⟨trivial, trivial, trivial⟩, ⟨⟨p9, trivial⟩, ⟨p9, knR_plain _ _ _, spR_plain _ _ _, trivial⟩, trivial, rfl, by decide, r1, ⟨hbad, hfu, rfl, rfl⟩⟩, ⟨⟨p11, trivial⟩, ⟨p11, trivial⟩, trivial, rfl, by decide, r2, hbad2⟩, ⟨trivial, trivial, trivial⟩, trivial, by trivial, by trivial⟩
end Go.Proofs.YtadaindmgmielaaDoor
