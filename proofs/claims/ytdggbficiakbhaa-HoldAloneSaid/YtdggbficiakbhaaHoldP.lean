/- Dropping, telling what is held, comparing: step by step. No condition. -/
import Derived.Test.YtdggbficiakbhaaHoldO
namespace Go.Proofs.Ytdggbficiakbhaa
open Go.Agm
variable {w0 : World}

/-! Drop. -/
def ft31 : FT := { loc := fun _ => false, mask := fun id => bif Nat.beq id 4 then live 33 [0, 9, 10, 11] else [] }
noncomputable def hpD (la : Int) (n m : Nat) (ci ch cl : List Value) (rw : Bool) : List (Option ABlk) :=
  [some (.cells [I la, SL (G + 1) n 1, SL (G + 2) m 2] true), some (.cells ci true), some (.cells ch true), some (.cells cl rw)]
noncomputable def hlD (la : Int) (n m : Nat) (ci ch cl : List Value) (rw : Bool) : List (Option ABlk) :=
  [some (.cells [I la, SL (G + 1) n 1, SL (G + 4) m 2] true), some (.cells ci true), none, some (.cells cl rw), some (.cells ch true)]
noncomputable def hoD (la : Int) (n m : Nat) (ci ch cl co : List Value) (rw : Bool) : List (Option ABlk) :=
  [some (.cells [I la, SL (G + 1) n 1, SL (G + 4) m 2] true), some (.cells ci true), none, some (.cells cl rw), some (.cells ch true), some (.cells co true)]
abbrev nt31 : Nt := { gh := [], flags := [false, true, true, true], paths := [⟨33, [2], true⟩], tr := [] }
abbrev nr31 : Nt := { gh := [], flags := [false, true, true, true], paths := [⟨1, [2], true⟩, ⟨0, [], true⟩], tr := [] }
noncomputable def fr31 (q : Nat) (i : Int) : List AV := frm 33 [(0, .v (PT G)), (9, .v (SL (G + 3) q 1)), (10, .v (I q)), (11, .v (I i))]
noncomputable def todo31 : List Item := todoAt Try.f31 ft31 4 (startF Try.f31 [PT G, SL (G + 3) 0 1]) (heapB G (hpD 0 0 0 [] [] [] true))
abbrev plr (cs : List Value) (rw : Bool) : Prop := plainB (.cells cs rw)
theorem start31 (la : Int) (q n m : Nat) (ci ch cl : List Value) (rw : Bool) (Q : Post) (L : List Item → List AV → AHeap → Prop) :
    segK2 Try.prog ft31 (semM (callsOf G [con43]) Q) Try.f31 [4] 60 [.code (Try.f31.body.getD .skip)] (startF Try.f31 [PT G, SL (G + 3) q 1]) (fun t fr h => canonT G nt31 (L t) fr h) (heapB G (hpD la n m ci ch cl rw))
    = ((pl ci ∧ pl ch ∧ plr cl rw ∧ pl ch ∧ True) ∧ L todo31 (fr31 q 0) (heapB G (hlD la n m ci ch cl rw))) := by kernel_rfl
abbrev xD (cl : List Value) (i : Int) : Int := intO (nth cl (0 + i.toNat * 1))
abbrev chD (m : Nat) (ch cl : List Value) (la i : Int) : List Value := (ch.drop 0).take (m * 2) ++ [I (xD cl i), I la]
theorem head31 (la : Int) (q n m : Nat) (ci ch cl : List Value) (rw : Bool) (i : Int) (K : List Value → AHeap → Prop) (L : List Item → List AV → AHeap → Prop) :
    segK2 Try.prog ft31 (semM (callsOf G [con43]) (retT G nr31 K)) Try.f31 [4] 60 todo31 (fr31 q i) (fun t fr h => canonT G nt31 (L t) fr h) (heapB G (hlD la n m ci ch cl rw))
    = (bif decide (i < q) then bif decide (0 ≤ i) && decide (i < q) then bif okI .i64 (nth cl (0 + i.toNat * 1)) then
         (bif ((m == m && true) && true) then bif room (m + 1) 16 then bif Nat.ble (0 + m * 2) ch.length then
            ((pl ci ∧ plr cl rw ∧ pl (chD m ch cl la i) ∧ True) ∧ L todo31 (fr31 q (w (i + 1))) (heapB G (hlD la n (m + 1) ci (chD m ch cl la i) cl rw)))
          else False else False else False) else False else False
       else ((((pl ci ∧ pl ch ∧ True) ∧ (pl ci ∧ pl (prs (kR ci ch)) ∧ pl (ints (kO ci ch)) ∧ True) ∧ preH n m ci ch) ∧
          (pl ci ∧ plr cl rw ∧ pl (prs (kR ci ch)) ∧ pl (ints (kO ci ch)) ∧ True) ∧
          K [SL (G + 5) (kO ci ch).length 1] (heapB G (hoD la n (kR ci ch).length ci (prs (kR ci ch)) cl (ints (kO ci ch)) rw))))) := by kernel_rfl

/-! Held. -/
def ft32 : FT := { loc := fun _ => false, mask := fun id => bif Nat.beq id 5 then live 24 [3, 11, 12, 13] else [] }
abbrev nt32 : Nt := { gh := [⟨3, none, 1⟩], flags := [false, true, true], paths := [⟨3, [], true⟩], tr := [] }
abbrev nr32 : Nt := { gh := [], flags := [false, true, true], paths := [⟨0, [], true⟩], tr := [] }
noncomputable def fr32 (m k : Nat) (i : Int) : List AV := frm 24 [(3, .v (SL (G + 3) k 1)), (11, .v (SL (G + 2) m 2)), (12, .v (I m)), (13, .v (I i))]
noncomputable def todo32 : List Item := todoAt Try.f32 ft32 5 (startF Try.f32 [PT G]) (heapB G (hpH 0 0 0 [] []))
theorem start32 (la : Int) (n m : Nat) (ci ch : List Value) (Q : Post) (L : List Item → List AV → AHeap → Prop) :
    segK2 Try.prog ft32 (semM (callsOf G []) Q) Try.f32 [5] 60 [.code (Try.f32.body.getD .skip)] (startF Try.f32 [PT G]) (fun t fr h => canonT G nt32 (L t) fr h) (heapB G (hpH la n m ci ch))
    = ((pl ci ∧ pl ch ∧ pl [] ∧ True) ∧ L todo32 (fr32 m 0 0) (heapB G (hoH la n m ci ch []))) := by kernel_rfl
theorem head32 (la : Int) (n m k : Nat) (ci ch co : List Value) (i : Int) (K : List Value → AHeap → Prop) (L : List Item → List AV → AHeap → Prop) :
    segK2 Try.prog ft32 (semM (callsOf G []) (retT G nr32 K)) Try.f32 [5] 60 todo32 (fr32 m k i) (fun t fr h => canonT G nt32 (L t) fr h) (heapB G (hoH la n m ci ch co))
    = (bif decide (i < m) then bif decide (0 ≤ i) && decide (i < m) then bif el ch i then bif room (k + 1) 8 then bif Nat.ble (0 + k * 1) co.length then
         ((pl ci ∧ pl ch ∧ pl ((co.drop 0).take (k * 1) ++ [I (eX ch i)]) ∧ True) ∧ L todo32 (fr32 m (k + 1) (w (i + 1))) (heapB G (hoH la n m ci ch ((co.drop 0).take (k * 1) ++ [I (eX ch i)]))))
         else False else False else False else False
       else ((pl ci ∧ pl ch ∧ pl co ∧ True) ∧ K [SL (G + 3) k 1] (heapB G (hoH la n m ci ch co)))) := by kernel_rfl

/-! same. -/
def ft30 : FT := { loc := fun _ => false, mask := fun id => bif Nat.beq id 4 then live 26 [0, 1, 5] else [] }
noncomputable def hpS (ca cb : List Value) (ra rb : Bool) : List (Option ABlk) := [some (.cells ca ra), some (.cells cb rb)]
abbrev nt30 : Nt := { gh := [], flags := [true, true], paths := [], tr := [] }
noncomputable def fr30 (p q : Nat) (i : Int) : List AV := frm 26 [(0, .v (SL G p 1)), (1, .v (SL (G + 1) q 1)), (5, .v (I i))]
noncomputable def todo30 : List Item := todoAt Try.f30 ft30 4 (startF Try.f30 [SL G 0 1, SL (G + 1) 0 1]) (heapB G (hpS [] [] true true))
theorem start30 (p q : Nat) (ca cb : List Value) (ra rb : Bool) (K : List Value → AHeap → Prop) (L : List Item → List AV → AHeap → Prop) :
    segK2 Try.prog ft30 (semM (callsOf G []) (retT G nt30 K)) Try.f30 [4] 60 [.code (Try.f30.body.getD .skip)] (startF Try.f30 [SL G p 1, SL (G + 1) q 1]) (fun t fr h => canonT G nt30 (L t) fr h) (heapB G (hpS ca cb ra rb))
    = (bif !((p : Int) == (q : Int)) then ((plr ca ra ∧ plr cb rb ∧ True) ∧ K [.bool false] (heapB G (hpS ca cb ra rb)))
       else ((plr ca ra ∧ plr cb rb ∧ True) ∧ L todo30 (fr30 p q 0) (heapB G (hpS ca cb ra rb)))) := by kernel_rfl
theorem head30 (p q : Nat) (ca cb : List Value) (ra rb : Bool) (i : Int) (K : List Value → AHeap → Prop) (L : List Item → List AV → AHeap → Prop) :
    segK2 Try.prog ft30 (semM (callsOf G []) (retT G nt30 K)) Try.f30 [4] 60 todo30 (fr30 p q i) (fun t fr h => canonT G nt30 (L t) fr h) (heapB G (hpS ca cb ra rb))
    = (bif decide (i < q) then bif decide (0 ≤ i) && decide (i < p) then bif okI .i64 (nth ca (0 + i.toNat * 1)) then bif decide (0 ≤ i) && decide (i < q) then bif okI .i64 (nth cb (0 + i.toNat * 1)) then
         (bif !(intO (nth ca (0 + i.toNat * 1)) == intO (nth cb (0 + i.toNat * 1))) then ((plr ca ra ∧ plr cb rb ∧ True) ∧ K [.bool false] (heapB G (hpS ca cb ra rb)))
          else ((plr ca ra ∧ plr cb rb ∧ True) ∧ L todo30 (fr30 p q (w (i + 1))) (heapB G (hpS ca cb ra rb))))
         else False else False else False else False
       else ((plr ca ra ∧ plr cb rb ∧ True) ∧ K [.bool true] (heapB G (hpS ca cb ra rb)))) := by kernel_rfl
end Go.Proofs.Ytdggbficiakbhaa
