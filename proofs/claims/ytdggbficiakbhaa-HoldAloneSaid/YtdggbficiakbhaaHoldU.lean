/- The law HoldAlone: step by step. No condition. -/
import Derived.Test.YtdggbficiakbhaaHoldQ
namespace Go.Proofs.Ytdggbficiakbhaa
open Go.Agm
variable {w0 : World}

abbrev and64 (x y : Int) : Int := w (BitVec.ofInt 64 x &&& BitVec.ofInt 64 y).toNat
def lo (a b : Int) : Int := if b < a then b else a
noncomputable def cs7 : List Con := [con27, con28, con29, con30, con31, con32]
def ft7 : FT := { loc := fun _ => false, mask := fun id => bif Nat.beq id 5 then live 41 [0, 1, 5, 6] else bif Nat.beq id 9 then live 41 [1, 5, 7] else [] }
abbrev nt7 : Nt := { gh := [⟨5, some ([], 1), 1⟩, ⟨5, some ([], 2), 2⟩], flags := [true], paths := [⟨5, [], false⟩, ⟨5, [1], true⟩, ⟨5, [2], true⟩], tr := [] }
abbrev nt7b : Nt := { gh := [⟨7, none, 1⟩], flags := [true], paths := [⟨5, [], false⟩, ⟨5, [1], true⟩, ⟨5, [2], true⟩, ⟨7, [], true⟩], tr := [] }
/-- The law's heap: the row, the holds. -/
noncomputable def hp7 (la : Int) (n m : Nat) (cl ci ch : List Value) (rw : Bool) : List (Option ABlk) :=
  [some (.cells cl rw), some (.cells [I la, SL (G + 2) n 1, SL (G + 3) m 2] true), some (.cells ci true), some (.cells ch true)]
noncomputable def hp7b (la : Int) (n m : Nat) (cl ci ch ct : List Value) (rw : Bool) : List (Option ABlk) :=
  [some (.cells cl rw), some (.cells [I la, SL (G + 2) n 1, SL (G + 3) m 2] true), some (.cells ci true), some (.cells ch true), some (.cells ct true)]
noncomputable def fr7 (q : Nat) (e i : Int) : List AV := frm 41 [(0, .v (SL G q 1)), (1, .v (I e)), (5, .v (PT (G + 1))), (6, .v (I i))]
noncomputable def fr7b (e : Int) (k : Nat) : List AV := frm 41 [(1, .v (I e)), (5, .v (PT (G + 1))), (7, .v (SL (G + 4) k 1))]
noncomputable def todo7 : List Item := segK2 Try.prog ft7 { fail := [], ret := fun _ _ => [], call := fun _ _ h k => k [.bool true] h } Try.f7 [5] 60 [.code (Try.f7.body.getD .skip)] (startF Try.f7 [SL G 0 1, I 0]) (fun t _ _ => t) (heapB G [some (.cells [] true)])
noncomputable def todo7b : List Item := segK2 Try.prog ft7 { fail := [], ret := fun _ _ => [], call := fun _ _ h k => k [.bool true] h } Try.f7 [9] 60 todo7 (fr7 0 0 0) (fun t _ _ => t) (heapB G (hp7 0 0 0 [] [] [] true))

abbrev leaf7 (L1 L2 : List Item → List AV → AHeap → Prop) : List Item → List AV → AHeap → Prop := fun t fr h => match t with
  | .code (.region 5 _ _) :: _ => canonT G nt7 (L1 t) fr h
  | .code (.region 9 _ _) :: _ => canonT G nt7b (L2 t) fr h
  | _ => False

theorem start7 (q : Nat) (e : Int) (cl : List Value) (rw : Bool) (Q : Post) (L1 L2 : List Item → List AV → AHeap → Prop) :
    segK2 Try.prog ft7 (semM (callsOf G cs7) Q) Try.f7 [5, 9] 60 [.code (Try.f7.body.getD .skip)] (startF Try.f7 [SL G q 1, I e]) (leaf7 L1 L2) (heapB G [some (.cells cl rw)])
    = ((True ∧ True ∧ True) ∧ (plr cl rw ∧ pl [] ∧ pl [] ∧ True) ∧ L1 todo7 (fr7 q e 0) (heapB G (hp7 0 0 0 cl [] [] rw))) := by kernel_rfl
end Go.Proofs.Ytdggbficiakbhaa
