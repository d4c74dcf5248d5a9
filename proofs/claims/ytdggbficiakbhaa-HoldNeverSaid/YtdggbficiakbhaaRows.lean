/-
  No cell of these rows narrows 'for every input' (looked for: loops, veiled, ifaces, maps, wideKeys, modest, calm, conditions, laid).
  DERIVED. THE GIVEN ROWS OF THIS SEAT. 9 by the template 'for every input the law returns true; each argument reads behind the call as it read before'; 0 by the template 'total and deterministic' (their statements: YtdggbficiakbhaaTotals.lean).
  GIVEN WITH THE SEED: the statements are not yours to turn. If you find one false, say at which input.
  Laid BY PROGRAM, IN A SANDBOX (cutbox-rows.mjs): the forced cells as the released guide's own fill.sh prints them over the translation ac4a93cb3a8463f2… (all of the seat's roots in one cut). By AI agents, Wed Nov 11 2026. No macro, syntax, notation, axiom, sorry.
-/
import Derived.Test.YtdggbficiakbhaaChecked
import GoSem.Claim
import GoSem.ClaimJoined
import GoSem.ClaimMapViews
import Derived.JoinedTies
import Derived.KernelRfl
namespace Go.Proofs.Ytdggbficiakbhaa
/- THE CELL 'sum', in the pinned program and in every row, IS THE sha256 OF THE DUMP (.gsa) THAT YtdggbficiakbhaaProg.lean LOADS. Nothing in Lean hashes anything: it is a label: what it is worth is what the hold of that sum in a sandbox is worth. -/
noncomputable def Try.pinned : Pinned := { name := "ytdggbficiakbhaa", sum := "ac4a93cb3a8463f27e733914bd305c2f74ed8eceecfd138d9860da7c9084a113", checked := Try.checked }
namespace Rows
def none {H : Type} : Left H := { results := [], args := [] }

/-- 'posthorselaw18.SpanWithin': WHATEVER THE INPUT: true; the input reads as it did. -/
def spanWithinSpec : ChangeSpec := { name := "spanWithin", fn := fun _ => fun
  | [d1, d2, d3] => { results := [.lit (.bool true)], args := [d1, d2, d3] }
  | _ => none }
def spanWithinRow : OpenClaim := { program := "ytdggbficiakbhaa", sum := "ac4a93cb3a8463f27e733914bd305c2f74ed8eceecfd138d9860da7c9084a113", func := "posthorse/posthorselaw18.SpanWithin", spec := "spanWithin", apart := false }
def SpanWithinSaid : Prop := spanWithinRow.holds Try.pinned (OpenSpec.ofChange spanWithinSpec)

/-- ITS FALSE NEIGHBOUR: 'it returns false'. Refute it at one input. -/
def spanWithinWrong : ChangeSpec := { name := "spanWithin", fn := fun _ => fun
  | [d1, d2, d3] => { results := [.lit (.bool false)], args := [d1, d2, d3] }
  | _ => none }
def SpanWithinWrongFalsely : Prop := spanWithinRow.holds Try.pinned (OpenSpec.ofChange spanWithinWrong)

/-- 'posthorselaw18.SpanJoins': WHATEVER THE INPUT: true; the input reads as it did. -/
def spanJoinsSpec : ChangeSpec := { name := "spanJoins", fn := fun _ => fun
  | [d1, d2, d3] => { results := [.lit (.bool true)], args := [d1, d2, d3] }
  | _ => none }
def spanJoinsRow : OpenClaim := { program := "ytdggbficiakbhaa", sum := "ac4a93cb3a8463f27e733914bd305c2f74ed8eceecfd138d9860da7c9084a113", func := "posthorse/posthorselaw18.SpanJoins", spec := "spanJoins", apart := false }
def SpanJoinsSaid : Prop := spanJoinsRow.holds Try.pinned (OpenSpec.ofChange spanJoinsSpec)

/-- ITS FALSE NEIGHBOUR: 'it returns false'. Refute it at one input. -/
def spanJoinsWrong : ChangeSpec := { name := "spanJoins", fn := fun _ => fun
  | [d1, d2, d3] => { results := [.lit (.bool false)], args := [d1, d2, d3] }
  | _ => none }
def SpanJoinsWrongFalsely : Prop := spanJoinsRow.holds Try.pinned (OpenSpec.ofChange spanJoinsWrong)

/-- 'posthorselaw18.SpanLeast': WHATEVER THE INPUT: true; the input reads as it did. -/
def spanLeastSpec : ChangeSpec := { name := "spanLeast", fn := fun _ => fun
  | [d1, d2, d3] => { results := [.lit (.bool true)], args := [d1, d2, d3] }
  | _ => none }
def spanLeastRow : OpenClaim := { program := "ytdggbficiakbhaa", sum := "ac4a93cb3a8463f27e733914bd305c2f74ed8eceecfd138d9860da7c9084a113", func := "posthorse/posthorselaw18.SpanLeast", spec := "spanLeast", unfollowed := true, recurses := true, apart := false }
def SpanLeastSaid : Prop := spanLeastRow.holds Try.pinned (OpenSpec.ofChange spanLeastSpec)

/-- ITS FALSE NEIGHBOUR: 'it returns false'. Refute it at one input. -/
def spanLeastWrong : ChangeSpec := { name := "spanLeast", fn := fun _ => fun
  | [d1, d2, d3] => { results := [.lit (.bool false)], args := [d1, d2, d3] }
  | _ => none }
def SpanLeastWrongFalsely : Prop := spanLeastRow.holds Try.pinned (OpenSpec.ofChange spanLeastWrong)

/-- 'posthorselaw18.SpanHas': WHATEVER THE INPUT: true; the input reads as it did. -/
def spanHasSpec : ChangeSpec := { name := "spanHas", fn := fun _ => fun
  | [d1, d2, d3] => { results := [.lit (.bool true)], args := [d1, d2, d3] }
  | _ => none }
def spanHasRow : OpenClaim := { program := "ytdggbficiakbhaa", sum := "ac4a93cb3a8463f27e733914bd305c2f74ed8eceecfd138d9860da7c9084a113", func := "posthorse/posthorselaw18.SpanHas", spec := "spanHas", unfollowed := true, recurses := true, apart := false }
def SpanHasSaid : Prop := spanHasRow.holds Try.pinned (OpenSpec.ofChange spanHasSpec)

/-- ITS FALSE NEIGHBOUR: 'it returns false'. Refute it at one input. -/
def spanHasWrong : ChangeSpec := { name := "spanHas", fn := fun _ => fun
  | [d1, d2, d3] => { results := [.lit (.bool false)], args := [d1, d2, d3] }
  | _ => none }
def SpanHasWrongFalsely : Prop := spanHasRow.holds Try.pinned (OpenSpec.ofChange spanHasWrong)

/-- 'posthorselaw15.HoldAlone': WHATEVER THE INPUT: true; the input reads as it did. -/
def holdAloneSpec : ChangeSpec := { name := "holdAlone", fn := fun _ => fun
  | [d1, d2] => { results := [.lit (.bool true)], args := [d1, d2] }
  | _ => none }
def holdAloneRow : OpenClaim := { program := "ytdggbficiakbhaa", sum := "ac4a93cb3a8463f27e733914bd305c2f74ed8eceecfd138d9860da7c9084a113", func := "posthorse/posthorselaw15.HoldAlone", spec := "holdAlone", unfollowed := true, recurses := true, apart := false }
def HoldAloneSaid : Prop := holdAloneRow.holds Try.pinned (OpenSpec.ofChange holdAloneSpec)

/-- ITS FALSE NEIGHBOUR: 'it returns false'. Refute it at one input. -/
def holdAloneWrong : ChangeSpec := { name := "holdAlone", fn := fun _ => fun
  | [d1, d2] => { results := [.lit (.bool false)], args := [d1, d2] }
  | _ => none }
def HoldAloneWrongFalsely : Prop := holdAloneRow.holds Try.pinned (OpenSpec.ofChange holdAloneWrong)

/-- 'posthorselaw15.HoldOrder': WHATEVER THE INPUT: true; the input reads as it did. -/
def holdOrderSpec : ChangeSpec := { name := "holdOrder", fn := fun _ => fun
  | [d1, d2] => { results := [.lit (.bool true)], args := [d1, d2] }
  | _ => none }
def holdOrderRow : OpenClaim := { program := "ytdggbficiakbhaa", sum := "ac4a93cb3a8463f27e733914bd305c2f74ed8eceecfd138d9860da7c9084a113", func := "posthorse/posthorselaw15.HoldOrder", spec := "holdOrder", unfollowed := true, recurses := true, apart := false }
def HoldOrderSaid : Prop := holdOrderRow.holds Try.pinned (OpenSpec.ofChange holdOrderSpec)

/-- ITS FALSE NEIGHBOUR: 'it returns false'. Refute it at one input. -/
def holdOrderWrong : ChangeSpec := { name := "holdOrder", fn := fun _ => fun
  | [d1, d2] => { results := [.lit (.bool false)], args := [d1, d2] }
  | _ => none }
def HoldOrderWrongFalsely : Prop := holdOrderRow.holds Try.pinned (OpenSpec.ofChange holdOrderWrong)

/-- 'posthorselaw15.HoldPlays': WHATEVER THE INPUT: true; the input reads as it did. -/
def holdPlaysSpec : ChangeSpec := { name := "holdPlays", fn := fun _ => fun
  | [d] => { results := [.lit (.bool true)], args := [d] }
  | _ => none }
def holdPlaysRow : OpenClaim := { program := "ytdggbficiakbhaa", sum := "ac4a93cb3a8463f27e733914bd305c2f74ed8eceecfd138d9860da7c9084a113", func := "posthorse/posthorselaw15.HoldPlays", spec := "holdPlays", unfollowed := true, recurses := true, apart := false }
def HoldPlaysSaid : Prop := holdPlaysRow.holds Try.pinned (OpenSpec.ofChange holdPlaysSpec)

/-- ITS FALSE NEIGHBOUR: 'it returns false'. Refute it at one input. -/
def holdPlaysWrong : ChangeSpec := { name := "holdPlays", fn := fun _ => fun
  | [d] => { results := [.lit (.bool false)], args := [d] }
  | _ => none }
def HoldPlaysWrongFalsely : Prop := holdPlaysRow.holds Try.pinned (OpenSpec.ofChange holdPlaysWrong)

/-- 'posthorselaw15.HoldNever': WHATEVER THE INPUT: true; the input reads as it did. -/
def holdNeverSpec : ChangeSpec := { name := "holdNever", fn := fun _ => fun
  | [d] => { results := [.lit (.bool true)], args := [d] }
  | _ => none }
def holdNeverRow : OpenClaim := { program := "ytdggbficiakbhaa", sum := "ac4a93cb3a8463f27e733914bd305c2f74ed8eceecfd138d9860da7c9084a113", func := "posthorse/posthorselaw15.HoldNever", spec := "holdNever", unfollowed := true, recurses := true, apart := false }
def HoldNeverSaid : Prop := holdNeverRow.holds Try.pinned (OpenSpec.ofChange holdNeverSpec)

/-- ITS FALSE NEIGHBOUR: 'it returns false'. Refute it at one input. -/
def holdNeverWrong : ChangeSpec := { name := "holdNever", fn := fun _ => fun
  | [d] => { results := [.lit (.bool false)], args := [d] }
  | _ => none }
def HoldNeverWrongFalsely : Prop := holdNeverRow.holds Try.pinned (OpenSpec.ofChange holdNeverWrong)

/-- 'posthorselaw15.HoldNil': WHATEVER THE INPUT: true; the input reads as it did. -/
def holdNilSpec : ChangeSpec := { name := "holdNil", fn := fun _ => fun
  | [d] => { results := [.lit (.bool true)], args := [d] }
  | _ => none }
def holdNilRow : OpenClaim := { program := "ytdggbficiakbhaa", sum := "ac4a93cb3a8463f27e733914bd305c2f74ed8eceecfd138d9860da7c9084a113", func := "posthorse/posthorselaw15.HoldNil", spec := "holdNil", unfollowed := true, recurses := true, apart := false }
def HoldNilSaid : Prop := holdNilRow.holds Try.pinned (OpenSpec.ofChange holdNilSpec)

/-- ITS FALSE NEIGHBOUR: 'it returns false'. Refute it at one input. -/
def holdNilWrong : ChangeSpec := { name := "holdNil", fn := fun _ => fun
  | [d] => { results := [.lit (.bool false)], args := [d] }
  | _ => none }
def HoldNilWrongFalsely : Prop := holdNilRow.holds Try.pinned (OpenSpec.ofChange holdNilWrong)

/- THE SECOND FORM. 'bulk': how many values and letters a reading holds, each counted each time it is reached (what is shared counts as often as it is met; a slice's spare places count too). A statement '..UptoSaid' is the law's where the arguments, and the package variables that the reading takes, are together of bulk at most 1048576: NARROWER than '..Said'. Prove '..Said' where nothing that the law and all that it calls make is longer than what came in: it says more and counts as full. Else prove '..UptoSaid'. A law counts once. -/
mutual
def uptoBulk {H : Type} : DataW H → Nat
  | .lit (.string bytes) => bytes.length + 1
  | .lit _ => 1
  | .nil => 1
  | .ptr d => uptoBulk d + 1
  | .slice elems spare => uptoBulkAll elems + uptoBulkAll spare + 1
  | .agg parts => uptoBulkAll parts + 1
  | .iface _ d => uptoBulk d + 1
  | .map entries => uptoBulkEntries entries + 1
  | .held _ => 1
def uptoBulkAll {H : Type} : List (DataW H) → Nat
  | [] => 0
  | d :: r => uptoBulk d + uptoBulkAll r
def uptoBulkEntries {H : Type} : List (Lit × DataW H) → Nat
  | [] => 0
  | x :: r => uptoBulkEntry x + uptoBulkEntries r
def uptoBulkEntry {H : Type} : Lit × DataW H → Nat
  | (.string bytes, d) => bytes.length + uptoBulk d + 1
  | (_, d) => uptoBulk d + 1
 end
def uptoSmall : (H : Type) → List (DataW H) → Bool := fun _ ds => decide (uptoBulkAll ds ≤ 1048576)
def OpenSpec.upto (s : _root_.Go.ChangeSpec) : _root_.Go.OpenSpec := { _root_.Go.OpenSpec.ofChange s with cond := some uptoSmall }

/-- 'posthorselaw18.SpanWithin', WHERE WHAT IT READS IS OF BULK AT MOST 1048576: true; the input reads as it did. -/
def spanWithinUptoRow : OpenClaim := { program := "ytdggbficiakbhaa", sum := "ac4a93cb3a8463f27e733914bd305c2f74ed8eceecfd138d9860da7c9084a113", func := "posthorse/posthorselaw18.SpanWithin", spec := "spanWithin", apart := false, narrowed := true }
def SpanWithinUptoSaid : Prop := spanWithinUptoRow.holds Try.pinned (OpenSpec.upto spanWithinSpec)

/-- 'posthorselaw18.SpanJoins', WHERE WHAT IT READS IS OF BULK AT MOST 1048576: true; the input reads as it did. -/
def spanJoinsUptoRow : OpenClaim := { program := "ytdggbficiakbhaa", sum := "ac4a93cb3a8463f27e733914bd305c2f74ed8eceecfd138d9860da7c9084a113", func := "posthorse/posthorselaw18.SpanJoins", spec := "spanJoins", apart := false, narrowed := true }
def SpanJoinsUptoSaid : Prop := spanJoinsUptoRow.holds Try.pinned (OpenSpec.upto spanJoinsSpec)

/-- 'posthorselaw18.SpanLeast', WHERE WHAT IT READS IS OF BULK AT MOST 1048576: true; the input reads as it did. -/
def spanLeastUptoRow : OpenClaim := { program := "ytdggbficiakbhaa", sum := "ac4a93cb3a8463f27e733914bd305c2f74ed8eceecfd138d9860da7c9084a113", func := "posthorse/posthorselaw18.SpanLeast", spec := "spanLeast", unfollowed := true, recurses := true, apart := false, narrowed := true }
def SpanLeastUptoSaid : Prop := spanLeastUptoRow.holds Try.pinned (OpenSpec.upto spanLeastSpec)

/-- 'posthorselaw18.SpanHas', WHERE WHAT IT READS IS OF BULK AT MOST 1048576: true; the input reads as it did. -/
def spanHasUptoRow : OpenClaim := { program := "ytdggbficiakbhaa", sum := "ac4a93cb3a8463f27e733914bd305c2f74ed8eceecfd138d9860da7c9084a113", func := "posthorse/posthorselaw18.SpanHas", spec := "spanHas", unfollowed := true, recurses := true, apart := false, narrowed := true }
def SpanHasUptoSaid : Prop := spanHasUptoRow.holds Try.pinned (OpenSpec.upto spanHasSpec)

/-- 'posthorselaw15.HoldAlone', WHERE WHAT IT READS IS OF BULK AT MOST 1048576: true; the input reads as it did. -/
def holdAloneUptoRow : OpenClaim := { program := "ytdggbficiakbhaa", sum := "ac4a93cb3a8463f27e733914bd305c2f74ed8eceecfd138d9860da7c9084a113", func := "posthorse/posthorselaw15.HoldAlone", spec := "holdAlone", unfollowed := true, recurses := true, apart := false, narrowed := true }
def HoldAloneUptoSaid : Prop := holdAloneUptoRow.holds Try.pinned (OpenSpec.upto holdAloneSpec)

/-- 'posthorselaw15.HoldOrder', WHERE WHAT IT READS IS OF BULK AT MOST 1048576: true; the input reads as it did. -/
def holdOrderUptoRow : OpenClaim := { program := "ytdggbficiakbhaa", sum := "ac4a93cb3a8463f27e733914bd305c2f74ed8eceecfd138d9860da7c9084a113", func := "posthorse/posthorselaw15.HoldOrder", spec := "holdOrder", unfollowed := true, recurses := true, apart := false, narrowed := true }
def HoldOrderUptoSaid : Prop := holdOrderUptoRow.holds Try.pinned (OpenSpec.upto holdOrderSpec)

/-- 'posthorselaw15.HoldPlays', WHERE WHAT IT READS IS OF BULK AT MOST 1048576: true; the input reads as it did. -/
def holdPlaysUptoRow : OpenClaim := { program := "ytdggbficiakbhaa", sum := "ac4a93cb3a8463f27e733914bd305c2f74ed8eceecfd138d9860da7c9084a113", func := "posthorse/posthorselaw15.HoldPlays", spec := "holdPlays", unfollowed := true, recurses := true, apart := false, narrowed := true }
def HoldPlaysUptoSaid : Prop := holdPlaysUptoRow.holds Try.pinned (OpenSpec.upto holdPlaysSpec)

/-- 'posthorselaw15.HoldNever', WHERE WHAT IT READS IS OF BULK AT MOST 1048576: true; the input reads as it did. -/
def holdNeverUptoRow : OpenClaim := { program := "ytdggbficiakbhaa", sum := "ac4a93cb3a8463f27e733914bd305c2f74ed8eceecfd138d9860da7c9084a113", func := "posthorse/posthorselaw15.HoldNever", spec := "holdNever", unfollowed := true, recurses := true, apart := false, narrowed := true }
def HoldNeverUptoSaid : Prop := holdNeverUptoRow.holds Try.pinned (OpenSpec.upto holdNeverSpec)

/-- 'posthorselaw15.HoldNil', WHERE WHAT IT READS IS OF BULK AT MOST 1048576: true; the input reads as it did. -/
def holdNilUptoRow : OpenClaim := { program := "ytdggbficiakbhaa", sum := "ac4a93cb3a8463f27e733914bd305c2f74ed8eceecfd138d9860da7c9084a113", func := "posthorse/posthorselaw15.HoldNil", spec := "holdNil", unfollowed := true, recurses := true, apart := false, narrowed := true }
def HoldNilUptoSaid : Prop := holdNilUptoRow.holds Try.pinned (OpenSpec.upto holdNilSpec)

end Rows
end Go.Proofs.Ytdggbficiakbhaa
