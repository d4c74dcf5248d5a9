/- The functions of holds: the table. No condition. -/
import Derived.Test.YtdggbficiakbhaaB6
import Derived.Test.YtdggbficiakbhaaRows
import Derived.KernelRfl
namespace Go.Proofs.Ytdggbficiakbhaa
open Go.Agm
abbrev I (n : Int) : Value := .int .i64 n
/-- No slot owns a block. -/
def tn : Tbl := { ft := fun _ => { loc := fun _ => false, mask := fun _ => [] }, prim := fun _ => none }
theorem nil_run (x : Int) : (runK Try.prog tn 200 11 [I x] (heapOf Try.prog.globals.size [])).map (·.1) = some [.bool true] := by kernel_rfl
end Go.Proofs.Ytdggbficiakbhaa
