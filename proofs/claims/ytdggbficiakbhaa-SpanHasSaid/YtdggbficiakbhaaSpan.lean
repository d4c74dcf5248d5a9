/- The functions of spans: what each answers, said once. No condition. -/
import Derived.Test.YtdggbficiakbhaaA22
import Derived.Test.YtdggbficiakbhaaRows
namespace Go.Proofs.Ytdggbficiakbhaa
open Go.Agm

/-- Which slots live at the head of the one loop. -/
def live19 : List Bool := [true, true, false, false, true, true, true] ++ List.replicate 39 false
def tb : Tbl := { ft := fun f => { loc := fun _ => true, mask := fun id => bif Nat.beq f 19 && Nat.beq id 7 then live19 else [] }, prim := fun _ => none }
noncomputable abbrev R := run Try.prog tb
abbrev w (n : Int) : Int := IntKind.i64.wrap n
abbrev I (n : Int) : Value := .int .i64 n
abbrev S (a b : Int) : Value := .agg #[I a, I b]
abbrev big : Int := 1099511627776
def lo (a b : Int) : Int := if b < a then b else a
def hi (a b : Int) : Int := if b > a then b else a
def cap (a : Int) : Int := lo (hi a (-big)) big
def rcap (a : Int) : Int := if a < -big then -big else if a > big then big else a
def wi (a b o k n : Int) : Bool := bif decide (w (a + o) ≥ 0) then decide (w (w (b + o) + k) ≤ n) else false

theorem speaks_run (h : AHeap) : R 12 [] h = some ([.bool true], h) := run_of (n := 60) (by kernel_rfl)
theorem cap_run (a : Int) (h : AHeap) : R 25 [I a] h = some ([I (cap a)], h) := run_of (n := 60) (by kernel_rfl)
theorem rcap_run (a : Int) (h : AHeap) : R 18 [I a] h = some ([I (rcap a)], h) := by
  have : runK Try.prog tb 60 18 [I a] h = bif decide (a < -big) then some ([I (-big)], h) else bif decide (a > big) then some ([I big], h) else some ([I a], h) := by kernel_rfl
  refine run_of (n := 60) ?_
  rw [this]
  unfold rcap
  by_cases h1 : a < -big
  · simp [h1]
  · by_cases h2 : a > big <;> simp [h1, h2]
theorem add_run (a b c d : Int) (h : AHeap) : R 20 [S a b, S c d] h = some ([S (cap (w (a + c))) (cap (w (b + d)))], h) := run_of (n := 60) (by kernel_rfl)
theorem sub_run (a b c d : Int) (h : AHeap) : R 21 [S a b, S c d] h = some ([S (cap (w (a - d))) (cap (w (b - c)))], h) := run_of (n := 60) (by kernel_rfl)
theorem join_run (a b c d : Int) (h : AHeap) : R 15 [S a b, S c d] h = some ([S (lo a c) (hi b d)], h) := run_of (n := 60) (by kernel_rfl)
theorem top_run (h : AHeap) : R 16 [] h = some ([S (-big) big], h) := run_of (n := 60) (by kernel_rfl)
theorem has_run (a b n : Int) (h : AHeap) : R 17 [S a b, I n] h = some ([.bool (bif decide (n ≥ a) then decide (n ≤ b) else false)], h) := by
  have : runK Try.prog tb 60 17 [S a b, I n] h = bif decide (n ≥ a) then some ([.bool (decide (n ≤ b))], h) else some ([.bool false], h) := by kernel_rfl
  refine run_of (n := 60) ?_
  rw [this]
  cases decide (n ≥ a) <;> rfl
theorem within_run (a b o k n : Int) (h : AHeap) : R 14 [S a b, I o, I k, I n] h = some ([.bool (wi a b o k n)], h) := by
  have : runK Try.prog tb 60 14 [S a b, I o, I k, I n] h = bif decide (w (a + o) ≥ 0) then some ([.bool (decide (w (w (b + o) + k) ≤ n))], h) else some ([.bool false], h) := by kernel_rfl
  refine run_of (n := 60) ?_
  rw [this, wi]
  cases decide (w (a + o) ≥ 0) <;> rfl

/-- What functions answer that leave the heap. -/
abbrev Ans := List Value → Option (List Value)
def asks : List (Nat × Ans) → Calls1
  | [], _, _, _ => none
  | (g, a) :: l, f, xs, h => bif Nat.beq g f then (a xs).bind fun rs => some (rs, h) else asks l f xs h
theorem asks_nil {c : Calls1} : CLe (asks []) c := fun _ _ _ _ e => by simp [asks] at e
theorem asks_cons {c : Calls1} {g : Nat} {a : Ans} {l : List (Nat × Ans)} (h1 : ∀ xs rs h, a xs = some rs → c g xs h = some (rs, h)) (h2 : CLe (asks l) c) : CLe (asks ((g, a) :: l)) c := by
  intro f xs h r e
  simp only [asks] at e
  cases hb : Nat.beq g f with
  | false => rw [hb] at e; exact h2 f xs h r e
  | true =>
    have := Nat.eq_of_beq_eq_true hb
    subst this
    rw [hb] at e
    simp only [cond_true, Option.bind_eq_some_iff, Option.some.injEq] at e
    obtain ⟨rs, h3, rfl⟩ := e
    exact h1 xs rs h h3

def a0 (v : Value) : Ans | [] => some [v] | _ => none
def a1 (g : Int → Value) : Ans | [.int .i64 a] => some [g a] | _ => none
def aS1 (g : Int → Int → Int → Value) : Ans | [.agg x, .int .i64 n] => (match x.toList with | [.int .i64 a, .int .i64 b] => some [g a b n] | _ => none) | _ => none
def aSS (g : Int → Int → Int → Int → Value) : Ans | [.agg x, .agg y] => (match x.toList, y.toList with | [.int .i64 a, .int .i64 b], [.int .i64 c, .int .i64 d] => some [g a b c d] | _, _ => none) | _ => none
def aS (g : Int → Int → Value) : Ans | [.agg x] => (match x.toList with | [.int .i64 a, .int .i64 b] => some [g a b] | _ => none) | _ => none
def aS3 (g : Int → Int → Int → Int → Int → Value) : Ans | [.agg x, .int .i64 o, .int .i64 k, .int .i64 n] => (match x.toList with | [.int .i64 a, .int .i64 b] => some [g a b o k n] | _ => none) | _ => none
variable {f : Nat}
theorem a0_ok {v : Value} (ht : ∀ h, R f [] h = some ([v], h)) (xs : List Value) (rs : List Value) (h : AHeap) (e : a0 v xs = some rs) : R f xs h = some (rs, h) := by
  unfold a0 at e; split at e <;> simp at e; subst e; exact ht h
theorem a1_ok {g : Int → Value} (ht : ∀ a h, R f [I a] h = some ([g a], h)) (xs : List Value) (rs : List Value) (h : AHeap) (e : a1 g xs = some rs) : R f xs h = some (rs, h) := by
  unfold a1 at e; split at e <;> simp at e; subst e; exact ht _ h
theorem aS_ok {g : Int → Int → Value} (ht : ∀ a b h, R f [S a b] h = some ([g a b], h)) (xs : List Value) (rs : List Value) (h : AHeap) (e : aS g xs = some rs) : R f xs h = some (rs, h) := by
  unfold aS at e; split at e <;> first | (simp at e; done) | skip
  rename_i x
  split at e <;> simp at e
  rename_i a b hx
  subst e
  have : x = #[I a, I b] := Array.toList_inj.1 hx
  subst this; exact ht _ _ h
theorem aS1_ok {g : Int → Int → Int → Value} (ht : ∀ a b n h, R f [S a b, I n] h = some ([g a b n], h)) (xs : List Value) (rs : List Value) (h : AHeap) (e : aS1 g xs = some rs) : R f xs h = some (rs, h) := by
  unfold aS1 at e; split at e <;> first | (simp at e; done) | skip
  rename_i x n
  split at e <;> simp at e
  rename_i a b hx
  subst e
  have : x = #[I a, I b] := Array.toList_inj.1 hx
  subst this; exact ht _ _ _ h
theorem aS3_ok {g : Int → Int → Int → Int → Int → Value} (ht : ∀ a b o k n h, R f [S a b, I o, I k, I n] h = some ([g a b o k n], h)) (xs : List Value) (rs : List Value) (h : AHeap) (e : aS3 g xs = some rs) : R f xs h = some (rs, h) := by
  unfold aS3 at e; split at e <;> first | (simp at e; done) | skip
  rename_i x o k n
  split at e <;> simp at e
  rename_i a b hx
  subst e
  have : x = #[I a, I b] := Array.toList_inj.1 hx
  subst this; exact ht _ _ _ _ _ h
theorem aSS_ok {g : Int → Int → Int → Int → Value} (ht : ∀ a b c d h, R f [S a b, S c d] h = some ([g a b c d], h)) (xs : List Value) (rs : List Value) (h : AHeap) (e : aSS g xs = some rs) : R f xs h = some (rs, h) := by
  unfold aSS at e; split at e <;> first | (simp at e; done) | skip
  rename_i x y
  split at e <;> simp at e
  rename_i a b c d hx hy
  subst e
  have h1 : x = #[I a, I b] := Array.toList_inj.1 hx
  have h2 : y = #[I c, I d] := Array.toList_inj.1 hy
  subst h1 h2; exact ht _ _ _ _ h

def madeLo (a b : Int) : Int := lo (rcap a) (rcap b)
def madeHi (a b : Int) : Int := hi (rcap a) (rcap b)
def t0 : List (Nat × Ans) := [(18, a1 fun a => I (rcap a)), (12, a0 (.bool true))]
theorem t0_ok : CLe (asks t0) R := asks_cons (a1_ok rcap_run) (asks_cons (a0_ok speaks_run) asks_nil)
theorem made_run (a b : Int) (h : AHeap) : R 13 [S a b] h = some ([S (madeLo a b) (madeHi a b)], h) :=
  run_spec t0_ok 60 rfl (fn := Try.f13) rfl rfl (by kernel_rfl)
def t1 : List (Nat × Ans) := (13, aS fun a b => S (madeLo a b) (madeHi a b)) :: (14, aS3 fun a b o k n => .bool (wi a b o k n)) :: (15, aSS fun a b c d => S (lo a c) (hi b d)) :: (16, a0 (S (-big) big)) :: (17, aS1 fun a b n => .bool (bif decide (n ≥ a) then decide (n ≤ b) else false)) :: t0
theorem t1_ok : CLe (asks t1) R := asks_cons (aS_ok made_run) (asks_cons (aS3_ok within_run) (asks_cons (aSS_ok join_run) (asks_cons (a0_ok top_run) (asks_cons (aS1_ok has_run) t0_ok))))

abbrev and64 (x y : Int) : Int := w (BitVec.ofInt 64 x &&& BitVec.ofInt 64 y).toNat
def wX (a b o k n : Int) : Bool :=
  bif decide (w (a + o) ≥ 0) then bif decide (w (w (b + o) + k) ≤ n) then bif decide (w (w (a + o) + k) ≤ n) then (wi a b o k n == decide (w (b + o) ≥ 0)) else (wi a b o k n == false) else (wi a b o k n == false) else (wi a b o k n == false)
theorem within_goB (a0 a1 off s0 s1 : Int) (h : AHeap) : goB Try.prog (tb.ft 3) (asks t1) Try.f3 60 [.code (Try.f3.body.getD .skip)] (startF Try.f3 [S a0 a1, I off, S s0 s1]) h =
    bif decide (off < -2147483648) then wX (madeLo a0 a1) (madeHi a0 a1) (off.tmod 2147483648) (and64 s0 1023) (and64 s1 65535)
    else bif decide (off > 2147483648) then wX (madeLo a0 a1) (madeHi a0 a1) (off.tmod 2147483648) (and64 s0 1023) (and64 s1 65535)
    else wX (madeLo a0 a1) (madeHi a0 a1) off (and64 s0 1023) (and64 s1 65535) := by kernel_rfl

end Go.Proofs.Ytdggbficiakbhaa
