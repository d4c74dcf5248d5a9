/- The law SpanHas: what it computes. No condition. -/
import Derived.Test.YtdggbficiakbhaaSpanZ
import Derived.Test.YtdggbficiakbhaaA23
namespace Go.Proofs.Ytdggbficiakbhaa
open Go.Agm

def sz (a b : Int) : Int := w (w (b - a) + 1)
def ofN (a b n : Int) : Int := w (a + (w (n.tmod (sz a b) + sz a b)).tmod (sz a b))
theorem of_eq (a b n : Int) (h : AHeap) : runK Try.prog tb 60 24 [S a b, I n] h =
   bif (sz a b == 0) then none else bif (sz a b == 0) then none else some ([I (ofN a b n)], h) := by kernel_rfl

noncomputable def askH : Agm.Ask := fun f xs => match f with
  | 24 => (match xs with
    | [.agg x, .int .i64 n] => (match x.toList with
      | [.int .i64 a, .int .i64 b] => some (!(sz a b == 0), [I (ofN a b n)])
      | _ => none)
    | _ => none)
  | f => (asks t3 f xs (heapOf 0 [])).map fun p => (true, p.1)
theorem asks_any (l : List (Nat × Ans)) : ∀ (f : FuncId) (xs : List Value) (h h2 : AHeap) (r : Res), asks l f xs h = some r → asks l f xs h2 = some (r.1, h2) := by
  induction l with
  | nil => intro f xs h h2 r e; simp [asks] at e
  | cons p l ih =>
    intro f xs h h2 r e
    obtain ⟨g, a⟩ := p
    simp only [asks] at e ⊢
    cases hb : Nat.beq g f with
    | true =>
      rw [hb] at e
      simp only [cond_true, Option.bind_eq_some_iff, Option.some.injEq] at e ⊢
      obtain ⟨rs, h3, rfl⟩ := e
      exact ⟨rs, h3, rfl⟩
    | false => rw [hb] at e; exact ih f xs h h2 r e
theorem askH_ok : AskOk askH R := by
  intro f xs rs h e
  unfold askH at e
  split at e
  · split at e <;> first | (simp at e; done) | skip
    rename_i x n
    split at e <;> simp at e
    rename_i a b hx
    obtain ⟨h1, rfl⟩ := e
    have : x = #[I a, I b] := Array.toList_inj.1 hx
    subst this
    refine run_of (n := 60) ((of_eq a b n h).trans ?_)
    have : (sz a b == 0) = false := by simpa using h1
    rw [this]; rfl
  · simp only [Option.map_eq_some_iff, Prod.mk.injEq, true_and] at e
    obtain ⟨p, h1, rfl⟩ := e
    exact t3_ok f xs h _ (asks_any t3 f xs _ h p h1)

/-- What SpanHas computes of two spans, of which x and y are numbers. -/
noncomputable def hasX (a b c d x y n z : Int) : Bool :=
  bif !(cap z == rcap z) then false else
  bif !(hs (-big) big x) then false else bif !(hs (cap x) (cap x) x) then false else bif !(hs a b x) then false else
  bif !(hs (lo a c) (hi b d) x) then false else bif !(hs (lo a c) (hi b d) y) then false else
  bif hs (cap (w (a + c))) (cap (w (b + d))) (rcap (w (x + y))) then
  bif hs (cap (w (a - d))) (cap (w (b - c))) (rcap (w (x - y))) then
  bif hs (lo (prodR a n) (prodR b n)) (hi (prodR a n) (prodR b n)) (timesR x n) then
  hs (lo (hi a 0) (hi n 0)) (lo (hi b 0) (hi n 0)) (lo (hi x 0) (hi n 0)) else false else false else false
noncomputable def hasG (a b c d p q n : Int) : Bool :=
  bif !(sz a b == 0) then bif !(sz c d == 0) then
   bif decide (n < -2147483648) then hasX a b c d (ofN a b p) (ofN c d q) (n.tmod 2147483648) p
    else bif decide (n > 2147483648) then hasX a b c d (ofN a b p) (ofN c d q) (n.tmod 2147483648) p
    else hasX a b c d (ofN a b p) (ofN c d q) n p else false else false
theorem has_goM (a0 a1 b0 b1 p q n : Int) (h : AHeap) : goM Try.prog (tb.ft 6) (condM askH) Try.f6 90 [.code (Try.f6.body.getD .skip)] (startF Try.f6 [S a0 a1, S b0 b1, .agg #[I p, I q, I n]]) h =
    hasG (madeLo a0 a1) (madeHi a0 a1) (madeLo b0 b1) (madeHi b0 b1) p q n := by kernel_rfl
end Go.Proofs.Ytdggbficiakbhaa
