/- The law CheckLooks: what it comes to. No condition but the library's one variable. -/
import Derived.Test.YtadaindmgmielaaDoorKc
namespace Go.Proofs.YtadaindmgmielaaDoor
open Go.Agm
variable {w0 : World}
abbrev opx (z : Int) : Int := w (7 + (w (z.tmod 4 + 4)).tmod 4)
abbrev mox (x : Int) : Int := w (((BitVec.ofInt 64 x).and (BitVec.ofInt 64 1023)).toNat : Int)
abbrev yox (y : Int) : Int := y.tmod 2048
abbrev T4 : List Value := [I 512, I 512, I 16, I 64]
abbrev szx (m y k : Int) : Int := w (w ((if 2040 < m then 2040 else m) + y) + k)
abbrev bdx (o : Int) : Int := intO (nth T4 ((w (o - 7)).toNat * 1))
abbrev P7 (m o y : Int) : List Ins := [⟨0, 0, 0, 0⟩, ⟨0, 3, 0, 0⟩, ⟨7, 2, 3, 0⟩, ⟨5, 2, 0, 8⟩, ⟨6, 2, 0, m⟩, ⟨o, 4, 2, y⟩, ⟨20, 0, 0, 0⟩]
theorem eval5a (x y z v1 : Int) (kn1 sp1 : List Value) (K : List Value → AHeap → Prop) :
    evSeg Tryd.f5 [con7, con10v 7 v1 kn1 sp1, con11] nt0 [I x, I y, I z] [] K
    = ((True ∧ True ∧ True) ∧ bif decide (0 ≤ w (opx z - 7)) && decide (w (opx z - 7) < 4) then bif okI .i64 (nth T4 ((w (opx z - 7)).toNat * 1)) then bif opx z == 8 then ((PlainL (insC (P7 (mox x) (opx z) (yox y))) ∧ True) ∧ (PlainL (insC (P7 (mox x) (opx z) (yox y))) ∧ PlainL kn1 ∧ PlainL sp1 ∧ True) ∧ (insC (P7 (mox x) (opx z) (yox y))) = insC (unIns (insC (P7 (mox x) (opx z) (yox y)))) ∧ (unIns (insC (P7 (mox x) (opx z) (yox y)))).length = 7 ∧ 7 ≤ 128 ∧ (unIns (insC (P7 (mox x) (opx z) (yox y)))).all right = true ∧ Is10 v1 kn1 sp1 (unIns (insC (P7 (mox x) (opx z) (yox y))))) ∧ bif decide (yox y ≥ 0) then bif decide (szx (mox x) (yox y) 2 ≤ bdx (opx z)) then True ∧ K [B true] (heapB G []) else bif !decide (szx (mox x) (yox y) 2 ≤ bdx (opx z)) then True ∧ K [B false] (heapB G []) else True ∧ K [B false] (heapB G []) else True ∧ K [B false] (heapB G []) else ((PlainL (insC (P7 (mox x) (opx z) (yox y))) ∧ True) ∧ (PlainL (insC (P7 (mox x) (opx z) (yox y))) ∧ PlainL kn1 ∧ PlainL sp1 ∧ True) ∧ (insC (P7 (mox x) (opx z) (yox y))) = insC (unIns (insC (P7 (mox x) (opx z) (yox y)))) ∧ (unIns (insC (P7 (mox x) (opx z) (yox y)))).length = 7 ∧ 7 ≤ 128 ∧ (unIns (insC (P7 (mox x) (opx z) (yox y)))).all right = true ∧ Is10 v1 kn1 sp1 (unIns (insC (P7 (mox x) (opx z) (yox y))))) ∧ bif decide (yox y ≥ 0) then bif decide (szx (mox x) (yox y) 1 ≤ bdx (opx z)) then True ∧ K [B true] (heapB G []) else bif !decide (szx (mox x) (yox y) 1 ≤ bdx (opx z)) then True ∧ K [B false] (heapB G []) else True ∧ K [B false] (heapB G []) else True ∧ K [B false] (heapB G []) else False else False) := by kernel_rfl
theorem eval5b (x y z i1 e1 : Int) (K : List Value → AHeap → Prop) :
    evSeg Tryd.f5 [con7, con10w 7 i1 e1, con11] nt0 [I x, I y, I z] [] K
    = ((True ∧ True ∧ True) ∧ bif decide (0 ≤ w (opx z - 7)) && decide (w (opx z - 7) < 4) then bif okI .i64 (nth T4 ((w (opx z - 7)).toNat * 1)) then bif opx z == 8 then ((PlainL (insC (P7 (mox x) (opx z) (yox y))) ∧ True) ∧ (PlainL (insC (P7 (mox x) (opx z) (yox y))) ∧ True) ∧ (insC (P7 (mox x) (opx z) (yox y))) = insC (unIns (insC (P7 (mox x) (opx z) (yox y)))) ∧ (unIns (insC (P7 (mox x) (opx z) (yox y)))).length = 7 ∧ 7 ≤ 128 ∧ (unIns (insC (P7 (mox x) (opx z) (yox y)))).all right = true ∧ Is10b i1 e1 (unIns (insC (P7 (mox x) (opx z) (yox y))))) ∧ bif decide (yox y ≥ 0) then bif decide (szx (mox x) (yox y) 2 ≤ bdx (opx z)) then bif !decide (szx (mox x) (yox y) 2 ≤ bdx (opx z)) then (True ∧ True ∧ True) ∧ bif e1 == 11 then True ∧ K [B (i1 == 5)] (heapB G []) else True ∧ K [B false] (heapB G []) else True ∧ K [B false] (heapB G []) else bif !decide (szx (mox x) (yox y) 2 ≤ bdx (opx z)) then (True ∧ True ∧ True) ∧ bif e1 == 11 then True ∧ K [B (i1 == 5)] (heapB G []) else True ∧ K [B false] (heapB G []) else True ∧ K [B false] (heapB G []) else (True ∧ True ∧ True) ∧ bif e1 == 11 then True ∧ K [B (i1 == 5)] (heapB G []) else True ∧ K [B false] (heapB G []) else ((PlainL (insC (P7 (mox x) (opx z) (yox y))) ∧ True) ∧ (PlainL (insC (P7 (mox x) (opx z) (yox y))) ∧ True) ∧ (insC (P7 (mox x) (opx z) (yox y))) = insC (unIns (insC (P7 (mox x) (opx z) (yox y)))) ∧ (unIns (insC (P7 (mox x) (opx z) (yox y)))).length = 7 ∧ 7 ≤ 128 ∧ (unIns (insC (P7 (mox x) (opx z) (yox y)))).all right = true ∧ Is10b i1 e1 (unIns (insC (P7 (mox x) (opx z) (yox y))))) ∧ bif decide (yox y ≥ 0) then bif decide (szx (mox x) (yox y) 1 ≤ bdx (opx z)) then bif !decide (szx (mox x) (yox y) 1 ≤ bdx (opx z)) then (True ∧ True ∧ True) ∧ bif e1 == 11 then True ∧ K [B (i1 == 5)] (heapB G []) else True ∧ K [B false] (heapB G []) else True ∧ K [B false] (heapB G []) else bif !decide (szx (mox x) (yox y) 1 ≤ bdx (opx z)) then (True ∧ True ∧ True) ∧ bif e1 == 11 then True ∧ K [B (i1 == 5)] (heapB G []) else True ∧ K [B false] (heapB G []) else True ∧ K [B false] (heapB G []) else (True ∧ True ∧ True) ∧ bif e1 == 11 then True ∧ K [B (i1 == 5)] (heapB G []) else True ∧ K [B false] (heapB G []) else False else False) := by kernel_rfl
def lp7 : List Int := [-1, -1, -1, -1, -1, -1, -1]
def en7 : List Int := [0, 0, 0, 0, 0, 0, 0]
def c7x (m y : Int) : List Value := (stepF (P7 m 7 y) lp7 en7 4 (stepF (P7 m 7 y) lp7 en7 3 (stepF (P7 m 7 y) lp7 en7 2 (stepF (P7 m 7 y) lp7 en7 1 (stepF (P7 m 7 y) lp7 en7 0 (st0 7)).2).2).2).2).2
theorem lo7_7 (m y : Int) : lo0 (P7 m 7 y) = (-1, lp7, en7) := by kernel_rfl
theorem fu7_7 (m y : Int) : fu (P7 m 7 y) = 7 := by kernel_rfl
theorem st7_7 (m y : Int) : stepF (P7 m 7 y) lp7 en7 5 (c7x m y) = bif !lkB (stAt (c7x m y) 5) 2 y 1 512 then (false, c7x m y) else
    fin25 7 7 5 (c7x m y) (bif lkB (stAt (c7x m y) 5) 2 y 1 512 then setA (stAt (c7x m y) 5) 0 4 0 255 else stAt (c7x m y) 5) := by kernel_rfl
theorem lk7_7 (m y : Int) : lkB (stAt (c7x m y) 5) 2 y 1 512 = r84 (r69b 0 2040 m) (r69c 0 2040 m) y 1 512 := by kernel_rfl
theorem wk7_7 (m y : Int) : (wk (P7 m 7 y)).1 = bif r84 (r69b 0 2040 m) (r69c 0 2040 m) y 1 512 then -1 else 5 := by
  rw [← lk7_7, show (wk (P7 m 7 y)).1 = (walkF (P7 m 7 y) lp7 en7 3 5 (c7x m y)).1 from by kernel_rfl]
  rw [walkF, st7_7]
  cases lkB (stAt (c7x m y) 5) 2 y 1 512 with
  | false => rfl
  | true => kernel_rfl
theorem bad7_7 (m y : Int) : badAt (P7 m 7 y) = bif r84 (r69b 0 2040 m) (r69c 0 2040 m) y 1 512 then none else some (5, 11) := by
  unfold badAt
  rw [lo7_7, wk7_7, fu7_7]
  cases r84 (r69b 0 2040 m) (r69c 0 2040 m) y 1 512 <;> rfl
def c8x (m y : Int) : List Value := (stepF (P7 m 8 y) lp7 en7 4 (stepF (P7 m 8 y) lp7 en7 3 (stepF (P7 m 8 y) lp7 en7 2 (stepF (P7 m 8 y) lp7 en7 1 (stepF (P7 m 8 y) lp7 en7 0 (st0 7)).2).2).2).2).2
theorem lo7_8 (m y : Int) : lo0 (P7 m 8 y) = (-1, lp7, en7) := by kernel_rfl
theorem fu7_8 (m y : Int) : fu (P7 m 8 y) = 7 := by kernel_rfl
theorem st7_8 (m y : Int) : stepF (P7 m 8 y) lp7 en7 5 (c8x m y) = bif !lkB (stAt (c8x m y) 5) 2 y 2 512 then (false, c8x m y) else
    fin25 8 7 5 (c8x m y) (bif lkB (stAt (c8x m y) 5) 2 y 2 512 then setA (stAt (c8x m y) 5) 0 4 0 65535 else stAt (c8x m y) 5) := by kernel_rfl
theorem lk7_8 (m y : Int) : lkB (stAt (c8x m y) 5) 2 y 2 512 = r84 (r69b 0 2040 m) (r69c 0 2040 m) y 2 512 := by kernel_rfl
theorem wk7_8 (m y : Int) : (wk (P7 m 8 y)).1 = bif r84 (r69b 0 2040 m) (r69c 0 2040 m) y 2 512 then -1 else 5 := by
  rw [← lk7_8, show (wk (P7 m 8 y)).1 = (walkF (P7 m 8 y) lp7 en7 3 5 (c8x m y)).1 from by kernel_rfl]
  rw [walkF, st7_8]
  cases lkB (stAt (c8x m y) 5) 2 y 2 512 with
  | false => rfl
  | true => kernel_rfl
theorem bad7_8 (m y : Int) : badAt (P7 m 8 y) = bif r84 (r69b 0 2040 m) (r69c 0 2040 m) y 2 512 then none else some (5, 11) := by
  unfold badAt
  rw [lo7_8, wk7_8, fu7_8]
  cases r84 (r69b 0 2040 m) (r69c 0 2040 m) y 2 512 <;> rfl
def c9x (m y : Int) : List Value := (stepF (P7 m 9 y) lp7 en7 4 (stepF (P7 m 9 y) lp7 en7 3 (stepF (P7 m 9 y) lp7 en7 2 (stepF (P7 m 9 y) lp7 en7 1 (stepF (P7 m 9 y) lp7 en7 0 (st0 7)).2).2).2).2).2
theorem lo7_9 (m y : Int) : lo0 (P7 m 9 y) = (-1, lp7, en7) := by kernel_rfl
theorem fu7_9 (m y : Int) : fu (P7 m 9 y) = 7 := by kernel_rfl
theorem st7_9 (m y : Int) : stepF (P7 m 9 y) lp7 en7 5 (c9x m y) = bif !lkB (stAt (c9x m y) 5) 2 y 1 16 then (false, c9x m y) else
    fin25 9 7 5 (c9x m y) (bif lkB (stAt (c9x m y) 5) 2 y 1 16 then setA (stAt (c9x m y) 5) 0 4 0 255 else stAt (c9x m y) 5) := by kernel_rfl
theorem lk7_9 (m y : Int) : lkB (stAt (c9x m y) 5) 2 y 1 16 = r84 (r69b 0 2040 m) (r69c 0 2040 m) y 1 16 := by kernel_rfl
theorem wk7_9 (m y : Int) : (wk (P7 m 9 y)).1 = bif r84 (r69b 0 2040 m) (r69c 0 2040 m) y 1 16 then -1 else 5 := by
  rw [← lk7_9, show (wk (P7 m 9 y)).1 = (walkF (P7 m 9 y) lp7 en7 3 5 (c9x m y)).1 from by kernel_rfl]
  rw [walkF, st7_9]
  cases lkB (stAt (c9x m y) 5) 2 y 1 16 with
  | false => rfl
  | true => kernel_rfl
theorem bad7_9 (m y : Int) : badAt (P7 m 9 y) = bif r84 (r69b 0 2040 m) (r69c 0 2040 m) y 1 16 then none else some (5, 11) := by
  unfold badAt
  rw [lo7_9, wk7_9, fu7_9]
  cases r84 (r69b 0 2040 m) (r69c 0 2040 m) y 1 16 <;> rfl
def c10x (m y : Int) : List Value := (stepF (P7 m 10 y) lp7 en7 4 (stepF (P7 m 10 y) lp7 en7 3 (stepF (P7 m 10 y) lp7 en7 2 (stepF (P7 m 10 y) lp7 en7 1 (stepF (P7 m 10 y) lp7 en7 0 (st0 7)).2).2).2).2).2
theorem lo7_10 (m y : Int) : lo0 (P7 m 10 y) = (-1, lp7, en7) := by kernel_rfl
theorem fu7_10 (m y : Int) : fu (P7 m 10 y) = 7 := by kernel_rfl
theorem st7_10 (m y : Int) : stepF (P7 m 10 y) lp7 en7 5 (c10x m y) = bif !lkB (stAt (c10x m y) 5) 2 y 1 64 then (false, c10x m y) else
    fin25 10 7 5 (c10x m y) (bif lkB (stAt (c10x m y) 5) 2 y 1 64 then setA (stAt (c10x m y) 5) 0 4 0 255 else stAt (c10x m y) 5) := by kernel_rfl
theorem lk7_10 (m y : Int) : lkB (stAt (c10x m y) 5) 2 y 1 64 = r84 (r69b 0 2040 m) (r69c 0 2040 m) y 1 64 := by kernel_rfl
theorem wk7_10 (m y : Int) : (wk (P7 m 10 y)).1 = bif r84 (r69b 0 2040 m) (r69c 0 2040 m) y 1 64 then -1 else 5 := by
  rw [← lk7_10, show (wk (P7 m 10 y)).1 = (walkF (P7 m 10 y) lp7 en7 3 5 (c10x m y)).1 from by kernel_rfl]
  rw [walkF, st7_10]
  cases lkB (stAt (c10x m y) 5) 2 y 1 64 with
  | false => rfl
  | true => kernel_rfl
theorem bad7_10 (m y : Int) : badAt (P7 m 10 y) = bif r84 (r69b 0 2040 m) (r69c 0 2040 m) y 1 64 then none else some (5, 11) := by
  unfold badAt
  rw [lo7_10, wk7_10, fu7_10]
  cases r84 (r69b 0 2040 m) (r69c 0 2040 m) y 1 64 <;> rfl

theorem mox_in (x : Int) : 0 ≤ mox x ∧ mox x ≤ 1023 := by
  have h : ((BitVec.ofInt 64 x).and (BitVec.ofInt 64 1023)).toNat ≤ 1023 := by
    show ((BitVec.ofInt 64 x) &&& (BitVec.ofInt 64 1023)).toNat ≤ 1023
    rw [BitVec.toNat_and]
    exact Nat.and_le_right
  unfold mox
  generalize ((BitVec.ofInt 64 x).and (BitVec.ofInt 64 1023)).toNat = k at h
  rw [w_id (n := (k : Int)) (by omega) (by omega)]
  omega
theorem tmod_in (y k : Int) (hk : 0 < k) : -k < y.tmod k ∧ y.tmod k < k := by
  have h1 := Int.tmod_lt_of_pos y hk
  have h2 := Int.lt_tmod_of_pos y hk
  omega
theorem opx_in (z : Int) : opx z = 7 ∨ opx z = 8 ∨ opx z = 9 ∨ opx z = 10 := by
  obtain ⟨h1, h2⟩ := tmod_in z 4 (by omega)
  unfold opx
  generalize z.tmod 4 = t at h1 h2
  have : t = -3 ∨ t = -2 ∨ t = -1 ∨ t = 0 ∨ t = 1 ∨ t = 2 ∨ t = 3 := by omega
  rcases this with rfl | rfl | rfl | rfl | rfl | rfl | rfl <;> decide
theorem r29a {o : Int} (ho : o = 7 ∨ o = 8 ∨ o = 9 ∨ o = 10) {y : Int} (h1 : -2048 < y) (h2 : y < 2048) : right ⟨o, 4, 2, y⟩ = true := by
  have key : ∀ o : Int, o = 7 ∨ o = 8 ∨ o = 9 ∨ o = 10 → right ⟨o, 4, 2, y⟩ = bif decide (y < -2147483648) then false else bif decide (y ≥ 2147483648) then false else true := by
    rintro o (rfl | rfl | rfl | rfl) <;> kernel_rfl
  rw [key o ho, decide_eq_false (by omega), decide_eq_false (by omega)]
  rfl
theorem r29c {m : Int} (h1 : 0 ≤ m) (h2 : m ≤ 1023) : right ⟨6, 2, 0, m⟩ = true := by
  have key : right ⟨6, 2, 0, m⟩ = bif decide (m < -2147483648) then false else bif decide (m ≥ 2147483648) then false else bif !decide (m ≥ 0) then false else true := by kernel_rfl
  rw [key, decide_eq_false (by omega), decide_eq_false (by omega), decide_eq_true h1]
  rfl
theorem right7 {m o y : Int} (ho : o = 7 ∨ o = 8 ∨ o = 9 ∨ o = 10) (m1 : 0 ≤ m) (m2 : m ≤ 1023) (h1 : -2048 < y) (h2 : y < 2048) : (P7 m o y).all right = true := by
  have e1 := r29a ho h1 h2
  have e2 := r29c m1 m2
  have f0 : right ⟨0, 0, 0, 0⟩ = true := by decide
  have f1 : right ⟨0, 3, 0, 0⟩ = true := by decide
  have f2 : right ⟨7, 2, 3, 0⟩ = true := by decide
  have f3 : right ⟨5, 2, 0, 8⟩ = true := by decide
  have f4 : right ⟨20, 0, 0, 0⟩ = true := by decide
  simp only [P7, List.all_cons, List.all_nil, e1, e2, f0, f1, f2, f3, f4, Bool.and_self]
theorem r84_eq {m y k bd : Int} (m1 : 0 ≤ m) (m2 : m ≤ 1023) (h1 : -2048 < y) (h2 : y < 2048) : r84 (r69b 0 2040 m) (r69c 0 2040 m) y k bd = (decide (y ≥ 0) && decide (szx m y k ≤ bd)) := by
  have e1 : r69b 0 2040 m = 0 := by
    unfold r69b
    rw [if_neg (show ¬ (0 : Int) > 0 by omega)]
    split <;> omega
  have e2 : r69c 0 2040 m = if 2040 < m then 2040 else m := by
    unfold r69c
    rw [if_neg (show ¬ (0 : Int) > 2040 by omega)]
    split <;> split <;> omega
  have e3 : w (0 + y) = y := by rw [w_id (by omega) (by omega)]; omega
  unfold r84
  rw [e1, e2]
  show (bif decide (w (0 + y) ≥ 0) then _ else _) = _
  rw [e3]
  cases decide (y ≥ 0) <;> rfl
/-- The size of what is looked at, the bound. -/
def kx (o : Int) : Int := bif o == 8 then 2 else 1
theorem bad7 {m o y : Int} (ho : o = 7 ∨ o = 8 ∨ o = 9 ∨ o = 10) (m1 : 0 ≤ m) (m2 : m ≤ 1023) (h1 : -2048 < y) (h2 : y < 2048) :
    badAt (P7 m o y) = bif decide (y ≥ 0) && decide (szx m y (kx o) ≤ bdx o) then none else some (5, 11) := by
  rcases ho with rfl | rfl | rfl | rfl
  · rw [bad7_7, r84_eq m1 m2 h1 h2]; rfl
  · rw [bad7_8, r84_eq m1 m2 h1 h2]; rfl
  · rw [bad7_9, r84_eq m1 m2 h1 h2]; rfl
  · rw [bad7_10, r84_eq m1 m2 h1 h2]; rfl
theorem fu7 {m o y : Int} (ho : o = 7 ∨ o = 8 ∨ o = 9 ∨ o = 10) : fu (P7 m o y) = 7 := by
  rcases ho with rfl | rfl | rfl | rfl
  · exact fu7_7 m y
  · exact fu7_8 m y
  · exact fu7_9 m y
  · exact fu7_10 m y
theorem at4 {o : Int} (ho : o = 7 ∨ o = 8 ∨ o = 9 ∨ o = 10) : (decide (0 ≤ w (o - 7)) && decide (w (o - 7) < 4)) = true ∧ okI .i64 (nth T4 ((w (o - 7)).toNat * 1)) = true := by
  rcases ho with rfl | rfl | rfl | rfl <;> decide

set_option maxRecDepth 100000 in
theorem call5 (hg : Laid w0) (x y z : Int) : CallS Tryd.prog w0 5 [I x, I y, I z] (heapB Tryd.prog.globals.size []) fun rs' h' => rs' = [B true] ∧ h' = heapB Tryd.prog.globals.size [] := by
  obtain ⟨m1, m2⟩ := mox_in x
  obtain ⟨y1, y2⟩ := tmod_in y 2048 (by omega)
  have ho := opx_in z
  have hr := right7 ho m1 m2 y1 y2
  have hbad := bad7 ho m1 m2 y1 y2
  obtain ⟨a1, a2⟩ := at4 ho
  have p7 := plain_insC (P7 (mox x) (opx z) (yox y))
  change badAt (P7 (mox x) (opx z) (yox y)) = _ at hbad
  cases hc : (decide (yox y ≥ 0) && decide (szx (mox x) (yox y) (kx (opx z)) ≤ bdx (opx z))) with
  | true =>
    rw [hc, cond_true] at hbad
    simp only [Bool.and_eq_true] at hc
    obtain ⟨c1, c2⟩ := hc
    refine ev_callS (nt := nt0) (cs := [con7, con10v 7 7 (knR (wk (P7 (mox x) (opx z) (yox y))).2 7 0) (spR (wk (P7 (mox x) (opx z) (yox y))).2 7 0), con11]) (f := 5) (bs := []) Tryd.func5 (by kernel_rfl) (fun c hc => by
      simp only [List.mem_cons, List.not_mem_nil, or_false] at hc
      rcases hc with rfl | rfl | rfl
      · exact con7_ok hg
      · exact con10v_ok
      · exact con11_ok hg) rfl ?_
    refine (eval5a x y z _ _ _ _).mpr ?_
    rw [a1, a2, unIns_insC, c1]
    have q : Is10 7 (knR (wk (P7 (mox x) (opx z) (yox y))).2 7 0) (spR (wk (P7 (mox x) (opx z) (yox y))).2 7 0) (P7 (mox x) (opx z) (yox y)) := ⟨hbad, fu7 ho, rfl, rfl⟩
    unfold kx at c2
    cases h8 : (opx z == 8) with
    | true =>
      rw [h8, cond_true] at c2
      rw [c2]
      exact ⟨⟨trivial, trivial, trivial⟩, ⟨⟨p7, trivial⟩, ⟨p7, knR_plain _ _ _, spR_plain _ _ _, trivial⟩, rfl, rfl, by decide, hr, q⟩, trivial, rfl, rfl⟩
    | false =>
      rw [h8, cond_false] at c2
      rw [c2]
      exact ⟨⟨trivial, trivial, trivial⟩, ⟨⟨p7, trivial⟩, ⟨p7, knR_plain _ _ _, spR_plain _ _ _, trivial⟩, rfl, rfl, by decide, hr, q⟩, trivial, rfl, rfl⟩
  | false =>
    rw [hc, cond_false] at hbad
    refine ev_callS (nt := nt0) (cs := [con7, con10w 7 5 11, con11]) (f := 5) (bs := []) Tryd.func5 (by kernel_rfl) (fun c hc => by
      simp only [List.mem_cons, List.not_mem_nil, or_false] at hc
      rcases hc with rfl | rfl | rfl
      · exact con7_ok hg
      · exact con10w_ok
      · exact con11_ok hg) rfl ?_
    refine (eval5b x y z 5 11 _).mpr ?_
    rw [a1, a2, unIns_insC]
    unfold kx at hc
    have fin : (True ∧ True ∧ True) ∧ True ∧ ([B ((5 : Int) == 5)] : List Value) = [B true] ∧ heapB G [] = heapB Tryd.prog.globals.size [] := ⟨⟨trivial, trivial, trivial⟩, trivial, rfl, rfl⟩
    cases h8 : (opx z == 8) with
    | true =>
      rw [h8, cond_true] at hc
      refine ⟨⟨trivial, trivial, trivial⟩, ⟨⟨p7, trivial⟩, ⟨p7, trivial⟩, rfl, rfl, by decide, hr, hbad⟩, ?_⟩
      cases c1 : decide (yox y ≥ 0) with
      | false => exact fin
      | true =>
        rw [c1, Bool.true_and] at hc
        rw [hc]
        exact fin
    | false =>
      rw [h8, cond_false] at hc
      refine ⟨⟨trivial, trivial, trivial⟩, ⟨⟨p7, trivial⟩, ⟨p7, trivial⟩, rfl, rfl, by decide, hr, hbad⟩, ?_⟩
      cases c1 : decide (yox y ≥ 0) with
      | false => exact fin
      | true =>
        rw [c1, Bool.true_and] at hc
        rw [hc]
        exact fin
end Go.Proofs.YtadaindmgmielaaDoor
