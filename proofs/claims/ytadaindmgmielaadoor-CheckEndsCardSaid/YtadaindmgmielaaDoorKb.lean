/- The checker's states: what an instruction does to one. No condition. -/
import Derived.Test.YtadaindmgmielaaDoorKa
namespace Go.Proofs.YtadaindmgmielaaDoor
open Go.Agm
variable {w0 : World}

abbrev evSeg (fn : Func) (cs : List Con) (nt : Nt) (args : List Value) (bs : List (Option ABlk)) (K : List Value → AHeap → Prop) : Prop :=
  segK3 Tryd.prog ft0 (semI Tryd.prog (fun _ => ft0) (callsOf G cs) 4000 20 (retT G nt K)) fn [] 4000 [.code (fn.body.getD .skip)] (startF fn args) noLeaf (heapB G bs)
/-- A function, where the evaluation comes to what is told. -/
theorem ev_callS {f : Nat} {fn : Func} {cs : List Con} {nt : Nt} {args : List Value} {bs : List (Option ABlk)} {K : List Value → AHeap → Prop} (hfn : Tryd.prog.funcs[f]? = some fn) (hcd : fn.body = some (fn.body.getD .skip)) (hcs : ∀ c ∈ cs, c.ok Tryd.prog w0)
    (hl : bs.length = nt.flags.length) (h : evSeg fn cs nt args bs K) : CallS Tryd.prog w0 f args (heapB Tryd.prog.globals.size bs) K := by
  have hn : (heapB Tryd.prog.globals.size bs).next = Tryd.prog.globals.size + nt.flags.length := by rw [heapB_next, hl]
  refine retT_call (nt := nt) hn (call_sem hfn hcd ?_)
  rw [hn]
  exact seg_semI3 (F := ft0) (leaf := noLeaf) mixed (callsOf_ok hcs) (fun _ _ _ hh => hh.elim) [] 20 4000 h
abbrev nt1 : Nt := { gh := [], flags := [true], paths := [], tr := [] }
abbrev pt1 : List Pth := [⟨0, [], true⟩]

/-- A state's cells. -/
abbrev stL (c k0 k1 k2 k3 k4 k5 k6 k7 : Bool) (l0 h0 l1 h1 l2 h2 l3 h3 l4 h4 l5 h5 l6 h6 l7 h7 : Int) : List Value := [B c, B k0, B k1, B k2, B k3, B k4, B k5, B k6, B k7, I l0, I h0, I l1, I h1, I l2, I h2, I l3, I h3, I l4, I h4, I l5, I h5, I l6, I h6, I l7, I h7]
def okK (i : Nat) (o : Option Value) : Bool := bif Nat.blt i 9 then okB o else okI .i64 o
def tys25 : Nat → List Value → Bool
  | i, [] => Nat.beq i 25
  | i, v :: r => okK i (some v) && tys25 (i + 1) r
/-- Cells of a state. -/
abbrev IsSt (cs : List Value) : Prop := tys25 0 cs = true
theorem okB_some {v : Value} (h : okB (some v) = true) : ∃ b, v = B b := by
  unfold okB at h; split at h
  · rename_i b e; exact ⟨b, by simpa using e⟩
  · simp at h
theorem okI_some {v : Value} (h : okI .i64 (some v) = true) : ∃ n, v = I n := by
  unfold okI at h; split at h
  · rename_i k n e
    simp only [beq_iff_eq] at h
    subst h
    exact ⟨n, by simpa using e⟩
  · simp at h
theorem tys_cons {i : Nat} {cs : List Value} (hi : i < 25) (h : tys25 i cs = true) : ∃ v r, cs = v :: r ∧ okK i (some v) = true ∧ tys25 (i + 1) r = true := by
  cases cs with
  | nil =>
    simp only [tys25] at h
    have := Nat.eq_of_beq_eq_true h
    omega
  | cons v r =>
    simp only [tys25, Bool.and_eq_true] at h
    exact ⟨v, r, rfl, h.1, h.2⟩
theorem tysB {i : Nat} {cs : List Value} (hi : Nat.blt i 9 = true) (h : tys25 i cs = true) : ∃ b r, cs = B b :: r ∧ tys25 (i + 1) r = true := by
  have h9 : i < 9 := Nat.le_of_ble_eq_true hi
  obtain ⟨v, r, rfl, h1, h2⟩ := tys_cons (by omega) h
  unfold okK at h1
  rw [hi, cond_true] at h1
  obtain ⟨b, rfl⟩ := okB_some h1
  exact ⟨b, r, rfl, h2⟩
theorem tysI {i : Nat} {cs : List Value} (hi : Nat.blt i 9 = false) (hi2 : i < 25) (h : tys25 i cs = true) : ∃ n r, cs = I n :: r ∧ tys25 (i + 1) r = true := by
  obtain ⟨v, r, rfl, h1, h2⟩ := tys_cons hi2 h
  unfold okK at h1
  rw [hi, cond_false] at h1
  obtain ⟨b, rfl⟩ := okI_some h1
  exact ⟨b, r, rfl, h2⟩
theorem isSt_eq {cs : List Value} (h : IsSt cs) : ∃ (c k0 k1 k2 k3 k4 k5 k6 k7 : Bool) (l0 h0 l1 h1 l2 h2 l3 h3 l4 h4 l5 h5 l6 h6 l7 h7 : Int), cs = stL c k0 k1 k2 k3 k4 k5 k6 k7 l0 h0 l1 h1 l2 h2 l3 h3 l4 h4 l5 h5 l6 h6 l7 h7 := by
  have g0 : tys25 0 cs = true := h
  clear h
  obtain ⟨c, r0, e0, g1⟩ := tysB rfl g0
  obtain ⟨k0, r1, e1, g2⟩ := tysB rfl g1
  obtain ⟨k1, r2, e2, g3⟩ := tysB rfl g2
  obtain ⟨k2, r3, e3, g4⟩ := tysB rfl g3
  obtain ⟨k3, r4, e4, g5⟩ := tysB rfl g4
  obtain ⟨k4, r5, e5, g6⟩ := tysB rfl g5
  obtain ⟨k5, r6, e6, g7⟩ := tysB rfl g6
  obtain ⟨k6, r7, e7, g8⟩ := tysB rfl g7
  obtain ⟨k7, r8, e8, g9⟩ := tysB rfl g8
  obtain ⟨l0, r9, e9, g10⟩ := tysI rfl (by omega) g9
  obtain ⟨h0, r10, e10, g11⟩ := tysI rfl (by omega) g10
  obtain ⟨l1, r11, e11, g12⟩ := tysI rfl (by omega) g11
  obtain ⟨h1, r12, e12, g13⟩ := tysI rfl (by omega) g12
  obtain ⟨l2, r13, e13, g14⟩ := tysI rfl (by omega) g13
  obtain ⟨h2, r14, e14, g15⟩ := tysI rfl (by omega) g14
  obtain ⟨l3, r15, e15, g16⟩ := tysI rfl (by omega) g15
  obtain ⟨h3, r16, e16, g17⟩ := tysI rfl (by omega) g16
  obtain ⟨l4, r17, e17, g18⟩ := tysI rfl (by omega) g17
  obtain ⟨h4, r18, e18, g19⟩ := tysI rfl (by omega) g18
  obtain ⟨l5, r19, e19, g20⟩ := tysI rfl (by omega) g19
  obtain ⟨h5, r20, e20, g21⟩ := tysI rfl (by omega) g20
  obtain ⟨l6, r21, e21, g22⟩ := tysI rfl (by omega) g21
  obtain ⟨h6, r22, e22, g23⟩ := tysI rfl (by omega) g22
  obtain ⟨l7, r23, e23, g24⟩ := tysI rfl (by omega) g23
  obtain ⟨h7, r24, e24, g25⟩ := tysI rfl (by omega) g24
  subst e0 e1 e2 e3 e4 e5 e6 e7 e8 e9 e10 e11 e12 e13 e14 e15 e16 e17 e18 e19 e20 e21 e22 e23 e24
  have h := g25
  cases r24 with
  | nil => exact ⟨_, _, _, _, _, _, _, _, _, _, _, _, _, _, _, _, _, _, _, _, _, _, _, _, _, rfl⟩
  | cons v r => 
    exfalso
    have : ∀ (j : Nat) (cs : List Value), 25 < j → tys25 j cs = false := by
      intro j cs
      induction cs generalizing j with
      | nil =>
        intro hj
        simp only [tys25]
        cases hb : Nat.beq j 25 with
        | false => rfl
        | true => have := Nat.eq_of_beq_eq_true hb; omega
      | cons a b ih =>
        intro hj
        simp only [tys25, ih (j + 1) (by omega), Bool.and_false]
    simp only [tys25, Bool.and_eq_true] at h
    rw [this _ _ (by omega)] at h
    simp at h

abbrev kO (cs : List Value) (i : Nat) : Bool := boolO (nth cs (1 + i))
abbrev lO (cs : List Value) (i : Nat) : Int := intO (nth cs (9 + 2 * i))
abbrev hO (cs : List Value) (i : Nat) : Int := intO (nth cs (10 + 2 * i))
/-- What is known of a register, its span. -/
abbrev kI (cs : List Value) (r : Int) : Bool := boolO (nth cs (1 + r.toNat * 1))
abbrev lI (cs : List Value) (r : Int) : Int := intO (nth cs (9 + r.toNat * 2 + 0))
abbrev hI (cs : List Value) (r : Int) : Int := intO (nth cs (9 + r.toNat * 2 + 1))
def setM (cs : List Value) (r lo hi : Int) : List Value := splice (splice cs (1 + r.toNat * 1) [B true]) (9 + r.toNat * 2) [I lo, I hi]
theorem veq_ints (n : Nat) (a b : Int) : veq (n + 1) (AG [I a, I b]) (AG [I a, I b]) = true := by simp [veq, veq.go]

theorem eval95 (c k0 k1 k2 k3 k4 k5 k6 k7 : Bool) (l0 h0 l1 h1 l2 h2 l3 h3 l4 h4 l5 h5 l6 h6 l7 h7 : Int) (a : Int) (K : List Value → AHeap → Prop) :
    evSeg Tryd.f95 [con84] ntP [AG (stL c k0 k1 k2 k3 k4 k5 k6 k7 l0 h0 l1 h1 l2 h2 l3 h3 l4 h4 l5 h5 l6 h6 l7 h7), I a] [] K
    = ((bif veq 4 (AG [I l3, I h3]) (AG [I l3, I h3]) && (veq 4 (AG [I l2, I h2]) (AG [I l2, I h2]) && true) then
      bif veq 4 (AG [I l3, I h3]) (AG [I l3, I h3]) && (veq 4 (AG [I l2, I h2]) (AG [I l2, I h2]) && true) then
      bif veq 4 (AG [I l3, I h3]) (AG [I l3, I h3]) && true then
      bif !k2 then
      True ∧ K [B false] (heapB G [])
    else bif !k3 then
      True ∧ K [B false] (heapB G [])
    else bif decide (l3 ≥ 0) then
      bif decide (h3 ≤ a) then
      (True ∧ True ∧ True) ∧ True ∧ K [B (r84 l2 h2 0 h3 512)] (heapB G [])
    else True ∧ K [B false] (heapB G [])
    else True ∧ K [B false] (heapB G [])
    else False
    else False
    else False) ∧
      bif veq 4 (AG [I l3, I h3]) (AG [I l3, I h3]) && (veq 4 (AG [I l2, I h2]) (AG [I l2, I h2]) && true) then
      bif veq 4 (AG [I l3, I h3]) (AG [I l3, I h3]) && (veq 4 (AG [I l2, I h2]) (AG [I l2, I h2]) && true) then
      bif veq 4 (AG [I l3, I h3]) (AG [I l3, I h3]) && true then
      bif !k2 then
      True ∧ K [B false] (heapB G [])
    else bif !k3 then
      True ∧ K [B false] (heapB G [])
    else bif decide (l3 ≥ 0) then
      bif decide (h3 ≤ a) then
      (True ∧ True ∧ True) ∧ True ∧ K [B (r84 l2 h2 0 h3 512)] (heapB G [])
    else True ∧ K [B false] (heapB G [])
    else True ∧ K [B false] (heapB G [])
    else False
    else False
    else False) := by kernel_rfl

theorem eval24 (r lo hi : Int) (cs : List Value) (off : Nat) (K : List Value → AHeap → Prop) :
    evSeg Tryd.f24 [] nt1 [.pointer (some ⟨G, off, none⟩), I r, AG [I lo, I hi]] [some (.cells cs true)] K
    = (bif decide (0 ≤ r) && decide (r < 8) then
      bif (off + 1 + r.toNat * 1 + 1).ble cs.length then
      bif veq 4 (AG [I lo, I hi]) (AG [I lo, I hi]) && true then
      bif decide (0 ≤ r) && decide (r < 8) then
      bif 2 == 2 && (off + 9 + r.toNat * 2 + 2).ble (splice cs (off + 1 + r.toNat * 1) [B true]).length then
      (PlainL (splice (splice cs (off + 1 + r.toNat * 1) [B true]) (off + 9 + r.toNat * 2) [I lo, I hi]) ∧ True) ∧ K [] (heapB G [some (ABlk.cells (splice (splice cs (off + 1 + r.toNat * 1) [B true]) (off + 9 + r.toNat * 2) [I lo, I hi]) true)])
    else False
    else False
    else False
    else False
    else False) := by kernel_rfl


/-- Bytes of the page that a helper is to look at. -/
def r95v (k2 k3 : Bool) (l2 h2 l3 h3 a : Int) : Bool := bif !k2 then false else bif !k3 then false else bif decide (l3 ≥ 0) then bif decide (h3 ≤ a) then r84 l2 h2 0 h3 512 else false else false
def r95 (cs : List Value) (a : Int) : Bool := r95v (kO cs 2) (kO cs 3) (lO cs 2) (hO cs 2) (lO cs 3) (hO cs 3) a
noncomputable def con95 : Con := { f := 95, gh := [], paths := [], spec := fun args bs => match args, bs with
  | [.agg cs, v], [] => match intV v with
    | some a => some (IsSt cs.toList, [B (r95 cs.toList a)], [])
    | none => none
  | _, _ => none }
set_option maxRecDepth 100000 in
theorem con95_ok : con95.ok Tryd.prog w0 := by
  intro args bs p rs out e hp
  simp only [con95] at e
  split at e <;> first | (simp at e; done) | skip
  split at e <;> first | (simp at e; done) | skip
  rename_i cs v _ a ha
  simp only [Option.some.injEq, Prod.mk.injEq] at e
  obtain ⟨e1, e2, e3⟩ := e
  subst e1 e2 e3
  obtain ⟨cs⟩ := cs
  obtain ⟨c, k0, k1, k2, k3, k4, k5, k6, k7, l0, h0, l1, h1, l2, h2, l3, h3, l4, h4, l5, h5, l6, h6, l7, h7, hcs⟩ := isSt_eq hp
  rw [intV_eq ha]
  change cs = _ at hcs
  subst hcs
  refine ev_callS (nt := ntP) (cs := [con84]) (f := 95) (bs := []) Tryd.func95 (by kernel_rfl) (fun c hc => by
    simp only [List.mem_singleton] at hc
    subst hc
    exact con84_ok) rfl ?_
  rw [eval95]
  have hr : r95 (stL c k0 k1 k2 k3 k4 k5 k6 k7 l0 h0 l1 h1 l2 h2 l3 h3 l4 h4 l5 h5 l6 h6 l7 h7) a = r95v k2 k3 l2 h2 l3 h3 a := rfl
  simp only [hr, veq_ints, Bool.and_self, cond_true, true_and]
  constructor <;>
  · repeat' (first | exact trivial | refine And.intro ?_ ?_ | refine bifP (fun h => ?_) (fun h => ?_))
    all_goals first | rfl | (simp only [r95v, *, cond_true, cond_false]; done)

theorem plain_splice {cs xs : List Value} {n : Nat} (h : PlainL cs) (hx : PlainL xs) : PlainL (splice cs n xs) := by
  intro x hm
  simp only [splice, List.mem_append] at hm
  rcases hm with (hm | hm) | hm
  · exact h x (List.mem_of_mem_take hm)
  · exact hx x hm
  · exact h x (List.mem_of_mem_drop hm)
theorem plain_B (b : Bool) : PlainL [B b] := by
  intro x hx
  rw [List.mem_singleton] at hx
  subst hx; rfl
theorem plain_II (a b : Int) : PlainL [I a, I b] := by
  intro x hx
  simp only [List.mem_cons, List.not_mem_nil, or_false] at hx
  rcases hx with rfl | rfl <;> rfl
theorem splice_len {cs xs : List Value} {n : Nat} (h : n + xs.length ≤ cs.length) : (splice cs n xs).length = cs.length := by
  simp only [splice, List.length_append, List.length_take, List.length_drop]
  omega
/-- A register's place in a state at a place. -/
def setA (cs : List Value) (off : Nat) (r lo hi : Int) : List Value := splice (splice cs (off + 1 + r.toNat * 1) [B true]) (off + 9 + r.toNat * 2) [I lo, I hi]
noncomputable def con24 : Con := { f := 24, gh := [], paths := [⟨0, [], true⟩], spec := fun args bs => match args, bs with
  | [.pointer (some ⟨b, off, none⟩), v, u], [some (.cells cs true)] => match intV v, aggV u with
    | some r, some [lo, hi] => bif Nat.beq b Tryd.prog.globals.size then some (0 ≤ r ∧ r < 8 ∧ off + 25 ≤ cs.length ∧ PlainL cs, [], [(true, some (.cells (setA cs off r lo hi) true))]) else none
    | _, _ => none
  | _, _ => none }
set_option maxRecDepth 100000 in
theorem con24_ok : con24.ok Tryd.prog w0 := by
  intro args bs p rs out e hp
  simp only [con24] at e
  split at e <;> first | (simp at e; done) | skip
  split at e <;> first | (simp at e; done) | skip
  rename_i b off v u cs _ _ r lo hi hr hu
  cases hq : Nat.beq b Tryd.prog.globals.size with
  | false => rw [hq] at e; simp at e
  | true =>
    rw [hq] at e
    simp only [cond_true, Option.some.injEq, Prod.mk.injEq] at e
    obtain ⟨e1, e2, e3⟩ := e
    subst e1 e2 e3
    obtain ⟨p1, p2, p3, p4⟩ := hp
    rw [intV_eq hr, aggV_eq hu, Nat.eq_of_beq_eq_true hq]
    refine ev_callS (nt := nt1) (cs := []) (f := 24) (bs := [some (.cells cs true)]) Tryd.func24 (by kernel_rfl) (fun c hc => by simp at hc) rfl ((eval24 r lo hi cs off _).mpr ?_)
    have q1 : (off + 1 + r.toNat * 1 + 1).ble cs.length = true := Nat.ble_eq_true_of_le (by omega)
    have q2 : (off + 9 + r.toNat * 2 + 2).ble (splice cs (off + 1 + r.toNat * 1) [B true]).length = true := Nat.ble_eq_true_of_le (by rw [splice_len (by simp; omega)]; omega)
    simp only [p1, p2, q1, q2, veq_ints, decide_true, Bool.and_self, cond_true, beq_self_eq_true]
    exact ⟨⟨plain_splice (plain_splice p4 (plain_B _)) (plain_II _ _), trivial⟩, by trivial, rfl⟩

theorem eval67a (c k0 k1 k2 k3 k4 k5 k6 k7 : Bool) (l0 h0 l1 h1 l2 h2 l3 h3 l4 h4 l5 h5 l6 h6 l7 h7 : Int) (a : Int) (rw : Bool) (K : List Value → AHeap → Prop) :
    evSeg Tryd.f67 [] nt1 [AG (stL c k0 k1 k2 k3 k4 k5 k6 k7 l0 h0 l1 h1 l2 h2 l3 h3 l4 h4 l5 h5 l6 h6 l7 h7), SL G 1 1] [some (.cells [I a] rw)] K
    = (bif decide (0 ≤ a) && decide (a < 8) then
      bif okB (nth (stL c k0 k1 k2 k3 k4 k5 k6 k7 l0 h0 l1 h1 l2 h2 l3 h3 l4 h4 l5 h5 l6 h6 l7 h7) (1 + a.toNat * 1)) then
      bif !boolO (nth (stL c k0 k1 k2 k3 k4 k5 k6 k7 l0 h0 l1 h1 l2 h2 l3 h3 l4 h4 l5 h5 l6 h6 l7 h7) (1 + a.toNat * 1)) then
      (PlainL [I a] ∧ True) ∧ K [B false] (heapB G [some (ABlk.cells [I a] rw)])
    else (PlainL [I a] ∧ True) ∧ K [B true] (heapB G [some (ABlk.cells [I a] rw)])
    else False
    else False) := by kernel_rfl

theorem eval67b (c k0 k1 k2 k3 k4 k5 k6 k7 : Bool) (l0 h0 l1 h1 l2 h2 l3 h3 l4 h4 l5 h5 l6 h6 l7 h7 : Int) (a b : Int) (rw : Bool) (K : List Value → AHeap → Prop) :
    evSeg Tryd.f67 [] nt1 [AG (stL c k0 k1 k2 k3 k4 k5 k6 k7 l0 h0 l1 h1 l2 h2 l3 h3 l4 h4 l5 h5 l6 h6 l7 h7), SL G 2 1] [some (.cells [I a, I b] rw)] K
    = (bif decide (0 ≤ a) && decide (a < 8) then
      bif okB (nth (stL c k0 k1 k2 k3 k4 k5 k6 k7 l0 h0 l1 h1 l2 h2 l3 h3 l4 h4 l5 h5 l6 h6 l7 h7) (1 + a.toNat * 1)) then
      bif !boolO (nth (stL c k0 k1 k2 k3 k4 k5 k6 k7 l0 h0 l1 h1 l2 h2 l3 h3 l4 h4 l5 h5 l6 h6 l7 h7) (1 + a.toNat * 1)) then
      (PlainL [I a, I b] ∧ True) ∧ K [B false] (heapB G [some (ABlk.cells [I a, I b] rw)])
    else bif decide (0 ≤ b) && decide (b < 8) then
      bif okB (nth (stL c k0 k1 k2 k3 k4 k5 k6 k7 l0 h0 l1 h1 l2 h2 l3 h3 l4 h4 l5 h5 l6 h6 l7 h7) (1 + b.toNat * 1)) then
      bif !boolO (nth (stL c k0 k1 k2 k3 k4 k5 k6 k7 l0 h0 l1 h1 l2 h2 l3 h3 l4 h4 l5 h5 l6 h6 l7 h7) (1 + b.toNat * 1)) then
      (PlainL [I a, I b] ∧ True) ∧ K [B false] (heapB G [some (ABlk.cells [I a, I b] rw)])
    else (PlainL [I a, I b] ∧ True) ∧ K [B true] (heapB G [some (ABlk.cells [I a, I b] rw)])
    else False
    else False
    else False
    else False) := by kernel_rfl


theorem stB {c k0 k1 k2 k3 k4 k5 k6 k7 : Bool} {l0 h0 l1 h1 l2 h2 l3 h3 l4 h4 l5 h5 l6 h6 l7 h7 : Int} {r : Int} (h1' : 0 ≤ r) (h2' : r < 8) : okB (nth (stL c k0 k1 k2 k3 k4 k5 k6 k7 l0 h0 l1 h1 l2 h2 l3 h3 l4 h4 l5 h5 l6 h6 l7 h7) (1 + r.toNat * 1)) = true := by
  obtain ⟨n, rfl⟩ := Int.eq_ofNat_of_zero_le h1'
  rw [Int.toNat_natCast]
  have hn : n < 8 := by omega
  rcases n with _ | _ | _ | _ | _ | _ | _ | _ | n <;> first | rfl | (exfalso; omega)
theorem stI {c k0 k1 k2 k3 k4 k5 k6 k7 : Bool} {l0 h0 l1 h1 l2 h2 l3 h3 l4 h4 l5 h5 l6 h6 l7 h7 : Int} {r : Int} (h1' : 0 ≤ r) (h2' : r < 8) : okI .i64 (nth (stL c k0 k1 k2 k3 k4 k5 k6 k7 l0 h0 l1 h1 l2 h2 l3 h3 l4 h4 l5 h5 l6 h6 l7 h7) (9 + r.toNat * 2 + 0)) = true ∧
    okI .i64 (nth (stL c k0 k1 k2 k3 k4 k5 k6 k7 l0 h0 l1 h1 l2 h2 l3 h3 l4 h4 l5 h5 l6 h6 l7 h7) (9 + r.toNat * 2 + 1)) = true ∧ (9 + r.toNat * 2 + 2).ble 25 = true := by
  obtain ⟨n, rfl⟩ := Int.eq_ofNat_of_zero_le h1'
  rw [Int.toNat_natCast]
  have hn : n < 8 := by omega
  rcases n with _ | _ | _ | _ | _ | _ | _ | _ | n <;> first | exact ⟨rfl, rfl, rfl⟩ | (exfalso; omega)
theorem plain_st {c k0 k1 k2 k3 k4 k5 k6 k7 : Bool} {l0 h0 l1 h1 l2 h2 l3 h3 l4 h4 l5 h5 l6 h6 l7 h7 : Int} : PlainL (stL c k0 k1 k2 k3 k4 k5 k6 k7 l0 h0 l1 h1 l2 h2 l3 h3 l4 h4 l5 h5 l6 h6 l7 h7) := by
  intro x hx
  simp only [List.mem_cons, List.not_mem_nil, or_false] at hx
  rcases hx with rfl | rfl | rfl | rfl | rfl | rfl | rfl | rfl | rfl | rfl | rfl | rfl | rfl | rfl | rfl | rfl | rfl | rfl | rfl | rfl | rfl | rfl | rfl | rfl | rfl <;> rfl
theorem plain_I (a : Int) : PlainL [I a] := by
  intro x hx
  rw [List.mem_singleton] at hx
  subst hx; rfl

/-- Which registers have numbers. -/
noncomputable def con67 : Con := { f := 67, gh := [], paths := [⟨1, [], true⟩], spec := fun args bs => match args, bs with
  | [.agg cs, v], [some (.cells [x] rw)] => match slN v 0 1, intV x with
    | some 1, some a => some (IsSt cs.toList ∧ 0 ≤ a ∧ a < 8, [B (kI cs.toList a)], [(true, some (.cells [I a] rw))])
    | _, _ => none
  | [.agg cs, v], [some (.cells [x, y] rw)] => match slN v 0 1, intV x, intV y with
    | some 2, some a, some b => some (IsSt cs.toList ∧ (0 ≤ a ∧ a < 8) ∧ 0 ≤ b ∧ b < 8, [B (kI cs.toList a && kI cs.toList b)], [(true, some (.cells [I a, I b] rw))])
    | _, _, _ => none
  | _, _ => none }
set_option maxRecDepth 100000 in
set_option maxHeartbeats 4000000 in
theorem con67_ok : con67.ok Tryd.prog w0 := by
  intro args bs p rs out e hp
  simp only [con67] at e
  split at e <;> first | (simp at e; done) | skip
  · split at e <;> first | (simp at e; done) | skip
    rename_i cs v x rw _ _ a hv hx
    simp only [Option.some.injEq, Prod.mk.injEq] at e
    obtain ⟨e1, e2, e3⟩ := e
    subst e1 e2 e3
    obtain ⟨p1, p2, p3⟩ := hp
    obtain ⟨cs⟩ := cs
    obtain ⟨c, k0, k1, k2, k3, k4, k5, k6, k7, l0, h0, l1, h1, l2, h2, l3, h3, l4, h4, l5, h5, l6, h6, l7, h7, hcs⟩ := isSt_eq p1
    change cs = _ at hcs
    subst hcs
    rw [slN_eq hv, intV_eq hx]
    refine ev_callS (nt := nt1) (cs := []) (f := 67) (bs := [some (.cells [I a] rw)]) Tryd.func67 (by kernel_rfl) (fun c hc => by simp at hc) rfl ?_
    refine (eval67a c k0 k1 k2 k3 k4 k5 k6 k7 l0 h0 l1 h1 l2 h2 l3 h3 l4 h4 l5 h5 l6 h6 l7 h7 a rw _).mpr ?_
    simp only [p2, p3, stB p2 p3, decide_true, Bool.and_self, cond_true]
    refine bifP (fun h => ?_) (fun h => ?_)
    · simp only [Bool.not_eq_true'] at h
      exact ⟨⟨plain_I a, trivial⟩, by rw [kI, h], rfl⟩
    · simp only [Bool.not_eq_false'] at h
      exact ⟨⟨plain_I a, trivial⟩, by rw [kI, h], rfl⟩
  · split at e <;> first | (simp at e; done) | skip
    rename_i cs v x y rw _ _ _ a b hv hx hy
    simp only [Option.some.injEq, Prod.mk.injEq] at e
    obtain ⟨e1, e2, e3⟩ := e
    subst e1 e2 e3
    obtain ⟨p1, ⟨p2, p3⟩, p4, p5⟩ := hp
    obtain ⟨cs⟩ := cs
    obtain ⟨c, k0, k1, k2, k3, k4, k5, k6, k7, l0, h0, l1, h1, l2, h2, l3, h3, l4, h4, l5, h5, l6, h6, l7, h7, hcs⟩ := isSt_eq p1
    change cs = _ at hcs
    subst hcs
    rw [slN_eq hv, intV_eq hx, intV_eq hy]
    refine ev_callS (nt := nt1) (cs := []) (f := 67) (bs := [some (.cells [I a, I b] rw)]) Tryd.func67 (by kernel_rfl) (fun c hc => by simp at hc) rfl ?_
    refine (eval67b c k0 k1 k2 k3 k4 k5 k6 k7 l0 h0 l1 h1 l2 h2 l3 h3 l4 h4 l5 h5 l6 h6 l7 h7 a b rw _).mpr ?_
    simp only [p2, p3, p4, p5, stB p2 p3, stB p4 p5, decide_true, Bool.and_self, cond_true]
    refine bifP (fun h => ?_) (fun h => ?_)
    · simp only [Bool.not_eq_true'] at h
      exact ⟨⟨plain_II a b, trivial⟩, by rw [kI, h]; rfl, rfl⟩
    · simp only [Bool.not_eq_false'] at h
      refine bifP (fun h' => ?_) (fun h' => ?_)
      · simp only [Bool.not_eq_true'] at h'
        exact ⟨⟨plain_II a b, trivial⟩, by rw [kI, kI, h, h']; rfl, rfl⟩
      · simp only [Bool.not_eq_false'] at h'
        exact ⟨⟨plain_II a b, trivial⟩, by rw [kI, kI, h, h']; rfl, rfl⟩

theorem eval85 (c k0 k1 k2 k3 k4 k5 k6 k7 : Bool) (l0 h0 l1 h1 l2 h2 l3 h3 l4 h4 l5 h5 l6 h6 l7 h7 : Int) (a : Int) (K : List Value → AHeap → Prop) :
    evSeg Tryd.f85 [con95, con24] nt1 [PT G, I a] [some (.cells (stL c k0 k1 k2 k3 k4 k5 k6 k7 l0 h0 l1 h1 l2 h2 l3 h3 l4 h4 l5 h5 l6 h6 l7 h7) true)] K
    = (bif a == 1 then
      (True ∧ True ∧ true = true) ∧
      bif !r95 (stL c k0 k1 k2 k3 k4 k5 k6 k7 l0 h0 l1 h1 l2 h2 l3 h3 l4 h4 l5 h5 l6 h6 l7 h7) 16 then
      (PlainL (stL c k0 k1 k2 k3 k4 k5 k6 k7 l0 h0 l1 h1 l2 h2 l3 h3 l4 h4 l5 h5 l6 h6 l7 h7) ∧ True) ∧ K [B false] (heapB G [some (ABlk.cells (stL c k0 k1 k2 k3 k4 k5 k6 k7 l0 h0 l1 h1 l2 h2 l3 h3 l4 h4 l5 h5 l6 h6 l7 h7) true)])
    else ((PlainL (stL c k0 k1 k2 k3 k4 k5 k6 k7 l0 h0 l1 h1 l2 h2 l3 h3 l4 h4 l5 h5 l6 h6 l7 h7) ∧ True) ∧ (PlainL (setA (stL c k0 k1 k2 k3 k4 k5 k6 k7 l0 h0 l1 h1 l2 h2 l3 h3 l4 h4 l5 h5 l6 h6 l7 h7) 0 0 (-1) 1) ∧ True) ∧ (0 : Int) ≤ 0 ∧ (0 : Int) < 8 ∧ 25 ≤ (stL c k0 k1 k2 k3 k4 k5 k6 k7 l0 h0 l1 h1 l2 h2 l3 h3 l4 h4 l5 h5 l6 h6 l7 h7).length ∧ PlainL (stL c k0 k1 k2 k3 k4 k5 k6 k7 l0 h0 l1 h1 l2 h2 l3 h3 l4 h4 l5 h5 l6 h6 l7 h7)) ∧ (PlainL (setA (stL c k0 k1 k2 k3 k4 k5 k6 k7 l0 h0 l1 h1 l2 h2 l3 h3 l4 h4 l5 h5 l6 h6 l7 h7) 0 0 (-1) 1) ∧ True) ∧ K [B true] (heapB G [some (ABlk.cells (setA (stL c k0 k1 k2 k3 k4 k5 k6 k7 l0 h0 l1 h1 l2 h2 l3 h3 l4 h4 l5 h5 l6 h6 l7 h7) 0 0 (-1) 1) true)])
    else bif a == 2 then
      (True ∧ True ∧ true = true) ∧ (PlainL (stL c k0 k1 k2 k3 k4 k5 k6 k7 l0 h0 l1 h1 l2 h2 l3 h3 l4 h4 l5 h5 l6 h6 l7 h7) ∧ True) ∧ K [B (r95 (stL c k0 k1 k2 k3 k4 k5 k6 k7 l0 h0 l1 h1 l2 h2 l3 h3 l4 h4 l5 h5 l6 h6 l7 h7) 24)] (heapB G [some (ABlk.cells (stL c k0 k1 k2 k3 k4 k5 k6 k7 l0 h0 l1 h1 l2 h2 l3 h3 l4 h4 l5 h5 l6 h6 l7 h7) true)])
    else bif !k2 then
      (PlainL (stL c k0 k1 k2 k3 k4 k5 k6 k7 l0 h0 l1 h1 l2 h2 l3 h3 l4 h4 l5 h5 l6 h6 l7 h7) ∧ True) ∧ K [B false] (heapB G [some (ABlk.cells (stL c k0 k1 k2 k3 k4 k5 k6 k7 l0 h0 l1 h1 l2 h2 l3 h3 l4 h4 l5 h5 l6 h6 l7 h7) true)])
    else (PlainL (stL c k0 k1 k2 k3 k4 k5 k6 k7 l0 h0 l1 h1 l2 h2 l3 h3 l4 h4 l5 h5 l6 h6 l7 h7) ∧ True) ∧ K [B true] (heapB G [some (ABlk.cells (stL c k0 k1 k2 k3 k4 k5 k6 k7 l0 h0 l1 h1 l2 h2 l3 h3 l4 h4 l5 h5 l6 h6 l7 h7) true)])) := by kernel_rfl

def r85 (cs : List Value) (a : Int) : Bool := bif a == 1 then r95 cs 16 else bif a == 2 then r95 cs 24 else kO cs 2
def c85 (cs : List Value) (a : Int) : List Value := bif a == 1 then (bif r95 cs 16 then setA cs 0 0 (-1) 1 else cs) else cs
/-- A helper's call. -/
noncomputable def con85 : Con := { f := 85, gh := [], paths := [⟨0, [], true⟩], spec := fun args bs => match args, bs with
  | [p, v], [some (.cells cs true)] => match intV v with
    | some a => bif isPtr p 0 then some (IsSt cs, [B (r85 cs a)], [(true, some (.cells (c85 cs a) true))]) else none
    | none => none
  | _, _ => none }
set_option maxRecDepth 100000 in
theorem con85_ok : con85.ok Tryd.prog w0 := by
  intro args bs p rs out e hp
  simp only [con85] at e
  split at e <;> first | (simp at e; done) | skip
  split at e <;> first | (simp at e; done) | skip
  rename_i p0 v cs _ a hv
  cases hq : isPtr p0 0 with
  | false => rw [hq] at e; simp at e
  | true =>
    rw [hq] at e
    simp only [cond_true, Option.some.injEq, Prod.mk.injEq] at e
    obtain ⟨e1, e2, e3⟩ := e
    subst e1 e2 e3
    obtain ⟨c, k0, k1, k2, k3, k4, k5, k6, k7, l0, h0, l1, h1, l2, h2, l3, h3, l4, h4, l5, h5, l6, h6, l7, h7, hcs⟩ := isSt_eq hp
    subst hcs
    rw [intV_eq hv, isPtr_eq hq]
    refine ev_callS (nt := nt1) (cs := [con95, con24]) (f := 85) (bs := [some (.cells (stL c k0 k1 k2 k3 k4 k5 k6 k7 l0 h0 l1 h1 l2 h2 l3 h3 l4 h4 l5 h5 l6 h6 l7 h7) true)]) Tryd.func85 (by kernel_rfl) (fun c hc => by
      simp only [List.mem_cons, List.not_mem_nil, or_false] at hc
      rcases hc with rfl | rfl
      · exact con95_ok
      · exact con24_ok) rfl ?_
    refine (eval85 c k0 k1 k2 k3 k4 k5 k6 k7 l0 h0 l1 h1 l2 h2 l3 h3 l4 h4 l5 h5 l6 h6 l7 h7 a _).mpr ?_
    have hp1 : PlainL (stL c k0 k1 k2 k3 k4 k5 k6 k7 l0 h0 l1 h1 l2 h2 l3 h3 l4 h4 l5 h5 l6 h6 l7 h7) := plain_st
    have hp2 : PlainL (setA (stL c k0 k1 k2 k3 k4 k5 k6 k7 l0 h0 l1 h1 l2 h2 l3 h3 l4 h4 l5 h5 l6 h6 l7 h7) 0 0 (-1) 1) := plain_splice (plain_splice plain_st (plain_B _)) (plain_II _ _)
    unfold r85 c85
    refine bifP (fun h => ?_) (fun h => ?_)
    · simp only [h, cond_true]
      refine ⟨⟨trivial, trivial, by trivial⟩, ?_⟩
      cases hr : r95 (stL c k0 k1 k2 k3 k4 k5 k6 k7 l0 h0 l1 h1 l2 h2 l3 h3 l4 h4 l5 h5 l6 h6 l7 h7) 16 with
      | false => exact ⟨⟨hp1, trivial⟩, by trivial, by trivial⟩
      | true => exact ⟨⟨⟨hp1, trivial⟩, ⟨hp2, trivial⟩, by omega, by omega, Nat.le_refl 25, hp1⟩, ⟨hp2, trivial⟩, by trivial, by trivial⟩
    · simp only [h, cond_false]
      refine bifP (fun h' => ?_) (fun h' => ?_)
      · simp only [h', cond_true]
        exact ⟨⟨trivial, trivial, by trivial⟩, ⟨hp1, trivial⟩, by trivial, by trivial⟩
      · simp only [h', cond_false]
        cases k2 with
        | false => exact ⟨⟨plain_st, trivial⟩, rfl, rfl⟩
        | true => exact ⟨⟨plain_st, trivial⟩, rfl, rfl⟩

def teval70 (cs : List Value) (op d s imm : Int) (K : List Value → AHeap → Prop) : Prop :=
  bif decide (0 ≤ d) && decide (d < 8) then
      bif (9 + d.toNat * 2 + 2).ble cs.length && (okI .i64 (nth cs (9 + d.toNat * 2 + 0)) && (okI .i64 (nth cs (9 + d.toNat * 2 + 1)) && true)) then
      bif decide (0 ≤ s) && decide (s < 8) then
      bif (9 + s.toNat * 2 + 2).ble cs.length && (okI .i64 (nth cs (9 + s.toNat * 2 + 0)) && (okI .i64 (nth cs (9 + s.toNat * 2 + 1)) && true)) then
      bif (9 + s.toNat * 2 + 2).ble cs.length && (okI .i64 (nth cs (9 + s.toNat * 2 + 0)) && (okI .i64 (nth cs (9 + s.toNat * 2 + 1)) && true)) && veq 4 (AG [I (lI cs s), I (hI cs s)]) (AG [I (lI cs s), I (hI cs s)]) && (s == s && ((9 + d.toNat * 2 + 2).ble cs.length && (okI .i64 (nth cs (9 + d.toNat * 2 + 0)) && (okI .i64 (nth cs (9 + d.toNat * 2 + 1)) && true)) && veq 4 (AG [I (lI cs d), I (hI cs d)]) (AG [I (lI cs d), I (hI cs d)]) && (d == d && true))) then
      bif (9 + s.toNat * 2 + 2).ble cs.length && (okI .i64 (nth cs (9 + s.toNat * 2 + 0)) && (okI .i64 (nth cs (9 + s.toNat * 2 + 1)) && true)) && veq 4 (AG [I (lI cs s), I (hI cs s)]) (AG [I (lI cs s), I (hI cs s)]) && (s == s && ((9 + d.toNat * 2 + 2).ble cs.length && (okI .i64 (nth cs (9 + d.toNat * 2 + 0)) && (okI .i64 (nth cs (9 + d.toNat * 2 + 1)) && true)) && veq 4 (AG [I (lI cs d), I (hI cs d)]) (AG [I (lI cs d), I (hI cs d)]) && (d == d && true))) then
      bif (9 + s.toNat * 2 + 2).ble cs.length && (okI .i64 (nth cs (9 + s.toNat * 2 + 0)) && (okI .i64 (nth cs (9 + s.toNat * 2 + 1)) && true)) && veq 4 (AG [I (lI cs s), I (hI cs s)]) (AG [I (lI cs s), I (hI cs s)]) && (s == s && true) then
      bif op == 7 then
      bif op == 8 then
      bif Nat.ble 25 cs.length && true && veq 4 (Value.agg { toList := cs }) (Value.agg { toList := cs }) && true then
      ((PlainL [I s] ∧ True) ∧ (PlainL [I s] ∧ True) ∧ true = true ∧ 0 ≤ s ∧ s < 8) ∧
      bif !boolO (nth cs (1 + s.toNat * 1)) then
      (PlainL cs ∧ True) ∧ K [B false] (heapB G [some (ABlk.cells cs true)])
    else (True ∧ True ∧ True) ∧
      bif !r84 (lI cs s) (hI cs s) imm 2 512 then
      (PlainL cs ∧ True) ∧ K [B false] (heapB G [some (ABlk.cells cs true)])
    else ((PlainL cs ∧ True) ∧ (PlainL (setA cs 0 d 0 65535) ∧ True) ∧ 0 ≤ d ∧ d < 8 ∧ 25 ≤ cs.length ∧ PlainL cs) ∧ (PlainL (setA cs 0 d 0 65535) ∧ True) ∧ K [B true] (heapB G [some (ABlk.cells (setA cs 0 d 0 65535) true)])
    else False
    else bif Nat.ble 25 cs.length && true && veq 4 (Value.agg { toList := cs }) (Value.agg { toList := cs }) && true then
      ((PlainL [I s] ∧ True) ∧ (PlainL [I s] ∧ True) ∧ true = true ∧ 0 ≤ s ∧ s < 8) ∧
      bif !boolO (nth cs (1 + s.toNat * 1)) then
      (PlainL cs ∧ True) ∧ K [B false] (heapB G [some (ABlk.cells cs true)])
    else (True ∧ True ∧ True) ∧
      bif !r84 (lI cs s) (hI cs s) imm 1 512 then
      (PlainL cs ∧ True) ∧ K [B false] (heapB G [some (ABlk.cells cs true)])
    else ((PlainL cs ∧ True) ∧ (PlainL (setA cs 0 d 0 255) ∧ True) ∧ 0 ≤ d ∧ d < 8 ∧ 25 ≤ cs.length ∧ PlainL cs) ∧ (PlainL (setA cs 0 d 0 255) ∧ True) ∧ K [B true] (heapB G [some (ABlk.cells (setA cs 0 d 0 255) true)])
    else False
    else bif op == 8 then
      bif op == 8 then
      bif Nat.ble 25 cs.length && true && veq 4 (Value.agg { toList := cs }) (Value.agg { toList := cs }) && true then
      ((PlainL [I s] ∧ True) ∧ (PlainL [I s] ∧ True) ∧ true = true ∧ 0 ≤ s ∧ s < 8) ∧
      bif !boolO (nth cs (1 + s.toNat * 1)) then
      (PlainL cs ∧ True) ∧ K [B false] (heapB G [some (ABlk.cells cs true)])
    else (True ∧ True ∧ True) ∧
      bif !r84 (lI cs s) (hI cs s) imm 2 512 then
      (PlainL cs ∧ True) ∧ K [B false] (heapB G [some (ABlk.cells cs true)])
    else ((PlainL cs ∧ True) ∧ (PlainL (setA cs 0 d 0 65535) ∧ True) ∧ 0 ≤ d ∧ d < 8 ∧ 25 ≤ cs.length ∧ PlainL cs) ∧ (PlainL (setA cs 0 d 0 65535) ∧ True) ∧ K [B true] (heapB G [some (ABlk.cells (setA cs 0 d 0 65535) true)])
    else False
    else bif Nat.ble 25 cs.length && true && veq 4 (Value.agg { toList := cs }) (Value.agg { toList := cs }) && true then
      ((PlainL [I s] ∧ True) ∧ (PlainL [I s] ∧ True) ∧ true = true ∧ 0 ≤ s ∧ s < 8) ∧
      bif !boolO (nth cs (1 + s.toNat * 1)) then
      (PlainL cs ∧ True) ∧ K [B false] (heapB G [some (ABlk.cells cs true)])
    else (True ∧ True ∧ True) ∧
      bif !r84 (lI cs s) (hI cs s) imm 1 512 then
      (PlainL cs ∧ True) ∧ K [B false] (heapB G [some (ABlk.cells cs true)])
    else ((PlainL cs ∧ True) ∧ (PlainL (setA cs 0 d 0 255) ∧ True) ∧ 0 ≤ d ∧ d < 8 ∧ 25 ≤ cs.length ∧ PlainL cs) ∧ (PlainL (setA cs 0 d 0 255) ∧ True) ∧ K [B true] (heapB G [some (ABlk.cells (setA cs 0 d 0 255) true)])
    else False
    else bif op == 9 then
      bif op == 10 then
      bif Nat.ble 25 cs.length && true && veq 4 (Value.agg { toList := cs }) (Value.agg { toList := cs }) && true then
      ((PlainL [I s] ∧ True) ∧ (PlainL [I s] ∧ True) ∧ true = true ∧ 0 ≤ s ∧ s < 8) ∧
      bif !boolO (nth cs (1 + s.toNat * 1)) then
      (PlainL cs ∧ True) ∧ K [B false] (heapB G [some (ABlk.cells cs true)])
    else (True ∧ True ∧ True) ∧
      bif !r84 (lI cs s) (hI cs s) imm 1 64 then
      (PlainL cs ∧ True) ∧ K [B false] (heapB G [some (ABlk.cells cs true)])
    else ((PlainL cs ∧ True) ∧ (PlainL (setA cs 0 d 0 255) ∧ True) ∧ 0 ≤ d ∧ d < 8 ∧ 25 ≤ cs.length ∧ PlainL cs) ∧ (PlainL (setA cs 0 d 0 255) ∧ True) ∧ K [B true] (heapB G [some (ABlk.cells (setA cs 0 d 0 255) true)])
    else False
    else bif Nat.ble 25 cs.length && true && veq 4 (Value.agg { toList := cs }) (Value.agg { toList := cs }) && true then
      ((PlainL [I s] ∧ True) ∧ (PlainL [I s] ∧ True) ∧ true = true ∧ 0 ≤ s ∧ s < 8) ∧
      bif !boolO (nth cs (1 + s.toNat * 1)) then
      (PlainL cs ∧ True) ∧ K [B false] (heapB G [some (ABlk.cells cs true)])
    else (True ∧ True ∧ True) ∧
      bif !r84 (lI cs s) (hI cs s) imm 1 16 then
      (PlainL cs ∧ True) ∧ K [B false] (heapB G [some (ABlk.cells cs true)])
    else ((PlainL cs ∧ True) ∧ (PlainL (setA cs 0 d 0 255) ∧ True) ∧ 0 ≤ d ∧ d < 8 ∧ 25 ≤ cs.length ∧ PlainL cs) ∧ (PlainL (setA cs 0 d 0 255) ∧ True) ∧ K [B true] (heapB G [some (ABlk.cells (setA cs 0 d 0 255) true)])
    else False
    else bif op == 10 then
      bif op == 10 then
      bif Nat.ble 25 cs.length && true && veq 4 (Value.agg { toList := cs }) (Value.agg { toList := cs }) && true then
      ((PlainL [I s] ∧ True) ∧ (PlainL [I s] ∧ True) ∧ true = true ∧ 0 ≤ s ∧ s < 8) ∧
      bif !boolO (nth cs (1 + s.toNat * 1)) then
      (PlainL cs ∧ True) ∧ K [B false] (heapB G [some (ABlk.cells cs true)])
    else (True ∧ True ∧ True) ∧
      bif !r84 (lI cs s) (hI cs s) imm 1 64 then
      (PlainL cs ∧ True) ∧ K [B false] (heapB G [some (ABlk.cells cs true)])
    else ((PlainL cs ∧ True) ∧ (PlainL (setA cs 0 d 0 255) ∧ True) ∧ 0 ≤ d ∧ d < 8 ∧ 25 ≤ cs.length ∧ PlainL cs) ∧ (PlainL (setA cs 0 d 0 255) ∧ True) ∧ K [B true] (heapB G [some (ABlk.cells (setA cs 0 d 0 255) true)])
    else False
    else bif Nat.ble 25 cs.length && true && veq 4 (Value.agg { toList := cs }) (Value.agg { toList := cs }) && true then
      ((PlainL [I s] ∧ True) ∧ (PlainL [I s] ∧ True) ∧ true = true ∧ 0 ≤ s ∧ s < 8) ∧
      bif !boolO (nth cs (1 + s.toNat * 1)) then
      (PlainL cs ∧ True) ∧ K [B false] (heapB G [some (ABlk.cells cs true)])
    else (True ∧ True ∧ True) ∧
      bif !r84 (lI cs s) (hI cs s) imm 1 16 then
      (PlainL cs ∧ True) ∧ K [B false] (heapB G [some (ABlk.cells cs true)])
    else ((PlainL cs ∧ True) ∧ (PlainL (setA cs 0 d 0 255) ∧ True) ∧ 0 ≤ d ∧ d < 8 ∧ 25 ≤ cs.length ∧ PlainL cs) ∧ (PlainL (setA cs 0 d 0 255) ∧ True) ∧ K [B true] (heapB G [some (ABlk.cells (setA cs 0 d 0 255) true)])
    else False
    else bif op == 11 then
      bif Nat.ble 25 cs.length && true && veq 4 (Value.agg { toList := cs }) (Value.agg { toList := cs }) && true then
      ((PlainL [I d, I s] ∧ True) ∧ (PlainL [I d, I s] ∧ True) ∧ true = true ∧ (0 ≤ d ∧ d < 8) ∧ 0 ≤ s ∧ s < 8) ∧
      bif boolO (nth cs (1 + d.toNat * 1)) && boolO (nth cs (1 + s.toNat * 1)) then
      (True ∧ True ∧ True) ∧ (PlainL cs ∧ True) ∧ K [B (r84 (lI cs d) (hI cs d) imm 1 64)] (heapB G [some (ABlk.cells cs true)])
    else (PlainL cs ∧ True) ∧ K [B false] (heapB G [some (ABlk.cells cs true)])
    else False
    else bif op == 13 then
      bif Nat.ble 25 cs.length && true && veq 4 (Value.agg { toList := cs }) (Value.agg { toList := cs }) && true then
      ((PlainL [I d, I s] ∧ True) ∧ (PlainL [I d, I s] ∧ True) ∧ true = true ∧ (0 ≤ d ∧ d < 8) ∧ 0 ≤ s ∧ s < 8) ∧ (PlainL cs ∧ True) ∧ K [B (boolO (nth cs (1 + d.toNat * 1)) && boolO (nth cs (1 + s.toNat * 1)))] (heapB G [some (ABlk.cells cs true)])
    else False
    else bif op == 14 then
      bif Nat.ble 25 cs.length && true && veq 4 (Value.agg { toList := cs }) (Value.agg { toList := cs }) && true then
      ((PlainL [I d, I s] ∧ True) ∧ (PlainL [I d, I s] ∧ True) ∧ true = true ∧ (0 ≤ d ∧ d < 8) ∧ 0 ≤ s ∧ s < 8) ∧ (PlainL cs ∧ True) ∧ K [B (boolO (nth cs (1 + d.toNat * 1)) && boolO (nth cs (1 + s.toNat * 1)))] (heapB G [some (ABlk.cells cs true)])
    else False
    else bif op == 15 then
      bif Nat.ble 25 cs.length && true && veq 4 (Value.agg { toList := cs }) (Value.agg { toList := cs }) && true then
      ((PlainL [I d, I s] ∧ True) ∧ (PlainL [I d, I s] ∧ True) ∧ true = true ∧ (0 ≤ d ∧ d < 8) ∧ 0 ≤ s ∧ s < 8) ∧ (PlainL cs ∧ True) ∧ K [B (boolO (nth cs (1 + d.toNat * 1)) && boolO (nth cs (1 + s.toNat * 1)))] (heapB G [some (ABlk.cells cs true)])
    else False
    else bif op == 16 then
      bif Nat.ble 25 cs.length && true && veq 4 (Value.agg { toList := cs }) (Value.agg { toList := cs }) && true then
      ((PlainL [I d, I s] ∧ True) ∧ (PlainL [I d, I s] ∧ True) ∧ true = true ∧ (0 ≤ d ∧ d < 8) ∧ 0 ≤ s ∧ s < 8) ∧ (PlainL cs ∧ True) ∧ K [B (boolO (nth cs (1 + d.toNat * 1)) && boolO (nth cs (1 + s.toNat * 1)))] (heapB G [some (ABlk.cells cs true)])
    else False
    else bif op == 19 then
      ((PlainL cs ∧ True) ∧ (PlainL (c85 cs imm) ∧ True) ∧ true = true) ∧ (PlainL (c85 cs imm) ∧ True) ∧ K [B (r85 cs imm)] (heapB G [some (ABlk.cells (c85 cs imm) true)])
    else bif op == 20 then
      ((PlainL [I 0] ∧ True) ∧ (PlainL [I 0] ∧ True) ∧ true = true ∧ (0 : Int) ≤ 0 ∧ (0 : Int) < 8) ∧ (PlainL cs ∧ True) ∧ K [B (kO cs 0)] (heapB G [some (ABlk.cells cs true)])
    else (PlainL cs ∧ True) ∧ K [B true] (heapB G [some (ABlk.cells cs true)])
    else False
    else False
    else False
    else False
    else False
    else False
    else False
theorem eval70 (c k0 k1 k2 k3 k4 k5 k6 k7 : Bool) (l0 h0 l1 h1 l2 h2 l3 h3 l4 h4 l5 h5 l6 h6 l7 h7 : Int) (op d s imm : Int) (K : List Value → AHeap → Prop) :
    evSeg Tryd.f70 [con84, con24, con67, con85] nt1 [PT G, AG [I op, I d, I s, I imm]] [some (.cells (stL c k0 k1 k2 k3 k4 k5 k6 k7 l0 h0 l1 h1 l2 h2 l3 h3 l4 h4 l5 h5 l6 h6 l7 h7) true)] K
    = (teval70 (stL c k0 k1 k2 k3 k4 k5 k6 k7 l0 h0 l1 h1 l2 h2 l3 h3 l4 h4 l5 h5 l6 h6 l7 h7) op d s imm K ∧ teval70 (stL c k0 k1 k2 k3 k4 k5 k6 k7 l0 h0 l1 h1 l2 h2 l3 h3 l4 h4 l5 h5 l6 h6 l7 h7) op d s imm K) := by kernel_rfl


/-- A register's byte is looked at: of so many, below a bound. -/
def lkB (cs : List Value) (s imm size bound : Int) : Bool := bif !kI cs s then false else r84 (lI cs s) (hI cs s) imm size bound
def r70 (cs : List Value) (op d s imm : Int) : Bool :=
  bif op == 7 then lkB cs s imm 1 512 else bif op == 8 then lkB cs s imm 2 512 else bif op == 9 then lkB cs s imm 1 16 else bif op == 10 then lkB cs s imm 1 64
  else bif op == 11 then (bif kI cs d && kI cs s then r84 (lI cs d) (hI cs d) imm 1 64 else false)
  else bif op == 13 then kI cs d && kI cs s else bif op == 14 then kI cs d && kI cs s else bif op == 15 then kI cs d && kI cs s else bif op == 16 then kI cs d && kI cs s
  else bif op == 19 then r85 cs imm else bif op == 20 then kO cs 0 else true
def c70 (cs : List Value) (op d s imm : Int) : List Value :=
  bif op == 7 then (bif lkB cs s imm 1 512 then setA cs 0 d 0 255 else cs) else bif op == 8 then (bif lkB cs s imm 2 512 then setA cs 0 d 0 65535 else cs)
  else bif op == 9 then (bif lkB cs s imm 1 16 then setA cs 0 d 0 255 else cs) else bif op == 10 then (bif lkB cs s imm 1 64 then setA cs 0 d 0 255 else cs)
  else bif op == 11 then cs else bif op == 13 then cs else bif op == 14 then cs else bif op == 15 then cs else bif op == 16 then cs else bif op == 19 then c85 cs imm else cs
theorem bifN {c : Bool} {p q : Prop} (h1 : c = false → p) (h2 : c = true → q) : bif !c then p else q := by
  cases c
  · exact h1 rfl
  · exact h2 rfl
theorem not_false_of {b : Bool} (h : (!b) = true) : b = false := by cases b <;> simp_all
theorem not_true_of {b : Bool} (h : (!b) = false) : b = true := by cases b <;> simp_all
theorem plain_set {cs : List Value} (h : PlainL cs) (o : Nat) (r a b : Int) : PlainL (setA cs o r a b) := plain_splice (plain_splice h (plain_B _)) (plain_II _ _)
theorem plain_c85 {cs : List Value} (h : PlainL cs) (a : Int) : PlainL (c85 cs a) := by
  unfold c85
  cases a == 1 with
  | false => exact h
  | true =>
    cases r95 cs 16 with
    | false => exact h
    | true => exact plain_set h _ _ _ _
theorem eqNo {op : Int} {m n : Int} (h1 : (op == m) = true) (h2 : (op == n) = true) (h : m ≠ n) {p : Prop} : p := by
  simp only [beq_iff_eq] at h1 h2
  omega

set_option maxHeartbeats 4000000 in
theorem t70_ok {cs : List Value} {op d s imm : Int} {K : List Value → AHeap → Prop} (hp : PlainL cs) (h25 : Nat.ble 25 cs.length = true) (hl : 25 ≤ cs.length) (hv : veq 4 (Value.agg { toList := cs }) (Value.agg { toList := cs }) = true)
    (d0 : 0 ≤ d) (d1 : d < 8) (s0 : 0 ≤ s) (s1 : s < 8)
    (hd : okI .i64 (nth cs (9 + d.toNat * 2 + 0)) = true ∧ okI .i64 (nth cs (9 + d.toNat * 2 + 1)) = true ∧ (9 + d.toNat * 2 + 2).ble cs.length = true)
    (hs : okI .i64 (nth cs (9 + s.toNat * 2 + 0)) = true ∧ okI .i64 (nth cs (9 + s.toNat * 2 + 1)) = true ∧ (9 + s.toNat * 2 + 2).ble cs.length = true)
    (hK : K [B (r70 cs op d s imm)] (heapB G [some (.cells (c70 cs op d s imm) true)])) : teval70 cs op d s imm K := by
  obtain ⟨hd1, hd2, hd3⟩ := hd
  obtain ⟨hs1, hs2, hs3⟩ := hs
  unfold teval70
  have p1 := plain_I s
  have p2 := plain_II d s
  have p3 := plain_I 0
  have p4 := plain_set hp 0 d 0 255
  have p5 := plain_set hp 0 d 0 65535
  have p6 := plain_c85 hp imm
  simp only [d0, d1, s0, s1, hd1, hd2, hd3, hs1, hs2, hs3, h25, hv, veq_ints, beq_self_eq_true, decide_true, Bool.and_self, cond_true]
  repeat' (first | exact trivial | exact rfl | assumption | omega | refine And.intro ?_ ?_ | refine bifN (fun h => ?_) (fun h => ?_) | refine bifP (fun h => ?_) (fun h => ?_))
  all_goals first
    | (simp only [r70, c70, lkB, kI, *, Bool.not_true, Bool.not_false, cond_true, cond_false] at hK; exact hK)
    | (exfalso; clear hK hd1 hd2 hd3 hs1 hs2 hs3 hp p1 p2 p3 p4 p5 p6 hv; simp_all; done)

theorem veq_refl_st {c k0 k1 k2 k3 k4 k5 k6 k7 : Bool} {l0 h0 l1 h1 l2 h2 l3 h3 l4 h4 l5 h5 l6 h6 l7 h7 : Int} : veq 4 (Value.agg { toList := stL c k0 k1 k2 k3 k4 k5 k6 k7 l0 h0 l1 h1 l2 h2 l3 h3 l4 h4 l5 h5 l6 h6 l7 h7 }) (Value.agg { toList := stL c k0 k1 k2 k3 k4 k5 k6 k7 l0 h0 l1 h1 l2 h2 l3 h3 l4 h4 l5 h5 l6 h6 l7 h7 }) = true := by
  simp [veq, veq.go]
abbrev RegP (d s : Int) : Prop := (0 ≤ d ∧ d < 8) ∧ 0 ≤ s ∧ s < 8
noncomputable def con70 : Con := { f := 70, gh := [], paths := [⟨0, [], true⟩], spec := fun args bs => match args, bs with
  | [p, v], [some (.cells cs true)] => match aggV v with
    | some [op, d, s, imm] => bif isPtr p 0 then some (IsSt cs ∧ RegP d s, [B (r70 cs op d s imm)], [(true, some (.cells (c70 cs op d s imm) true))]) else none
    | _ => none
  | _, _ => none }
set_option maxRecDepth 100000 in
set_option maxHeartbeats 4000000 in
theorem con70_ok : con70.ok Tryd.prog w0 := by
  intro args bs p rs out e hp
  simp only [con70] at e
  split at e <;> first | (simp at e; done) | skip
  split at e <;> first | (simp at e; done) | skip
  rename_i p0 v cs _ op d s imm hv
  cases hq : isPtr p0 0 with
  | false => rw [hq] at e; simp at e
  | true =>
    rw [hq] at e
    simp only [cond_true, Option.some.injEq, Prod.mk.injEq] at e
    obtain ⟨e1, e2, e3⟩ := e
    subst e1 e2 e3
    obtain ⟨p1, ⟨d0, d1⟩, s0, s1⟩ := hp
    obtain ⟨c, k0, k1, k2, k3, k4, k5, k6, k7, l0, h0, l1, h1, l2, h2, l3, h3, l4, h4, l5, h5, l6, h6, l7, h7, hcs⟩ := isSt_eq p1
    subst hcs
    rw [aggV_eq hv, isPtr_eq hq]
    refine ev_callS (nt := nt1) (cs := [con84, con24, con67, con85]) (f := 70) (bs := [some (.cells (stL c k0 k1 k2 k3 k4 k5 k6 k7 l0 h0 l1 h1 l2 h2 l3 h3 l4 h4 l5 h5 l6 h6 l7 h7) true)]) Tryd.func70 (by kernel_rfl) (fun c hc => by
      simp only [List.mem_cons, List.not_mem_nil, or_false] at hc
      rcases hc with rfl | rfl | rfl | rfl
      · exact con84_ok
      · exact con24_ok
      · exact con67_ok
      · exact con85_ok) rfl ?_
    refine (eval70 c k0 k1 k2 k3 k4 k5 k6 k7 l0 h0 l1 h1 l2 h2 l3 h3 l4 h4 l5 h5 l6 h6 l7 h7 op d s imm _).mpr ?_
    have key := t70_ok (cs := stL c k0 k1 k2 k3 k4 k5 k6 k7 l0 h0 l1 h1 l2 h2 l3 h3 l4 h4 l5 h5 l6 h6 l7 h7) (op := op) (d := d) (s := s) (imm := imm) (K := fun rs' h' => rs' = [B (r70 (stL c k0 k1 k2 k3 k4 k5 k6 k7 l0 h0 l1 h1 l2 h2 l3 h3 l4 h4 l5 h5 l6 h6 l7 h7) op d s imm)] ∧ h' = heapB G [some (.cells (c70 (stL c k0 k1 k2 k3 k4 k5 k6 k7 l0 h0 l1 h1 l2 h2 l3 h3 l4 h4 l5 h5 l6 h6 l7 h7) op d s imm) true)])
      plain_st rfl (Nat.le_refl 25) veq_refl_st d0 d1 s0 s1 (stI d0 d1) (stI s0 s1) ⟨rfl, rfl⟩
    exact ⟨key, key⟩

def teval46 (cs : List Value) (op d s imm : Int) (K : List Value → AHeap → Prop) : Prop :=
  bif decide (0 ≤ d) && decide (d < 8) then
      bif (9 + d.toNat * 2 + 2).ble cs.length && (okI .i64 (nth cs (9 + d.toNat * 2 + 0)) && (okI .i64 (nth cs (9 + d.toNat * 2 + 1)) && true)) then
      bif decide (0 ≤ s) && decide (s < 8) then
      bif (9 + s.toNat * 2 + 2).ble cs.length && (okI .i64 (nth cs (9 + s.toNat * 2 + 0)) && (okI .i64 (nth cs (9 + s.toNat * 2 + 1)) && true)) then
      bif (9 + s.toNat * 2 + 2).ble cs.length && (okI .i64 (nth cs (9 + s.toNat * 2 + 0)) && (okI .i64 (nth cs (9 + s.toNat * 2 + 1)) && true)) && veq 4 (AG [I (lI cs s), I (hI cs s)]) (AG [I (lI cs s), I (hI cs s)]) && (s == s && ((9 + d.toNat * 2 + 2).ble cs.length && (okI .i64 (nth cs (9 + d.toNat * 2 + 0)) && (okI .i64 (nth cs (9 + d.toNat * 2 + 1)) && true)) && veq 4 (AG [I (lI cs d), I (hI cs d)]) (AG [I (lI cs d), I (hI cs d)]) && (d == d && true))) then
      bif (9 + s.toNat * 2 + 2).ble cs.length && (okI .i64 (nth cs (9 + s.toNat * 2 + 0)) && (okI .i64 (nth cs (9 + s.toNat * 2 + 1)) && true)) && veq 4 (AG [I (lI cs s), I (hI cs s)]) (AG [I (lI cs s), I (hI cs s)]) && (s == s && ((9 + d.toNat * 2 + 2).ble cs.length && (okI .i64 (nth cs (9 + d.toNat * 2 + 0)) && (okI .i64 (nth cs (9 + d.toNat * 2 + 1)) && true)) && veq 4 (AG [I (lI cs d), I (hI cs d)]) (AG [I (lI cs d), I (hI cs d)]) && (d == d && true))) then
      bif (9 + s.toNat * 2 + 2).ble cs.length && (okI .i64 (nth cs (9 + s.toNat * 2 + 0)) && (okI .i64 (nth cs (9 + s.toNat * 2 + 1)) && true)) && veq 4 (AG [I (lI cs s), I (hI cs s)]) (AG [I (lI cs s), I (hI cs s)]) && (s == s && true) then
      bif op == 0 then
      (True ∧ True ∧ True) ∧
      bif d == d && true then
      ((PlainL cs ∧ True) ∧ (PlainL (setA cs 0 d (r14b imm) (r14c imm)) ∧ True) ∧ 0 ≤ d ∧ d < 8 ∧ 25 ≤ cs.length ∧ PlainL cs) ∧ (PlainL (setA cs 0 d (r14b imm) (r14c imm)) ∧ True) ∧ K [B true] (heapB G [some (ABlk.cells (setA cs 0 d (r14b imm) (r14c imm)) true)])
    else False
    else bif op == 1 then
      bif Nat.ble 25 cs.length && true && veq 4 (Value.agg { toList := cs }) (Value.agg { toList := cs }) && true then
      ((PlainL [I s] ∧ True) ∧ (PlainL [I s] ∧ True) ∧ true = true ∧ 0 ≤ s ∧ s < 8) ∧
      bif !boolO (nth cs (1 + s.toNat * 1)) then
      (PlainL cs ∧ True) ∧ K [B false] (heapB G [some (ABlk.cells cs true)])
    else ((PlainL cs ∧ True) ∧ (PlainL (setA cs 0 d (lI cs s) (hI cs s)) ∧ True) ∧ 0 ≤ d ∧ d < 8 ∧ 25 ≤ cs.length ∧ PlainL cs) ∧ (PlainL (setA cs 0 d (lI cs s) (hI cs s)) ∧ True) ∧ K [B true] (heapB G [some (ABlk.cells (setA cs 0 d (lI cs s) (hI cs s)) true)])
    else False
    else bif op == 2 then
      bif Nat.ble 25 cs.length && true && veq 4 (Value.agg { toList := cs }) (Value.agg { toList := cs }) && true then
      ((PlainL [I d, I s] ∧ True) ∧ (PlainL [I d, I s] ∧ True) ∧ true = true ∧ (0 ≤ d ∧ d < 8) ∧ 0 ≤ s ∧ s < 8) ∧
      bif !(boolO (nth cs (1 + d.toNat * 1)) && boolO (nth cs (1 + s.toNat * 1))) then
      (PlainL cs ∧ True) ∧ K [B false] (heapB G [some (ABlk.cells cs true)])
    else bif op == 2 then
      (True ∧ True ∧ True) ∧
      bif d == d && true then
      ((PlainL cs ∧ True) ∧ (PlainL (setA cs 0 d (r12b (lI cs d) (hI cs d) (lI cs s) (hI cs s)) (r12c (lI cs d) (hI cs d) (lI cs s) (hI cs s))) ∧ True) ∧ 0 ≤ d ∧ d < 8 ∧ 25 ≤ cs.length ∧ PlainL cs) ∧ (PlainL (setA cs 0 d (r12b (lI cs d) (hI cs d) (lI cs s) (hI cs s)) (r12c (lI cs d) (hI cs d) (lI cs s) (hI cs s))) ∧ True) ∧ K [B true] (heapB G [some (ABlk.cells (setA cs 0 d (r12b (lI cs d) (hI cs d) (lI cs s) (hI cs s)) (r12c (lI cs d) (hI cs d) (lI cs s) (hI cs s))) true)])
    else False
    else (True ∧ True ∧ True) ∧
      bif d == d && true then
      ((PlainL cs ∧ True) ∧ (PlainL (setA cs 0 d (r68b (lI cs d) (hI cs d) (lI cs s) (hI cs s)) (r68c (lI cs d) (hI cs d) (lI cs s) (hI cs s))) ∧ True) ∧ 0 ≤ d ∧ d < 8 ∧ 25 ≤ cs.length ∧ PlainL cs) ∧ (PlainL (setA cs 0 d (r68b (lI cs d) (hI cs d) (lI cs s) (hI cs s)) (r68c (lI cs d) (hI cs d) (lI cs s) (hI cs s))) ∧ True) ∧ K [B true] (heapB G [some (ABlk.cells (setA cs 0 d (r68b (lI cs d) (hI cs d) (lI cs s) (hI cs s)) (r68c (lI cs d) (hI cs d) (lI cs s) (hI cs s))) true)])
    else False
    else False
    else bif op == 3 then
      bif Nat.ble 25 cs.length && true && veq 4 (Value.agg { toList := cs }) (Value.agg { toList := cs }) && true then
      ((PlainL [I d, I s] ∧ True) ∧ (PlainL [I d, I s] ∧ True) ∧ true = true ∧ (0 ≤ d ∧ d < 8) ∧ 0 ≤ s ∧ s < 8) ∧
      bif !(boolO (nth cs (1 + d.toNat * 1)) && boolO (nth cs (1 + s.toNat * 1))) then
      (PlainL cs ∧ True) ∧ K [B false] (heapB G [some (ABlk.cells cs true)])
    else bif op == 2 then
      (True ∧ True ∧ True) ∧
      bif d == d && true then
      ((PlainL cs ∧ True) ∧ (PlainL (setA cs 0 d (r12b (lI cs d) (hI cs d) (lI cs s) (hI cs s)) (r12c (lI cs d) (hI cs d) (lI cs s) (hI cs s))) ∧ True) ∧ 0 ≤ d ∧ d < 8 ∧ 25 ≤ cs.length ∧ PlainL cs) ∧ (PlainL (setA cs 0 d (r12b (lI cs d) (hI cs d) (lI cs s) (hI cs s)) (r12c (lI cs d) (hI cs d) (lI cs s) (hI cs s))) ∧ True) ∧ K [B true] (heapB G [some (ABlk.cells (setA cs 0 d (r12b (lI cs d) (hI cs d) (lI cs s) (hI cs s)) (r12c (lI cs d) (hI cs d) (lI cs s) (hI cs s))) true)])
    else False
    else (True ∧ True ∧ True) ∧
      bif d == d && true then
      ((PlainL cs ∧ True) ∧ (PlainL (setA cs 0 d (r68b (lI cs d) (hI cs d) (lI cs s) (hI cs s)) (r68c (lI cs d) (hI cs d) (lI cs s) (hI cs s))) ∧ True) ∧ 0 ≤ d ∧ d < 8 ∧ 25 ≤ cs.length ∧ PlainL cs) ∧ (PlainL (setA cs 0 d (r68b (lI cs d) (hI cs d) (lI cs s) (hI cs s)) (r68c (lI cs d) (hI cs d) (lI cs s) (hI cs s))) ∧ True) ∧ K [B true] (heapB G [some (ABlk.cells (setA cs 0 d (r68b (lI cs d) (hI cs d) (lI cs s) (hI cs s)) (r68c (lI cs d) (hI cs d) (lI cs s) (hI cs s))) true)])
    else False
    else False
    else bif op == 4 then
      bif Nat.ble 25 cs.length && true && veq 4 (Value.agg { toList := cs }) (Value.agg { toList := cs }) && true then
      ((PlainL [I d] ∧ True) ∧ (PlainL [I d] ∧ True) ∧ true = true ∧ 0 ≤ d ∧ d < 8) ∧
      bif !boolO (nth cs (1 + d.toNat * 1)) then
      (PlainL cs ∧ True) ∧ K [B false] (heapB G [some (ABlk.cells cs true)])
    else bif op == 4 then
      (True ∧ True ∧ True) ∧
      bif (0 + 2).ble [I (lI cs d), I (hI cs d)].length && true && veq 4 (AG [I (lI cs d), I (hI cs d)]) (AG [I (lI cs d), I (hI cs d)]) && (d == d && true) then
      (True ∧ True ∧ True) ∧
      bif d == d && true then
      ((PlainL cs ∧ True) ∧ (PlainL (setA cs 0 d (r12b (lI cs d) (hI cs d) (r14b imm) (r14c imm)) (r12c (lI cs d) (hI cs d) (r14b imm) (r14c imm))) ∧ True) ∧ 0 ≤ d ∧ d < 8 ∧ 25 ≤ cs.length ∧ PlainL cs) ∧ (PlainL (setA cs 0 d (r12b (lI cs d) (hI cs d) (r14b imm) (r14c imm)) (r12c (lI cs d) (hI cs d) (r14b imm) (r14c imm))) ∧ True) ∧ K [B true] (heapB G [some (ABlk.cells (setA cs 0 d (r12b (lI cs d) (hI cs d) (r14b imm) (r14c imm)) (r12c (lI cs d) (hI cs d) (r14b imm) (r14c imm))) true)])
    else False
    else False
    else bif op == 5 then
      (True ∧ True ∧ True) ∧
      bif d == d && true then
      ((PlainL cs ∧ True) ∧ (PlainL (setA cs 0 d (r52b (lI cs d) (hI cs d) imm) (r52c (lI cs d) (hI cs d) imm)) ∧ True) ∧ 0 ≤ d ∧ d < 8 ∧ 25 ≤ cs.length ∧ PlainL cs) ∧ (PlainL (setA cs 0 d (r52b (lI cs d) (hI cs d) imm) (r52c (lI cs d) (hI cs d) imm)) ∧ True) ∧ K [B true] (heapB G [some (ABlk.cells (setA cs 0 d (r52b (lI cs d) (hI cs d) imm) (r52c (lI cs d) (hI cs d) imm)) true)])
    else False
    else (True ∧ True ∧ True) ∧
      bif d == d && true then
      ((PlainL cs ∧ True) ∧ (PlainL (setA cs 0 d (r69b (lI cs d) (hI cs d) imm) (r69c (lI cs d) (hI cs d) imm)) ∧ True) ∧ 0 ≤ d ∧ d < 8 ∧ 25 ≤ cs.length ∧ PlainL cs) ∧ (PlainL (setA cs 0 d (r69b (lI cs d) (hI cs d) imm) (r69c (lI cs d) (hI cs d) imm)) ∧ True) ∧ K [B true] (heapB G [some (ABlk.cells (setA cs 0 d (r69b (lI cs d) (hI cs d) imm) (r69c (lI cs d) (hI cs d) imm)) true)])
    else False
    else False
    else bif op == 5 then
      bif Nat.ble 25 cs.length && true && veq 4 (Value.agg { toList := cs }) (Value.agg { toList := cs }) && true then
      ((PlainL [I d] ∧ True) ∧ (PlainL [I d] ∧ True) ∧ true = true ∧ 0 ≤ d ∧ d < 8) ∧
      bif !boolO (nth cs (1 + d.toNat * 1)) then
      (PlainL cs ∧ True) ∧ K [B false] (heapB G [some (ABlk.cells cs true)])
    else bif op == 4 then
      (True ∧ True ∧ True) ∧
      bif (0 + 2).ble [I (lI cs d), I (hI cs d)].length && true && veq 4 (AG [I (lI cs d), I (hI cs d)]) (AG [I (lI cs d), I (hI cs d)]) && (d == d && true) then
      (True ∧ True ∧ True) ∧
      bif d == d && true then
      ((PlainL cs ∧ True) ∧ (PlainL (setA cs 0 d (r12b (lI cs d) (hI cs d) (r14b imm) (r14c imm)) (r12c (lI cs d) (hI cs d) (r14b imm) (r14c imm))) ∧ True) ∧ 0 ≤ d ∧ d < 8 ∧ 25 ≤ cs.length ∧ PlainL cs) ∧ (PlainL (setA cs 0 d (r12b (lI cs d) (hI cs d) (r14b imm) (r14c imm)) (r12c (lI cs d) (hI cs d) (r14b imm) (r14c imm))) ∧ True) ∧ K [B true] (heapB G [some (ABlk.cells (setA cs 0 d (r12b (lI cs d) (hI cs d) (r14b imm) (r14c imm)) (r12c (lI cs d) (hI cs d) (r14b imm) (r14c imm))) true)])
    else False
    else False
    else bif op == 5 then
      (True ∧ True ∧ True) ∧
      bif d == d && true then
      ((PlainL cs ∧ True) ∧ (PlainL (setA cs 0 d (r52b (lI cs d) (hI cs d) imm) (r52c (lI cs d) (hI cs d) imm)) ∧ True) ∧ 0 ≤ d ∧ d < 8 ∧ 25 ≤ cs.length ∧ PlainL cs) ∧ (PlainL (setA cs 0 d (r52b (lI cs d) (hI cs d) imm) (r52c (lI cs d) (hI cs d) imm)) ∧ True) ∧ K [B true] (heapB G [some (ABlk.cells (setA cs 0 d (r52b (lI cs d) (hI cs d) imm) (r52c (lI cs d) (hI cs d) imm)) true)])
    else False
    else (True ∧ True ∧ True) ∧
      bif d == d && true then
      ((PlainL cs ∧ True) ∧ (PlainL (setA cs 0 d (r69b (lI cs d) (hI cs d) imm) (r69c (lI cs d) (hI cs d) imm)) ∧ True) ∧ 0 ≤ d ∧ d < 8 ∧ 25 ≤ cs.length ∧ PlainL cs) ∧ (PlainL (setA cs 0 d (r69b (lI cs d) (hI cs d) imm) (r69c (lI cs d) (hI cs d) imm)) ∧ True) ∧ K [B true] (heapB G [some (ABlk.cells (setA cs 0 d (r69b (lI cs d) (hI cs d) imm) (r69c (lI cs d) (hI cs d) imm)) true)])
    else False
    else False
    else bif op == 6 then
      bif Nat.ble 25 cs.length && true && veq 4 (Value.agg { toList := cs }) (Value.agg { toList := cs }) && true then
      ((PlainL [I d] ∧ True) ∧ (PlainL [I d] ∧ True) ∧ true = true ∧ 0 ≤ d ∧ d < 8) ∧
      bif !boolO (nth cs (1 + d.toNat * 1)) then
      (PlainL cs ∧ True) ∧ K [B false] (heapB G [some (ABlk.cells cs true)])
    else bif op == 4 then
      (True ∧ True ∧ True) ∧
      bif (0 + 2).ble [I (lI cs d), I (hI cs d)].length && true && veq 4 (AG [I (lI cs d), I (hI cs d)]) (AG [I (lI cs d), I (hI cs d)]) && (d == d && true) then
      (True ∧ True ∧ True) ∧
      bif d == d && true then
      ((PlainL cs ∧ True) ∧ (PlainL (setA cs 0 d (r12b (lI cs d) (hI cs d) (r14b imm) (r14c imm)) (r12c (lI cs d) (hI cs d) (r14b imm) (r14c imm))) ∧ True) ∧ 0 ≤ d ∧ d < 8 ∧ 25 ≤ cs.length ∧ PlainL cs) ∧ (PlainL (setA cs 0 d (r12b (lI cs d) (hI cs d) (r14b imm) (r14c imm)) (r12c (lI cs d) (hI cs d) (r14b imm) (r14c imm))) ∧ True) ∧ K [B true] (heapB G [some (ABlk.cells (setA cs 0 d (r12b (lI cs d) (hI cs d) (r14b imm) (r14c imm)) (r12c (lI cs d) (hI cs d) (r14b imm) (r14c imm))) true)])
    else False
    else False
    else bif op == 5 then
      (True ∧ True ∧ True) ∧
      bif d == d && true then
      ((PlainL cs ∧ True) ∧ (PlainL (setA cs 0 d (r52b (lI cs d) (hI cs d) imm) (r52c (lI cs d) (hI cs d) imm)) ∧ True) ∧ 0 ≤ d ∧ d < 8 ∧ 25 ≤ cs.length ∧ PlainL cs) ∧ (PlainL (setA cs 0 d (r52b (lI cs d) (hI cs d) imm) (r52c (lI cs d) (hI cs d) imm)) ∧ True) ∧ K [B true] (heapB G [some (ABlk.cells (setA cs 0 d (r52b (lI cs d) (hI cs d) imm) (r52c (lI cs d) (hI cs d) imm)) true)])
    else False
    else (True ∧ True ∧ True) ∧
      bif d == d && true then
      ((PlainL cs ∧ True) ∧ (PlainL (setA cs 0 d (r69b (lI cs d) (hI cs d) imm) (r69c (lI cs d) (hI cs d) imm)) ∧ True) ∧ 0 ≤ d ∧ d < 8 ∧ 25 ≤ cs.length ∧ PlainL cs) ∧ (PlainL (setA cs 0 d (r69b (lI cs d) (hI cs d) imm) (r69c (lI cs d) (hI cs d) imm)) ∧ True) ∧ K [B true] (heapB G [some (ABlk.cells (setA cs 0 d (r69b (lI cs d) (hI cs d) imm) (r69c (lI cs d) (hI cs d) imm)) true)])
    else False
    else False
    else ((PlainL cs ∧ True) ∧ (PlainL (c70 cs op d s imm) ∧ True) ∧ true = true ∧ (0 ≤ d ∧ d < 8) ∧ 0 ≤ s ∧ s < 8) ∧ (PlainL (c70 cs op d s imm) ∧ True) ∧ K [B (r70 cs op d s imm)] (heapB G [some (ABlk.cells (c70 cs op d s imm) true)])
    else False
    else False
    else False
    else False
    else False
    else False
    else False
theorem eval46 (c k0 k1 k2 k3 k4 k5 k6 k7 : Bool) (l0 h0 l1 h1 l2 h2 l3 h3 l4 h4 l5 h5 l6 h6 l7 h7 : Int) (op d s imm : Int) (K : List Value → AHeap → Prop) :
    evSeg Tryd.f46 [con14, con12, con68, con52, con69, con24, con67, con70] nt1 [PT G, AG [I op, I d, I s, I imm]] [some (.cells (stL c k0 k1 k2 k3 k4 k5 k6 k7 l0 h0 l1 h1 l2 h2 l3 h3 l4 h4 l5 h5 l6 h6 l7 h7) true)] K
    = (teval46 (stL c k0 k1 k2 k3 k4 k5 k6 k7 l0 h0 l1 h1 l2 h2 l3 h3 l4 h4 l5 h5 l6 h6 l7 h7) op d s imm K ∧ teval46 (stL c k0 k1 k2 k3 k4 k5 k6 k7 l0 h0 l1 h1 l2 h2 l3 h3 l4 h4 l5 h5 l6 h6 l7 h7) op d s imm K) := by kernel_rfl


def r46 (cs : List Value) (op d s imm : Int) : Bool :=
  bif op == 0 then true else bif op == 1 then kI cs s else bif op == 2 then kI cs d && kI cs s else bif op == 3 then kI cs d && kI cs s
  else bif op == 4 then kI cs d else bif op == 5 then kI cs d else bif op == 6 then kI cs d else r70 cs op d s imm
def c46 (cs : List Value) (op d s imm : Int) : List Value :=
  bif op == 0 then setA cs 0 d (r14b imm) (r14c imm)
  else bif op == 1 then (bif kI cs s then setA cs 0 d (lI cs s) (hI cs s) else cs)
  else bif op == 2 then (bif kI cs d && kI cs s then setA cs 0 d (r12b (lI cs d) (hI cs d) (lI cs s) (hI cs s)) (r12c (lI cs d) (hI cs d) (lI cs s) (hI cs s)) else cs)
  else bif op == 3 then (bif kI cs d && kI cs s then setA cs 0 d (r68b (lI cs d) (hI cs d) (lI cs s) (hI cs s)) (r68c (lI cs d) (hI cs d) (lI cs s) (hI cs s)) else cs)
  else bif op == 4 then (bif kI cs d then setA cs 0 d (r12b (lI cs d) (hI cs d) (r14b imm) (r14c imm)) (r12c (lI cs d) (hI cs d) (r14b imm) (r14c imm)) else cs)
  else bif op == 5 then (bif kI cs d then setA cs 0 d (r52b (lI cs d) (hI cs d) imm) (r52c (lI cs d) (hI cs d) imm) else cs)
  else bif op == 6 then (bif kI cs d then setA cs 0 d (r69b (lI cs d) (hI cs d) imm) (r69c (lI cs d) (hI cs d) imm) else cs)
  else c70 cs op d s imm
theorem plain_bif {b : Bool} {x y : List Value} (hx : PlainL x) (hy : PlainL y) : PlainL (bif b then x else y) := by
  cases b
  · exact hy
  · exact hx
theorem plain_c70 {cs : List Value} (h : PlainL cs) (op d s imm : Int) : PlainL (c70 cs op d s imm) := by
  unfold c70
  repeat' (first | exact h | exact plain_set h _ _ _ _ | exact plain_c85 h _ | refine plain_bif ?_ ?_)
theorem plain_c46 {cs : List Value} (h : PlainL cs) (op d s imm : Int) : PlainL (c46 cs op d s imm) := by
  unfold c46
  repeat' (first | exact h | exact plain_set h _ _ _ _ | exact plain_c70 h _ _ _ _ | refine plain_bif ?_ ?_)

set_option maxHeartbeats 4000000 in
theorem t46_ok {cs : List Value} {op d s imm : Int} {K : List Value → AHeap → Prop} (hp : PlainL cs) (h25 : Nat.ble 25 cs.length = true) (hl : 25 ≤ cs.length) (hv : veq 4 (Value.agg { toList := cs }) (Value.agg { toList := cs }) = true)
    (d0 : 0 ≤ d) (d1 : d < 8) (s0 : 0 ≤ s) (s1 : s < 8)
    (hd : okI .i64 (nth cs (9 + d.toNat * 2 + 0)) = true ∧ okI .i64 (nth cs (9 + d.toNat * 2 + 1)) = true ∧ (9 + d.toNat * 2 + 2).ble cs.length = true)
    (hs : okI .i64 (nth cs (9 + s.toNat * 2 + 0)) = true ∧ okI .i64 (nth cs (9 + s.toNat * 2 + 1)) = true ∧ (9 + s.toNat * 2 + 2).ble cs.length = true)
    (hK : K [B (r46 cs op d s imm)] (heapB G [some (.cells (c46 cs op d s imm) true)])) : teval46 cs op d s imm K := by
  obtain ⟨hd1, hd2, hd3⟩ := hd
  obtain ⟨hs1, hs2, hs3⟩ := hs
  unfold teval46
  have p1 := plain_I s
  have p2 := plain_II d s
  have p3 := plain_I d
  have p6 := plain_c70 hp op d s imm
  simp only [d0, d1, s0, s1, hd1, hd2, hd3, hs1, hs2, hs3, h25, hv, veq_ints, beq_self_eq_true, decide_true, Bool.and_self, cond_true]
  repeat' (first | exact trivial | exact rfl | assumption | exact plain_set hp _ _ _ _ | omega | refine And.intro ?_ ?_ | refine bifN (fun h => ?_) (fun h => ?_) | refine bifP (fun h => ?_) (fun h => ?_))
  all_goals first
    | (simp only [r46, c46, kI, *, cond_true, cond_false] at hK; exact hK)
    | (exfalso; clear hK hd1 hd2 hd3 hs1 hs2 hs3 hp p1 p2 p3 p6 hv; simp_all; done)

noncomputable def con46 : Con := { f := 46, gh := [], paths := [⟨0, [], true⟩], spec := fun args bs => match args, bs with
  | [p, v], [some (.cells cs true)] => match aggV v with
    | some [op, d, s, imm] => bif isPtr p 0 then some (IsSt cs ∧ RegP d s, [B (r46 cs op d s imm)], [(true, some (.cells (c46 cs op d s imm) true))]) else none
    | _ => none
  | _, _ => none }
set_option maxRecDepth 100000 in
set_option maxHeartbeats 4000000 in
theorem con46_ok : con46.ok Tryd.prog w0 := by
  intro args bs p rs out e hp
  simp only [con46] at e
  split at e <;> first | (simp at e; done) | skip
  split at e <;> first | (simp at e; done) | skip
  rename_i p0 v cs _ op d s imm hv
  cases hq : isPtr p0 0 with
  | false => rw [hq] at e; simp at e
  | true =>
    rw [hq] at e
    simp only [cond_true, Option.some.injEq, Prod.mk.injEq] at e
    obtain ⟨e1, e2, e3⟩ := e
    subst e1 e2 e3
    obtain ⟨p1, ⟨d0, d1⟩, s0, s1⟩ := hp
    obtain ⟨c, k0, k1, k2, k3, k4, k5, k6, k7, l0, h0, l1, h1, l2, h2, l3, h3, l4, h4, l5, h5, l6, h6, l7, h7, hcs⟩ := isSt_eq p1
    subst hcs
    rw [aggV_eq hv, isPtr_eq hq]
    refine ev_callS (nt := nt1) (cs := [con14, con12, con68, con52, con69, con24, con67, con70]) (f := 46) (bs := [some (.cells (stL c k0 k1 k2 k3 k4 k5 k6 k7 l0 h0 l1 h1 l2 h2 l3 h3 l4 h4 l5 h5 l6 h6 l7 h7) true)]) Tryd.func46 (by kernel_rfl) (fun c hc => by
      simp only [List.mem_cons, List.not_mem_nil, or_false] at hc
      rcases hc with rfl | rfl | rfl | rfl | rfl | rfl | rfl | rfl
      · exact con14_ok
      · exact con12_ok
      · exact con68_ok
      · exact con52_ok
      · exact con69_ok
      · exact con24_ok
      · exact con67_ok
      · exact con70_ok) rfl ?_
    refine (eval46 c k0 k1 k2 k3 k4 k5 k6 k7 l0 h0 l1 h1 l2 h2 l3 h3 l4 h4 l5 h5 l6 h6 l7 h7 op d s imm _).mpr ?_
    have key := t46_ok (cs := stL c k0 k1 k2 k3 k4 k5 k6 k7 l0 h0 l1 h1 l2 h2 l3 h3 l4 h4 l5 h5 l6 h6 l7 h7) (op := op) (d := d) (s := s) (imm := imm) (K := fun rs' h' => rs' = [B (r46 (stL c k0 k1 k2 k3 k4 k5 k6 k7 l0 h0 l1 h1 l2 h2 l3 h3 l4 h4 l5 h5 l6 h6 l7 h7) op d s imm)] ∧ h' = heapB G [some (.cells (c46 (stL c k0 k1 k2 k3 k4 k5 k6 k7 l0 h0 l1 h1 l2 h2 l3 h3 l4 h4 l5 h5 l6 h6 l7 h7) op d s imm) true)])
      plain_st rfl (Nat.le_refl 25) veq_refl_st d0 d1 s0 s1 (stI d0 d1) (stI s0 s1) ⟨rfl, rfl⟩
    exact ⟨key, key⟩

abbrev PO (b off : Nat) : Value := .pointer (some ⟨b, off, none⟩)
noncomputable def ft48 : FT := { loc := fun _ => false, mask := fun id => bif Nat.beq id 4 then live 63 [0, 3, 13] else [] }
abbrev nt48 : Nt := { gh := [], flags := [true], paths := [⟨3, [], true⟩], tr := [] }
noncomputable def todo48 : List Item := todoOf Tryd.f48 4
noncomputable def fr48 (off : Nat) (i : Int) : List AV := frm 63 [(0, .v (PO G off)), (3, .v (PT (G + 1))), (13, .v (I i))]
noncomputable def hp48 (cs os : List Value) : AHeap := heapB G [some (.cells cs true), some (.cells os true)]
abbrev seg48 (K : List Value → AHeap → Prop) (L : List Item → List AV → AHeap → Prop) (t : List Item) (fr : List AV) (h : AHeap) : Prop :=
  segK3 Tryd.prog ft48 (semI Tryd.prog (fun _ => ft0) (callsOf G [con72]) 400 20 (retT G nt1 K)) Tryd.f48 [4] 60 t fr (fun t fr h => match t with
  | .code (.region 4 _ _) :: _ => canonT G nt48 (L t) fr h
  | _ => False) h

/-- What is known of a register in a state at a place. -/
abbrev kF (cs : List Value) (off : Nat) (i : Int) : Bool := boolO (nth cs (off + 1 + i.toNat * 1))
abbrev lF (cs : List Value) (off : Nat) (i : Int) : Int := intO (nth cs (off + 9 + i.toNat * 2 + 0))
abbrev hF (cs : List Value) (off : Nat) (i : Int) : Int := intO (nth cs (off + 9 + i.toNat * 2 + 1))
abbrev c1 (cs : List Value) (off : Nat) (i : Int) (b : Bool) : List Value := splice cs (off + 1 + i.toNat * 1) [B b]
abbrev c2 (cs os : List Value) (off : Nat) (i : Int) (b : Bool) : List Value := splice (c1 cs off i b) (off + 9 + i.toNat * 2) [I (r72b (lF (c1 cs off i b) off i) (hF (c1 cs off i b) off i) (lI os i) (hI os i)), I (r72c (lF (c1 cs off i b) off i) (hF (c1 cs off i b) off i) (lI os i) (hI os i))]
theorem start48 (c k0 k1 k2 k3 k4 k5 k6 k7 : Bool) (l0 h0 l1 h1 l2 h2 l3 h3 l4 h4 l5 h5 l6 h6 l7 h7 : Int) (off : Nat) (cs : List Value) (K : List Value → AHeap → Prop) (L : List Item → List AV → AHeap → Prop) :
    seg48 K L [.code (Tryd.f48.body.getD .skip)] (startF Tryd.f48 [PO G off, AG (stL c k0 k1 k2 k3 k4 k5 k6 k7 l0 h0 l1 h1 l2 h2 l3 h3 l4 h4 l5 h5 l6 h6 l7 h7)]) (heapB G [some (.cells cs true)])
    = (bif okB (nth cs (off + 0)) then
      bif !boolO (nth cs (off + 0)) then
      bif 25 == 25 && (off + 25).ble cs.length then
      (PlainL (splice cs off [B c, B k0, B k1, B k2, B k3, B k4, B k5, B k6, B k7, I l0, I h0, I l1, I h1, I l2, I h2, I l3, I h3, I l4, I h4, I l5, I h5, I l6, I h6, I l7, I h7]) ∧ True) ∧ K [] (heapB G [some (ABlk.cells (splice cs off [B c, B k0, B k1, B k2, B k3, B k4, B k5, B k6, B k7, I l0, I h0, I l1, I h1, I l2, I h2, I l3, I h3, I l4, I h4, I l5, I h5, I l6, I h6, I l7, I h7]) true)])
    else False
    else (PlainL cs ∧ PlainL [B c, B k0, B k1, B k2, B k3, B k4, B k5, B k6, B k7, I l0, I h0, I l1, I h1, I l2, I h2, I l3, I h3, I l4, I h4, I l5, I h5, I l6, I h6, I l7, I h7] ∧ True) ∧ L todo48 (frm 63 [(0, AV.v (Value.pointer (some ⟨G, off, none⟩))), (3, AV.v (PT (G + 1))), (13, AV.v (I 0))]) (heapB G [some (ABlk.cells cs true), some (ABlk.cells [B c, B k0, B k1, B k2, B k3, B k4, B k5, B k6, B k7, I l0, I h0, I l1, I h1, I l2, I h2, I l3, I h3, I l4, I h4, I l5, I h5, I l6, I h6, I l7, I h7] true)])
    else False) := by kernel_rfl

theorem head48 (off : Nat) (i : Int) (cs os : List Value) (K : List Value → AHeap → Prop) (L : List Item → List AV → AHeap → Prop) :
    seg48 K L todo48 (fr48 off i) (hp48 cs os)
    = (bif decide (i < 8) then
      bif decide (0 ≤ i) && decide (i < 8) then
      bif okB (nth cs (off + 1 + i.toNat * 1)) then
      bif kF cs off i then
      bif decide (0 ≤ i) && decide (i < 8) then
      bif okB (nth os (1 + i.toNat * 1)) then
      bif decide (0 ≤ i) && decide (i < 8) then
      bif 1 == 1 && (off + 1 + i.toNat * 1 + 1).ble cs.length then
      bif decide (0 ≤ i) && decide (i < 8) then
      bif (off + 9 + i.toNat * 2 + 2).ble (c1 cs off i (kI os i)).length && (okI .i64 (nth (c1 cs off i (kI os i)) (off + 9 + i.toNat * 2 + 0)) && (okI .i64 (nth (c1 cs off i (kI os i)) (off + 9 + i.toNat * 2 + 1)) && true)) then
      bif decide (0 ≤ i) && decide (i < 8) then
      bif (9 + i.toNat * 2 + 2).ble os.length && (okI .i64 (nth os (9 + i.toNat * 2 + 0)) && (okI .i64 (nth os (9 + i.toNat * 2 + 1)) && true)) then
      (True ∧ True ∧ True) ∧
      bif decide (0 ≤ i) && decide (i < 8) then
      bif 2 == 2 && (off + 9 + i.toNat * 2 + 2).ble (c1 cs off i (kI os i)).length then
      bif decide (0 ≤ i) && decide (i < 8) then
      bif okB (nth (c2 cs os off i (kI os i)) (off + 1 + i.toNat * 1)) then
      bif !boolO (nth (c2 cs os off i (kI os i)) (off + 1 + i.toNat * 1)) then
      bif decide (0 ≤ i) && decide (i < 8) then
      bif (off + 9 + i.toNat * 2 + 2).ble (c2 cs os off i (kI os i)).length then
      (PlainL (splice (c2 cs os off i (kI os i)) (off + 9 + i.toNat * 2) [I 0, I 0]) ∧ PlainL os ∧ True) ∧ L todo48 (frm 63 [(0, AV.v (Value.pointer (some ⟨G, off, none⟩))), (3, AV.v (PT (G + 1))), (13, AV.v (I (w (i + 1))))]) (heapB G [some (ABlk.cells (splice (c2 cs os off i (kI os i)) (off + 9 + i.toNat * 2) [I 0, I 0]) true), some (ABlk.cells os true)])
    else False
    else False
    else (PlainL (c2 cs os off i (kI os i)) ∧ PlainL os ∧ True) ∧ L todo48 (frm 63 [(0, AV.v (Value.pointer (some ⟨G, off, none⟩))), (3, AV.v (PT (G + 1))), (13, AV.v (I (w (i + 1))))]) (heapB G [some (ABlk.cells (c2 cs os off i (kI os i)) true), some (ABlk.cells os true)])
    else False
    else False
    else False
    else False
    else False
    else False
    else False
    else False
    else False
    else False
    else False
    else False
    else bif decide (0 ≤ i) && decide (i < 8) then
      bif (off + 1 + i.toNat * 1 + 1).ble cs.length then
      bif decide (0 ≤ i) && decide (i < 8) then
      bif (off + 9 + i.toNat * 2 + 2).ble (c1 cs off i false).length && (okI .i64 (nth (c1 cs off i false) (off + 9 + i.toNat * 2 + 0)) && (okI .i64 (nth (c1 cs off i false) (off + 9 + i.toNat * 2 + 1)) && true)) then
      bif decide (0 ≤ i) && decide (i < 8) then
      bif (9 + i.toNat * 2 + 2).ble os.length && (okI .i64 (nth os (9 + i.toNat * 2 + 0)) && (okI .i64 (nth os (9 + i.toNat * 2 + 1)) && true)) then
      (True ∧ True ∧ True) ∧
      bif decide (0 ≤ i) && decide (i < 8) then
      bif 2 == 2 && (off + 9 + i.toNat * 2 + 2).ble (c1 cs off i false).length then
      bif decide (0 ≤ i) && decide (i < 8) then
      bif okB (nth (c2 cs os off i false) (off + 1 + i.toNat * 1)) then
      bif !boolO (nth (c2 cs os off i false) (off + 1 + i.toNat * 1)) then
      bif decide (0 ≤ i) && decide (i < 8) then
      bif (off + 9 + i.toNat * 2 + 2).ble (c2 cs os off i false).length then
      (PlainL (splice (c2 cs os off i false) (off + 9 + i.toNat * 2) [I 0, I 0]) ∧ PlainL os ∧ True) ∧ L todo48 (frm 63 [(0, AV.v (Value.pointer (some ⟨G, off, none⟩))), (3, AV.v (PT (G + 1))), (13, AV.v (I (w (i + 1))))]) (heapB G [some (ABlk.cells (splice (c2 cs os off i false) (off + 9 + i.toNat * 2) [I 0, I 0]) true), some (ABlk.cells os true)])
    else False
    else False
    else (PlainL (c2 cs os off i false) ∧ PlainL os ∧ True) ∧ L todo48 (frm 63 [(0, AV.v (Value.pointer (some ⟨G, off, none⟩))), (3, AV.v (PT (G + 1))), (13, AV.v (I (w (i + 1))))]) (heapB G [some (ABlk.cells (c2 cs os off i false) true), some (ABlk.cells os true)])
    else False
    else False
    else False
    else False
    else False
    else False
    else False
    else False
    else False
    else False
    else False
    else False
    else (PlainL cs ∧ True) ∧ K [] (heapB G [some (ABlk.cells cs true)])) := by kernel_rfl


theorem nth_splice_in {cs xs : List Value} {n k : Nat} (h : n + xs.length ≤ cs.length) (hk : k < xs.length) : nth (splice cs n xs) (n + k) = nth xs k := by
  rw [nth_eq, nth_eq, splice, List.append_assoc, List.getElem?_append_right (by rw [List.length_take]; omega)]
  have : n + k - (cs.take n).length = k := by rw [List.length_take]; omega
  rw [this, List.getElem?_append_left hk]
theorem nth_splice_at {cs : List Value} {n : Nat} (x : Value) (h : n + 1 ≤ cs.length) : nth (splice cs n [x]) n = some x :=
  nth_splice_in (cs := cs) (xs := [x]) (k := 0) (by simpa using h) (by simp)
theorem nth_splice_out {cs xs : List Value} {n j : Nat} (h : n + xs.length ≤ cs.length) (hj : j < n ∨ n + xs.length ≤ j) : nth (splice cs n xs) j = nth cs j := by
  rw [nth_eq, nth_eq, splice]
  rcases hj with hj | hj
  · rw [List.append_assoc, List.getElem?_append_left (by rw [List.length_take]; omega), List.getElem?_take_of_lt hj]
  · rw [List.getElem?_append_right (by rw [List.length_append, List.length_take]; omega), List.getElem?_drop]
    congr 1
    rw [List.length_append, List.length_take]; omega
theorem splice_same {cs xs ys : List Value} {n : Nat} (hl : xs.length = ys.length) (h : n + xs.length ≤ cs.length) : splice (splice cs n xs) n ys = splice cs n ys := by
  have e : ∀ {us vs : List Value} (i : Nat), us.length = vs.length → (∀ i, nth us i = nth vs i) → us = vs := by
    intro us vs _ _ hh
    apply List.ext_getElem?
    intro i
    rw [← nth_eq, ← nth_eq]; exact hh i
  have l1 : (splice cs n xs).length = cs.length := splice_len h
  have l2 : (splice (splice cs n xs) n ys).length = cs.length := by rw [splice_len (by rw [l1]; omega), l1]
  have l3 : (splice cs n ys).length = cs.length := splice_len (by omega)
  refine e 0 (by rw [l2, l3]) fun i => ?_
  by_cases hi : n ≤ i ∧ i < n + ys.length
  · obtain ⟨k, rfl⟩ : ∃ k, i = n + k := ⟨i - n, by omega⟩
    rw [nth_splice_in (cs := splice cs n xs) (by rw [l1]; omega) (by omega), nth_splice_in (cs := cs) (xs := ys) (by omega) (by omega)]
  · rw [nth_splice_out (cs := splice cs n xs) (by rw [l1]; omega) (by omega), nth_splice_out h (by omega), nth_splice_out (cs := cs) (xs := ys) (by omega) (by omega)]

/-- A state's cells stand at a place. -/
structure TyF (cs : List Value) (off : Nat) : Prop where
  len : off + 25 ≤ cs.length
  kn : ∀ r, r < 8 → okB (nth cs (off + 1 + r)) = true
  lo : ∀ r, r < 8 → okI .i64 (nth cs (off + 9 + r * 2 + 0)) = true
  hi : ∀ r, r < 8 → okI .i64 (nth cs (off + 9 + r * 2 + 1)) = true
theorem TyF.spB {cs : List Value} {off : Nat} (h : TyF cs off) {r : Nat} (hr : r < 8) (b : Bool) : TyF (splice cs (off + 1 + r) [B b]) off := by
  have hl := h.len
  have hs : (off + 1 + r) + [B b].length ≤ cs.length := by simp; omega
  refine ⟨by rw [splice_len hs]; exact hl, fun q hq => ?_, fun q hq => ?_, fun q hq => ?_⟩
  · by_cases e : q = r
    · subst e
      rw [nth_splice_at _ (by omega)]; rfl
    · rw [nth_splice_out hs (by simp; omega)]; exact h.kn q hq
  · rw [nth_splice_out hs (by simp; omega)]; exact h.lo q hq
  · rw [nth_splice_out hs (by simp; omega)]; exact h.hi q hq
theorem TyF.spI {cs : List Value} {off : Nat} (h : TyF cs off) {r : Nat} (hr : r < 8) (a b : Int) : TyF (splice cs (off + 9 + r * 2) [I a, I b]) off := by
  have hl := h.len
  have hs : (off + 9 + r * 2) + [I a, I b].length ≤ cs.length := by simp; omega
  refine ⟨by rw [splice_len hs]; exact hl, fun q hq => ?_, fun q hq => ?_, fun q hq => ?_⟩
  · rw [nth_splice_out hs (by simp; omega)]; exact h.kn q hq
  · by_cases e : q = r
    · subst e
      rw [nth_splice_in (k := 0) hs (by simp)]; rfl
    · rw [nth_splice_out hs (by simp; omega)]; exact h.lo q hq
  · by_cases e : q = r
    · subst e
      rw [nth_splice_in (k := 1) hs (by simp)]; rfl
    · rw [nth_splice_out hs (by simp; omega)]; exact h.hi q hq

/-- One register's join. -/
def jn (os : List Value) (off i : Nat) (cs : List Value) : List Value :=
  splice (splice cs (off + 1 + i) [B (boolO (nth cs (off + 1 + i)) && boolO (nth os (1 + i)))]) (off + 9 + i * 2)
    (bif boolO (nth cs (off + 1 + i)) && boolO (nth os (1 + i)) then [I (r72b (intO (nth cs (off + 9 + i * 2 + 0))) (intO (nth cs (off + 9 + i * 2 + 1))) (intO (nth os (9 + i * 2 + 0))) (intO (nth os (9 + i * 2 + 1)))),
      I (r72c (intO (nth cs (off + 9 + i * 2 + 0))) (intO (nth cs (off + 9 + i * 2 + 1))) (intO (nth os (9 + i * 2 + 0))) (intO (nth os (9 + i * 2 + 1))))] else [I 0, I 0])
def joinFrom (os : List Value) (off : Nat) : Nat → Nat → List Value → List Value
  | 0, _, cs => cs
  | n + 1, i, cs => joinFrom os off n (i + 1) (jn os off i cs)
theorem jn_ty {os cs : List Value} {off i : Nat} (h : TyF cs off) (hi : i < 8) : TyF (jn os off i cs) off := by
  unfold jn
  cases boolO (nth cs (off + 1 + i)) && boolO (nth os (1 + i)) with
  | true => exact (h.spB hi _).spI hi _ _
  | false => exact (h.spB hi _).spI hi _ _
theorem jn_plain {os cs : List Value} {off i : Nat} (h : PlainL cs) : PlainL (jn os off i cs) := by
  unfold jn
  cases boolO (nth cs (off + 1 + i)) && boolO (nth os (1 + i)) with
  | true => exact plain_splice (plain_splice h (plain_B _)) (plain_II _ _)
  | false => exact plain_splice (plain_splice h (plain_B _)) (plain_II _ _)

abbrev Sem48 (w0 : World) (K : List Value → AHeap → Prop) (t : List Item) (fr : List AV) (h : AHeap) : Prop :=
  Agm.Sem Tryd.prog w0 (Tryd.prog.globals.size + nt1.flags.length) Tryd.f48 (retT Tryd.prog.globals.size nt1 K) t fr h
theorem leaf48 {K : List Value → AHeap → Prop} : ∀ t fr h, (match t with
    | .code (.region 4 _ _) :: _ => canonT G nt48 (Sem48 w0 K t) fr h
    | _ => False) → Sem48 w0 K t fr h := by
  intro t fr h e
  split at e
  · exact canonT_semN (nt := nt48) rfl e
  · exact e.elim
theorem ok48 : ∀ c ∈ [con72], c.ok Tryd.prog w0 := fun c hc => by
  simp only [List.mem_singleton] at hc
  subst hc
  exact con72_ok

set_option maxRecDepth 100000 in
theorem loop48 {os : List Value} {off : Nat} {K : List Value → AHeap → Prop} (ho : TyF os 0) (hop : PlainL os) : ∀ (n i : Nat) (cs : List Value), i + n = 8 → TyF cs off → PlainL cs → K [] (heapB G [some (.cells (joinFrom os off n i cs) true)]) →
    Sem48 w0 K todo48 (fr48 off i) (hp48 cs os) := by
  intro n
  induction n with
  | zero =>
    intro i cs hi ht hp hK
    refine seg_semI3 (F := ft48) mixed (callsOf_ok ok48) leaf48 [4] 20 60 ((head48 off i cs os K _).mpr ?_)
    have h1 : ¬ ((i : Int) < 8) := by omega
    simp only [h1, decide_false, cond_false]
    exact ⟨⟨hp, trivial⟩, hK⟩
  | succ n ih =>
    intro i cs hi ht hp hK
    refine seg_semI3 (F := ft48) mixed (callsOf_ok ok48) leaf48 [4] 20 60 ((head48 off i cs os K _).mpr ?_)
    have hlt : i < 8 := by omega
    have h1 : ((i : Int) < 8) := by omega
    have h2 : (0 : Int) ≤ (i : Int) := by omega
    have hw1 : w ((i : Int) + 1) = ((i + 1 : Nat) : Int) := by rw [w_id (by omega) (by omega)]; omega
    have hl := ht.len
    have hol := ho.len
    have fin := ih (i + 1) (jn os off i cs) (by omega) (jn_ty ht hlt) (jn_plain hp) hK
    -- the places
    have a1 := ht.kn i hlt
    have a2 := ho.kn i hlt
    have a3 := ho.lo i hlt
    have a4 := ho.hi i hlt
    simp only [Nat.zero_add] at a2 a3 a4
    have b1 : (off + 1 + i + 1).ble cs.length = true := Nat.ble_eq_true_of_le (by omega)
    have b2 : (9 + i * 2 + 2).ble os.length = true := Nat.ble_eq_true_of_le (by omega)
    have hs1 : ∀ b, (off + 1 + i) + [B b].length ≤ cs.length := fun b => by simp; omega
    have c1l : ∀ b, (splice cs (off + 1 + i) [B b]).length = cs.length := fun b => splice_len (hs1 b)
    have hs2 : ∀ b x y, (off + 9 + i * 2) + [I x, I y].length ≤ (splice cs (off + 1 + i) [B b]).length := fun b x y => by rw [c1l]; simp; omega
    have b3 : (off + 9 + i * 2 + 2).ble cs.length = true := Nat.ble_eq_true_of_le (by omega)
    have c2l : ∀ b x y, (splice (splice cs (off + 1 + i) [B b]) (off + 9 + i * 2) [I x, I y]).length = cs.length := fun b x y => by rw [splice_len (hs2 b x y), c1l]
    have e1 : ∀ b, nth (splice cs (off + 1 + i) [B b]) (off + 9 + i * 2 + 0) = nth cs (off + 9 + i * 2 + 0) := fun b => nth_splice_out (hs1 b) (by simp; omega)
    have e2 : ∀ b, nth (splice cs (off + 1 + i) [B b]) (off + 9 + i * 2 + 1) = nth cs (off + 9 + i * 2 + 1) := fun b => nth_splice_out (hs1 b) (by simp; omega)
    have e3 : ∀ b x y, nth (splice (splice cs (off + 1 + i) [B b]) (off + 9 + i * 2) [I x, I y]) (off + 1 + i) = some (B b) := fun b x y => by
      rw [nth_splice_out (hs2 b x y) (by simp; omega)]
      exact nth_splice_at _ (by omega)
    have a5 := ht.lo i hlt
    have a6 := ht.hi i hlt
    have pl1 : ∀ b x y, PlainL (splice (splice cs (off + 1 + i) [B b]) (off + 9 + i * 2) [I x, I y]) := fun b x y => plain_splice (plain_splice hp (plain_B _)) (plain_II _ _)
    have ss : ∀ b x y u v, splice (splice (splice cs (off + 1 + i) [B b]) (off + 9 + i * 2) [I x, I y]) (off + 9 + i * 2) [I u, I v] = splice (splice cs (off + 1 + i) [B b]) (off + 9 + i * 2) [I u, I v] := fun b x y u v => splice_same rfl (hs2 b x y)
    have o1 : ∀ b, okB (some (B b)) = true := fun _ => rfl
    have o2 : ∀ b, boolO (some (B b)) = b := fun _ => rfl
    simp only [Int.toNat_natCast, Nat.mul_one, h1, h2, decide_true, Bool.and_self, cond_true, Bool.not_false, a1, a2, a3, a4, a5, a6, b1, b2, b3, c1l, c2l, e1, e2, e3, ss, hw1, kF, kI, lF, hF, lI, hI, c1, c2, o1, o2, beq_self_eq_true]
    unfold jn at fin
    refine bifP (fun h => ?_) (fun h => ?_)
    · refine ⟨⟨trivial, trivial, trivial⟩, bifN (fun h' => ?_) (fun h' => ?_)⟩
      · simp only [h, h', Bool.and_false, cond_false] at fin
        rw [h']
        exact ⟨⟨pl1 _ _ _, hop, trivial⟩, fin⟩
      · simp only [h, h', Bool.and_self, cond_true] at fin
        rw [h']
        exact ⟨⟨pl1 _ _ _, hop, trivial⟩, fin⟩
    · refine ⟨⟨trivial, trivial, trivial⟩, ?_⟩
      simp only [h, Bool.false_and, cond_false] at fin
      exact ⟨⟨pl1 _ _ _, hop, trivial⟩, fin⟩

theorem tyF_st {c k0 k1 k2 k3 k4 k5 k6 k7 : Bool} {l0 h0 l1 h1 l2 h2 l3 h3 l4 h4 l5 h5 l6 h6 l7 h7 : Int} : TyF (stL c k0 k1 k2 k3 k4 k5 k6 k7 l0 h0 l1 h1 l2 h2 l3 h3 l4 h4 l5 h5 l6 h6 l7 h7) 0 := by
  refine ⟨Nat.le_refl 25, fun r hr => ?_, fun r hr => ?_, fun r hr => ?_⟩ <;>
  · rcases r with _ | _ | _ | _ | _ | _ | _ | _ | r <;> first | rfl | (exfalso; omega)
def join48 (cs : List Value) (off : Nat) (os : List Value) : List Value := bif boolO (nth cs off) then joinFrom os off 8 0 cs else splice cs off os
/-- A state that is come to by another one. -/
noncomputable def con48 : Con := { f := 48, gh := [], paths := [⟨0, [], true⟩], spec := fun args bs => match args, bs with
  | [.pointer (some ⟨b, off, none⟩), .agg os], [some (.cells cs true)] => bif Nat.beq b Tryd.prog.globals.size then some (TyF cs off ∧ okB (nth cs off) = true ∧ IsSt os.toList ∧ PlainL cs, [], [(true, some (.cells (join48 cs off os.toList) true))]) else none
  | _, _ => none }
set_option maxRecDepth 100000 in
set_option maxHeartbeats 4000000 in
theorem con48_ok : con48.ok Tryd.prog w0 := by
  intro args bs p rs out e hp
  simp only [con48] at e
  split at e <;> first | (simp at e; done) | skip
  rename_i b off os cs
  cases hq : Nat.beq b Tryd.prog.globals.size with
  | false => rw [hq] at e; simp at e
  | true =>
    rw [hq] at e
    simp only [cond_true, Option.some.injEq, Prod.mk.injEq] at e
    obtain ⟨e1, e2, e3⟩ := e
    subst e1 e2 e3
    obtain ⟨p1, p2, p3, p4⟩ := hp
    obtain ⟨os⟩ := os
    obtain ⟨c, k0, k1, k2, k3, k4, k5, k6, k7, l0, h0, l1, h1, l2, h2, l3, h3, l4, h4, l5, h5, l6, h6, l7, h7, hcs⟩ := isSt_eq p3
    change os = _ at hcs
    subst hcs
    rw [Nat.eq_of_beq_eq_true hq]
    have hn : (heapB Tryd.prog.globals.size [some (.cells cs true)]).next = Tryd.prog.globals.size + nt1.flags.length := by rw [heapB_next]; rfl
    change CallS Tryd.prog w0 48 [PO G off, AG (stL c k0 k1 k2 k3 k4 k5 k6 k7 l0 h0 l1 h1 l2 h2 l3 h3 l4 h4 l5 h5 l6 h6 l7 h7)] (heapB Tryd.prog.globals.size [some (.cells cs true)]) fun rs' h' => rs' = [] ∧ h' = heapB Tryd.prog.globals.size [some (.cells (join48 cs off (stL c k0 k1 k2 k3 k4 k5 k6 k7 l0 h0 l1 h1 l2 h2 l3 h3 l4 h4 l5 h5 l6 h6 l7 h7)) true)]
    refine retT_call (nt := nt1) hn (call_sem (cd := Tryd.f48.body.getD .skip) Tryd.func48 (by kernel_rfl) ?_)
    rw [hn]
    refine seg_semI3 (F := ft48) mixed (callsOf_ok ok48) leaf48 [4] 20 60 ((start48 c k0 k1 k2 k3 k4 k5 k6 k7 l0 h0 l1 h1 l2 h2 l3 h3 l4 h4 l5 h5 l6 h6 l7 h7 off cs _ _).mpr ?_)
    have hl := p1.len
    have b1 : (off + 25).ble cs.length = true := Nat.ble_eq_true_of_le hl
    simp only [Nat.add_zero, p2, b1, cond_true, Bool.and_true, beq_self_eq_true]
    refine bifN (fun h => ?_) (fun h => ?_)
    · exact ⟨⟨plain_splice p4 plain_st, trivial⟩, by trivial, by rw [join48, h]; rfl⟩
    · refine ⟨⟨p4, plain_st, trivial⟩, ?_⟩
      refine loop48 tyF_st plain_st 8 0 cs rfl p1 p4 ⟨by trivial, by rw [join48, h]; rfl⟩

/-- A checker's blocks: itself, the program, the loops, their ends, the states. -/
noncomputable def ckB (n : Nat) (cl : List Value) (rw : Bool) (cp ce cst : List Value) : List (Option ABlk) :=
  [some (.cells [SL (G + 1) n 4, SL (G + 2) n 1, SL (G + 3) n 1, SL (G + 4) n 25] true), some (.cells cl rw), some (.cells cp true), some (.cells ce true), some (.cells cst true)]
abbrev ptK : List Pth := [⟨0, [], false⟩, ⟨0, [0], true⟩, ⟨0, [1], true⟩, ⟨0, [2], true⟩, ⟨0, [3], true⟩]
abbrev flK : List Bool := [false, true, true, true, true]
abbrev ntK : Nt := { gh := [], flags := flK, paths := [], tr := [] }

noncomputable def ft45 : FT := { loc := fun _ => false, mask := fun id => bif Nat.beq id 2 then live 38 [0, 1, 7] else [] }
noncomputable def todo45 : List Item := todoOf Tryd.f45 2
noncomputable def fr45 (i k : Int) : List AV := frm 38 [(0, .v (PT G)), (1, .v (I i)), (7, .v (I k))]
abbrev seg45 (K : List Value → AHeap → Prop) (L : List Item → List AV → AHeap → Prop) (t : List Item) (fr : List AV) (h : AHeap) : Prop :=
  segK3 Tryd.prog ft45 (semI Tryd.prog (fun _ => ft0) (callsOf G []) 400 20 (retT G ntK K)) Tryd.f45 [2] 60 t fr (fun t fr h => match t with
  | .code (.region 2 _ _) :: _ => canonT G ntK (L t) fr h
  | _ => False) h

noncomputable def ft47 : FT := { loc := fun _ => false, mask := fun id => bif Nat.beq id 2 then live 45 [4, 6, 23, 24, 25] else [] }
noncomputable def todo47 : List Item := todoOf Tryd.f47 2
abbrev nt47 : Nt := { gh := [], flags := flK, paths := [⟨4, [], true⟩, ⟨6, [], true⟩], tr := [] }
noncomputable def fr47 (at1 m : Nat) (i : Int) : List AV := frm 45 [(4, .v (PT (G + 5))), (6, .v (PT (G + 6))), (23, .v (.slice (some ⟨G + 1, at1 * 4, none⟩) m 4)), (24, .v (I m)), (25, .v (I i))]
abbrev seg47 (K : List Value → AHeap → Prop) (L : List Item → List AV → AHeap → Prop) (t : List Item) (fr : List AV) (h : AHeap) : Prop :=
  segK3 Tryd.prog ft47 (semI Tryd.prog (fun _ => ft0) (callsOf G [con71, con13]) 400 20 (retT G ntK K)) Tryd.f47 [2] 60 t fr (fun t fr h => match t with
  | .code (.region 2 _ _) :: _ => canonT G nt47 (L t) fr h
  | _ => False) h

theorem start45 (i to : Int) (n : Nat) (cl : List Value) (rw : Bool) (cp ce cst : List Value) (K : List Value → AHeap → Prop) (L : List Item → List AV → AHeap → Prop) :
    seg45 K L [.code (Tryd.f45.body.getD .skip)] (startF Tryd.f45 [PT G, I i, I to]) (heapB G (ckB n cl rw cp ce cst))
    = (bif decide (0 ≤ to) && decide (to < (↑n : Int)) then
      bif okI .i64 (nth cp (0 + to.toNat * 1)) then
      (PlainL cl ∧ PlainL cp ∧ PlainL ce ∧ PlainL cst ∧ True) ∧ L todo45 (frm 38 [(0, AV.v (PT G)), (1, AV.v (I i)), (7, AV.v (I (intO (nth cp (0 + to.toNat * 1)))))]) (heapB G (ckB n cl rw cp ce cst))
    else False
    else False) := by kernel_rfl
theorem head45 (i k : Int) (n : Nat) (cl : List Value) (rw : Bool) (cp ce cst : List Value) (K : List Value → AHeap → Prop) (L : List Item → List AV → AHeap → Prop) :
    seg45 K L todo45 (fr45 i k) (heapB G (ckB n cl rw cp ce cst))
    = (bif decide (k ≥ 0) then
      bif decide (i ≤ k) then
      (PlainL cl ∧ PlainL cp ∧ PlainL ce ∧ PlainL cst ∧ True) ∧ K [B false] (heapB G (ckB n cl rw cp ce cst))
    else bif decide (0 ≤ k) && decide (k < (↑n : Int)) then
      bif okI .i64 (nth ce (0 + k.toNat * 1)) then
      bif decide (i > intO (nth ce (0 + k.toNat * 1))) then
      (PlainL cl ∧ PlainL cp ∧ PlainL ce ∧ PlainL cst ∧ True) ∧ K [B false] (heapB G (ckB n cl rw cp ce cst))
    else bif decide (0 ≤ k) && decide (k < (↑n : Int)) then
      bif okI .i64 (nth cp (0 + k.toNat * 1)) then
      (PlainL cl ∧ PlainL cp ∧ PlainL ce ∧ PlainL cst ∧ True) ∧ L todo45 (frm 38 [(0, AV.v (PT G)), (1, AV.v (I i)), (7, AV.v (I (intO (nth cp (0 + k.toNat * 1)))))]) (heapB G (ckB n cl rw cp ce cst))
    else False
    else False
    else False
    else False
    else (PlainL cl ∧ PlainL cp ∧ PlainL ce ∧ PlainL cst ∧ True) ∧ K [B true] (heapB G (ckB n cl rw cp ce cst))) := by kernel_rfl

def withinF (lp en : List Int) (i : Int) : Nat → Int → Bool
  | 0, _ => false
  | f + 1, k => bif decide (k ≥ 0) then (bif decide (i ≤ k) then false else bif decide (i > en.getD k.toNat 0) then false else withinF lp en i f (lp.getD k.toNat 0)) else true
/-- Of each instruction a Loop ahead of it, or none. -/
structure LpOk (lp : List Int) (n : Nat) : Prop where
  len : lp.length = n
  lo : ∀ k, k < n → -1 ≤ lp.getD k 0
  hi : ∀ k, k < n → lp.getD k 0 < (k : Int)
abbrev SemK (w0 : World) (fn : Func) (K : List Value → AHeap → Prop) (t : List Item) (fr : List AV) (h : AHeap) : Prop :=
  Agm.Sem Tryd.prog w0 (Tryd.prog.globals.size + flK.length) fn (retT Tryd.prog.globals.size ntK K) t fr h
theorem leaf45 {K : List Value → AHeap → Prop} : ∀ t fr h, (match t with
    | .code (.region 2 _ _) :: _ => canonT G ntK (SemK w0 Tryd.f45 K t) fr h
    | _ => False) → SemK w0 Tryd.f45 K t fr h := by
  intro t fr h e
  split at e
  · exact canonT_semN (nt := ntK) rfl e
  · exact e.elim
theorem ok_none : ∀ c ∈ ([] : List Con), c.ok Tryd.prog w0 := fun c hc => by simp at hc
theorem getI {l : List Int} {k : Nat} (h : k < l.length) : okI .i64 (nth (ints l) (0 + k * 1)) = true ∧ intO (nth (ints l) (0 + k * 1)) = l.getD k 0 := by
  have e : 0 + k * 1 = k := by omega
  rw [e]
  refine ⟨okI_ints h, ?_⟩
  rw [intO_ints h, List.getD_eq_getElem?_getD, List.getElem?_eq_getElem h]; rfl

set_option maxRecDepth 100000 in
theorem loop45 {n : Nat} {cl cst : List Value} {rw : Bool} {lp en : List Int} {i : Int} {K : List Value → AHeap → Prop} (hcl : PlainL cl) (hcst : PlainL cst) (hlp : LpOk lp n) (hen : en.length = n) : ∀ (f : Nat) (k : Int), -1 ≤ k → k < n → k < f →
    K [B (withinF lp en i (f + 1) k)] (heapB G (ckB n cl rw (ints lp) (ints en) cst)) → SemK w0 Tryd.f45 K todo45 (fr45 i k) (heapB G (ckB n cl rw (ints lp) (ints en) cst)) := by
  intro f
  induction f with
  | zero =>
    intro k h1 h2 h3 hK
    refine seg_semI3 (F := ft45) mixed (callsOf_ok ok_none) leaf45 [2] 20 60 ((head45 i k n cl rw (ints lp) (ints en) cst K _).mpr ?_)
    have hk : ¬ (k ≥ 0) := by omega
    simp only [withinF, hk, decide_false, cond_false] at hK ⊢
    exact ⟨⟨hcl, plain_ints lp, plain_ints en, hcst, trivial⟩, hK⟩
  | succ f ih =>
    intro k h1 h2 h3 hK
    refine seg_semI3 (F := ft45) mixed (callsOf_ok ok_none) leaf45 [2] 20 60 ((head45 i k n cl rw (ints lp) (ints en) cst K _).mpr ?_)
    by_cases hk : k ≥ 0
    · have hkn : k.toNat < n := by omega
      obtain ⟨e1, e2⟩ := getI (l := en) (k := k.toNat) (by omega)
      obtain ⟨e3, e4⟩ := getI (l := lp) (k := k.toNat) (by rw [hlp.len]; omega)
      have q1 := hlp.lo k.toNat hkn
      have q2 := hlp.hi k.toNat hkn
      rw [withinF] at hK
      simp only [hk, h2, e1, e2, e3, e4, decide_true, Bool.and_self, cond_true] at hK ⊢
      by_cases hi : i ≤ k
      · simp only [hi, decide_true, cond_true] at hK ⊢
        exact ⟨⟨hcl, plain_ints lp, plain_ints en, hcst, trivial⟩, hK⟩
      · simp only [hi, decide_false, cond_false] at hK ⊢
        by_cases hj : i > en.getD k.toNat 0
        · simp only [hj, decide_true, cond_true] at hK ⊢
          exact ⟨⟨hcl, plain_ints lp, plain_ints en, hcst, trivial⟩, hK⟩
        · simp only [hj, decide_false, cond_false] at hK ⊢
          exact ⟨⟨hcl, plain_ints lp, plain_ints en, hcst, trivial⟩, ih _ q1 (by omega) (by omega) hK⟩
    · rw [withinF] at hK
      simp only [hk, decide_false, cond_false] at hK ⊢
      exact ⟨⟨hcl, plain_ints lp, plain_ints en, hcst, trivial⟩, hK⟩

/-- A checker's blocks, as they are told. -/
noncomputable def ckP (bs : List (Option ABlk)) : Option (Prop × Nat × List Value × Bool × List Value × List Value × List Value) := match bs with
  | [some (.cells [a, b, c, d] true), some (.cells cl rw), some (.cells cp true), some (.cells ce true), some (.cells cst true)] => match slN a 1 4, slN b 2 1, slN c 3 1, slN d 4 25 with
    | some n, some n1, some n2, some n3 => some (n1 = n ∧ n2 = n ∧ n3 = n, n, cl, rw, cp, ce, cst)
    | _, _, _, _ => none
  | _ => none
theorem ckP_eq {bs : List (Option ABlk)} {p : Prop} {n : Nat} {cl cp ce cst : List Value} {rw : Bool} (e : ckP bs = some (p, n, cl, rw, cp, ce, cst)) (hp : p) : bs = ckB n cl rw cp ce cst := by
  unfold ckP at e
  split at e
  · split at e
    · rename_i n0 n1 n2 n3 h0 h1 h2 h3
      simp only [Option.some.injEq, Prod.mk.injEq] at e
      obtain ⟨rfl, rfl, rfl, rfl, rfl, rfl, rfl⟩ := e
      obtain ⟨rfl, rfl, rfl⟩ := hp
      rw [slN_eq h0, slN_eq h1, slN_eq h2, slN_eq h3]; rfl
    · simp at e
  · simp at e
noncomputable def con45 : Con := { f := 45, gh := [], paths := ptK, spec := fun args bs => match args, ckP bs with
  | [p, vi, vt], some (q, n, cl, rw, cp, ce, cst) => match intV vi, intV vt with
    | some i, some to => bif isPtr p 0 then some (q ∧ PlainL cl ∧ PlainL cst ∧ cp = ints (unI cp) ∧ ce = ints (unI ce) ∧ LpOk (unI cp) n ∧ (unI ce).length = n ∧ 0 ≤ to ∧ to < (n : Int),
        [B (withinF (unI cp) (unI ce) i (n + 1) ((unI cp).getD to.toNat 0))], flK.zip (ckB n cl rw cp ce cst)) else none
    | _, _ => none
  | _, _ => none }
set_option maxRecDepth 100000 in
theorem con45_ok : con45.ok Tryd.prog w0 := by
  intro args bs p rs out e hp
  simp only [con45] at e
  split at e <;> first | (simp at e; done) | skip
  split at e <;> first | (simp at e; done) | skip
  rename_i p0 vi vt q n cl rw cp ce cst hck _ _ i to hi hto
  cases hq : isPtr p0 0 with
  | false => rw [hq] at e; simp at e
  | true =>
    rw [hq] at e
    simp only [cond_true, Option.some.injEq, Prod.mk.injEq] at e
    obtain ⟨e1, e2, e3⟩ := e
    subst e1 e2 e3
    obtain ⟨p1, p2, p3, p4, p5, p6, p7, p8, p9⟩ := hp
    rw [ckP_eq hck p1, isPtr_eq hq, intV_eq hi, intV_eq hto]
    generalize unI cp = lp at p4 p6 ⊢
    generalize unI ce = en at p5 p7 ⊢
    subst p4 p5
    have hn : (heapB Tryd.prog.globals.size (ckB n cl rw (ints lp) (ints en) cst)).next = Tryd.prog.globals.size + ntK.flags.length := by rw [heapB_next]; rfl
    change CallS Tryd.prog w0 45 [PT G, I i, I to] (heapB Tryd.prog.globals.size (ckB n cl rw (ints lp) (ints en) cst)) fun rs' h' => rs' = [B (withinF lp en i (n + 1) (lp.getD to.toNat 0))] ∧ h' = heapB Tryd.prog.globals.size (ckB n cl rw (ints lp) (ints en) cst)
    refine retT_call (nt := ntK) hn (call_sem (cd := Tryd.f45.body.getD .skip) Tryd.func45 (by kernel_rfl) ?_)
    rw [hn]
    have hkn : to.toNat < n := by omega
    obtain ⟨e3, e4⟩ := getI (l := lp) (k := to.toNat) (by rw [p6.len]; omega)
    refine seg_semI3 (F := ft45) mixed (callsOf_ok ok_none) leaf45 [2] 20 60 ((start45 i to n cl rw (ints lp) (ints en) cst _ _).mpr ?_)
    simp only [p8, p9, e3, e4, decide_true, Bool.and_self, cond_true]
    have q1 := p6.lo to.toNat hkn
    have q2 := p6.hi to.toNat hkn
    exact ⟨⟨p2, plain_ints lp, plain_ints en, p3, trivial⟩, loop45 p2 p3 p6 p7 n _ q1 (by omega) (by omega) ⟨rfl, rfl⟩⟩

abbrev iy (cl : List Value) (at1 : Nat) (i : Int) (k : Nat) : Int := intO (nth cl (at1 * 4 + i.toNat * 4 + k))
abbrev wr (cl : List Value) (at1 : Nat) (i : Int) : Int := r71 (iy cl at1 i 0) (iy cl at1 i 1) (iy cl at1 i 2) (iy cl at1 i 3)
abbrev us0 : List Value := [B false, B false, B false, B false, B false, B false, B false, B false, B false, I 0, I 0, I 0, I 0, I 0, I 0, I 0, I 0, I 0, I 0, I 0, I 0, I 0, I 0, I 0, I 0]
theorem start47 (c k0 k1 k2 k3 k4 k5 k6 k7 : Bool) (l0 h0 l1 h1 l2 h2 l3 h3 l4 h4 l5 h5 l6 h6 l7 h7 : Int) (a : Int) (n : Nat) (cl : List Value) (rw : Bool) (cp ce cst : List Value) (K : List Value → AHeap → Prop) (L : List Item → List AV → AHeap → Prop) :
    seg47 K L [.code (Tryd.f47.body.getD .skip)] (startF Tryd.f47 [PT G, AG (stL c k0 k1 k2 k3 k4 k5 k6 k7 l0 h0 l1 h1 l2 h2 l3 h3 l4 h4 l5 h5 l6 h6 l7 h7), I a]) (heapB G (ckB n cl rw cp ce cst))
    = (bif decide (0 ≤ a) && decide (a < (↑n : Int)) then
      bif okI .i64 (nth ce (0 + a.toNat * 1)) then
      bif decide (0 ≤ intO (nth ce (0 + a.toNat * 1))) && decide (intO (nth ce (0 + a.toNat * 1)) ≤ (↑n : Int)) && decide (0 ≤ w (a + 1)) && decide (w (a + 1) ≤ intO (nth ce (0 + a.toNat * 1))) then
      (PlainL cl ∧ PlainL cp ∧ PlainL ce ∧ PlainL cst ∧ PlainL (stL c k0 k1 k2 k3 k4 k5 k6 k7 l0 h0 l1 h1 l2 h2 l3 h3 l4 h4 l5 h5 l6 h6 l7 h7) ∧ PlainL [B false, B false, B false, B false, B false, B false, B false, B false, B false, I 0, I 0, I 0, I 0, I 0, I 0, I 0, I 0, I 0, I 0, I 0, I 0, I 0, I 0, I 0, I 0] ∧ True) ∧ L todo47 (frm 45 [(4, AV.v (PT (G + 5))), (6, AV.v (PT (G + 6))), (23, AV.v (Value.slice (some ⟨G + 1, 0 + (w (a + 1)).toNat * 4, none⟩) ((intO (nth ce (0 + a.toNat * 1))).toNat - (w (a + 1)).toNat) 4)), (24, AV.v (I (↑((intO (nth ce (0 + a.toNat * 1))).toNat - (w (a + 1)).toNat) : Int))), (25, AV.v (I 0))]) (heapB G (ckB n cl rw cp ce cst ++ [some (ABlk.cells (stL c k0 k1 k2 k3 k4 k5 k6 k7 l0 h0 l1 h1 l2 h2 l3 h3 l4 h4 l5 h5 l6 h6 l7 h7) true), some (ABlk.cells [B false, B false, B false, B false, B false, B false, B false, B false, B false, I 0, I 0, I 0, I 0, I 0, I 0, I 0, I 0, I 0, I 0, I 0, I 0, I 0, I 0, I 0, I 0] true)]))
    else False
    else False
    else False) := by kernel_rfl
theorem head47 (at1 m : Nat) (i : Int) (ss us : List Value) (n : Nat) (cl : List Value) (rw : Bool) (cp ce cst : List Value) (K : List Value → AHeap → Prop) (L : List Item → List AV → AHeap → Prop) :
    seg47 K L todo47 (fr47 at1 m i) (heapB G (ckB n cl rw cp ce cst ++ [some (.cells ss true), some (.cells us true)]))
    = (bif decide (i < (↑m : Int)) then
      bif decide (0 ≤ i) && decide (i < (↑m : Int)) then
      bif (at1 * 4 + i.toNat * 4 + 4).ble cl.length && (okI .i64 (nth cl (at1 * 4 + i.toNat * 4 + 0)) && (okI .i64 (nth cl (at1 * 4 + i.toNat * 4 + 1)) && (okI .i64 (nth cl (at1 * 4 + i.toNat * 4 + 2)) && (okI .i64 (nth cl (at1 * 4 + i.toNat * 4 + 3)) && true)))) then
      (True ∧ True ∧ True) ∧
      bif decide ((wr cl at1 i) ≥ 0) then
      bif decide (0 ≤ (wr cl at1 i)) && decide ((wr cl at1 i) < 8) then
      bif okB (nth ss (1 + (wr cl at1 i).toNat * 1)) then
      bif kI ss (wr cl at1 i) then
      (True ∧ True ∧ True) ∧
      bif decide (0 ≤ (wr cl at1 i)) && decide ((wr cl at1 i) < 8) then
      bif (9 + (wr cl at1 i).toNat * 2 + 2).ble ss.length then
      (PlainL cl ∧ PlainL cp ∧ PlainL ce ∧ PlainL cst ∧ PlainL (splice ss (9 + (wr cl at1 i).toNat * 2) [I (-1099511627776), I 1099511627776]) ∧ PlainL us ∧ True) ∧ L todo47 (frm 45 [(4, AV.v (PT (G + 5))), (6, AV.v (PT (G + 6))), (23, AV.v (Value.slice (some ⟨G + 1, at1 * 4, none⟩) m 4)), (24, AV.v (I (↑m : Int))), (25, AV.v (I (w (i + 1))))]) (heapB G (ckB n cl rw cp ce cst ++ [some (ABlk.cells (splice ss (9 + (wr cl at1 i).toNat * 2) [I (-1099511627776), I 1099511627776]) true), some (ABlk.cells us true)]))
    else False
    else False
    else (PlainL cl ∧ PlainL cp ∧ PlainL ce ∧ PlainL cst ∧ PlainL ss ∧ PlainL us ∧ True) ∧ L todo47 (frm 45 [(4, AV.v (PT (G + 5))), (6, AV.v (PT (G + 6))), (23, AV.v (Value.slice (some ⟨G + 1, at1 * 4, none⟩) m 4)), (24, AV.v (I (↑m : Int))), (25, AV.v (I (w (i + 1))))]) (heapB G (ckB n cl rw cp ce cst ++ [some (ABlk.cells ss true), some (ABlk.cells us true)]))
    else False
    else False
    else (PlainL cl ∧ PlainL cp ∧ PlainL ce ∧ PlainL cst ∧ PlainL ss ∧ PlainL us ∧ True) ∧ L todo47 (frm 45 [(4, AV.v (PT (G + 5))), (6, AV.v (PT (G + 6))), (23, AV.v (Value.slice (some ⟨G + 1, at1 * 4, none⟩) m 4)), (24, AV.v (I (↑m : Int))), (25, AV.v (I (w (i + 1))))]) (heapB G (ckB n cl rw cp ce cst ++ [some (ABlk.cells ss true), some (ABlk.cells us true)]))
    else False
    else False
    else bif Nat.ble 25 ss.length && (okB (nth ss 0) && (okB (nth ss 1) && (okB (nth ss 2) && (okB (nth ss 3) && (okB (nth ss 4) && (okB (nth ss 5) && (okB (nth ss 6) && (okB (nth ss 7) && (okB (nth ss 8) && (okI .i64 (nth ss 9) && (okI .i64 (nth ss 10) && (okI .i64 (nth ss 11) && (okI .i64 (nth ss 12) && (okI .i64 (nth ss 13) && (okI .i64 (nth ss 14) && (okI .i64 (nth ss 15) && (okI .i64 (nth ss 16) && (okI .i64 (nth ss 17) && (okI .i64 (nth ss 18) && (okI .i64 (nth ss 19) && (okI .i64 (nth ss 20) && (okI .i64 (nth ss 21) && (okI .i64 (nth ss 22) && (okI .i64 (nth ss 23) && (okI .i64 (nth ss 24) && true))))))))))))))))))))))))) then
      bif 25 == 25 && Nat.ble 25 us.length then
      (PlainL cl ∧ PlainL cp ∧ PlainL ce ∧ PlainL cst ∧ True) ∧ K [AG [B (boolO (nth ss 0)), B (boolO (nth ss 1)), B (boolO (nth ss 2)), B (boolO (nth ss 3)), B (boolO (nth ss 4)), B (boolO (nth ss 5)), B (boolO (nth ss 6)), B (boolO (nth ss 7)), B (boolO (nth ss 8)), I (intO (nth ss 9)), I (intO (nth ss 10)), I (intO (nth ss 11)), I (intO (nth ss 12)), I (intO (nth ss 13)), I (intO (nth ss 14)), I (intO (nth ss 15)), I (intO (nth ss 16)), I (intO (nth ss 17)), I (intO (nth ss 18)), I (intO (nth ss 19)), I (intO (nth ss 20)), I (intO (nth ss 21)), I (intO (nth ss 22)), I (intO (nth ss 23)), I (intO (nth ss 24))]] (heapB G (ckB n cl rw cp ce cst))
    else False
    else False) := by kernel_rfl

def wrI (x : Ins) : Int := r71 x.op x.d x.s x.imm
theorem reg_ok {n : Int} (h : r50 n = true) : 0 ≤ n ∧ n < 8 := by
  unfold r50 at h
  cases h1 : decide (n ≥ 0) with
  | false => rw [h1] at h; simp at h
  | true =>
    rw [h1, cond_true] at h
    simp only [decide_eq_true_eq] at h h1
    omega
theorem right_regs {x : Ins} (h : right x = true) : (0 ≤ x.d ∧ x.d < 8) ∧ 0 ≤ x.s ∧ x.s < 8 := by
  unfold right r29 at h
  cases h1 : r50 x.d <;> simp only [h1, Bool.not_true, Bool.not_false, cond_true, cond_false] at h
  · simp at h
  cases h2 : r50 x.s <;> simp only [h2, Bool.not_true, Bool.not_false, cond_true, cond_false] at h
  · simp at h
  exact ⟨reg_ok h1, reg_ok h2⟩
theorem bif_rng {c : Bool} {x y : Int} (hx : -1 ≤ x ∧ x < 8) (hy : -1 ≤ y ∧ y < 8) : -1 ≤ (bif c then x else y) ∧ (bif c then x else y) < 8 := by
  cases c
  · exact hy
  · exact hx
theorem r71_le {a b c d : Int} (hb : 0 ≤ b ∧ b < 8) : -1 ≤ r71 a b c d ∧ r71 a b c d < 8 := by
  unfold r71
  repeat' (first | omega | refine bif_rng ?_ ?_)
theorem wrI_le {x : Ins} (h : right x = true) : -1 ≤ wrI x ∧ wrI x < 8 := r71_le (right_regs h).1

theorem isSt_spI {cs : List Value} (h : IsSt cs) {r : Int} (h1' : 0 ≤ r) (h2' : r < 8) (a b : Int) : IsSt (splice cs (9 + r.toNat * 2) [I a, I b]) := by
  obtain ⟨c, k0, k1, k2, k3, k4, k5, k6, k7, l0, h0, l1, h1, l2, h2, l3, h3, l4, h4, l5, h5, l6, h6, l7, h7, hcs⟩ := isSt_eq h
  subst hcs
  obtain ⟨n, rfl⟩ := Int.eq_ofNat_of_zero_le h1'
  rw [Int.toNat_natCast]
  have hn : n < 8 := by omega
  rcases n with _ | _ | _ | _ | _ | _ | _ | _ | n <;> first | rfl | (exfalso; omega)
theorem isSt_spB {cs : List Value} (h : IsSt cs) {r : Int} (h1' : 0 ≤ r) (h2' : r < 8) (a : Bool) : IsSt (splice cs (1 + r.toNat * 1) [B a]) := by
  obtain ⟨c, k0, k1, k2, k3, k4, k5, k6, k7, l0, h0, l1, h1, l2, h2, l3, h3, l4, h4, l5, h5, l6, h6, l7, h7, hcs⟩ := isSt_eq h
  subst hcs
  obtain ⟨n, rfl⟩ := Int.eq_ofNat_of_zero_le h1'
  rw [Int.toNat_natCast]
  have hn : n < 8 := by omega
  rcases n with _ | _ | _ | _ | _ | _ | _ | _ | n <;> first | rfl | (exfalso; omega)
theorem isSt_plain {cs : List Value} (h : IsSt cs) : PlainL cs := by
  obtain ⟨c, k0, k1, k2, k3, k4, k5, k6, k7, l0, h0, l1, h1, l2, h2, l3, h3, l4, h4, l5, h5, l6, h6, l7, h7, hcs⟩ := isSt_eq h
  subst hcs
  exact plain_st
theorem isSt_k {cs : List Value} (h : IsSt cs) {r : Int} (h1' : 0 ≤ r) (h2' : r < 8) : okB (nth cs (1 + r.toNat * 1)) = true := by
  obtain ⟨c, k0, k1, k2, k3, k4, k5, k6, k7, l0, h0, l1, h1, l2, h2, l3, h3, l4, h4, l5, h5, l6, h6, l7, h7, hcs⟩ := isSt_eq h
  subst hcs
  exact stB h1' h2'
theorem isSt_len {cs : List Value} (h : IsSt cs) : cs.length = 25 := by
  obtain ⟨c, k0, k1, k2, k3, k4, k5, k6, k7, l0, h0, l1, h1, l2, h2, l3, h3, l4, h4, l5, h5, l6, h6, l7, h7, hcs⟩ := isSt_eq h
  subst hcs
  rfl

/-- What an instruction of a Loop's body writes may be anything. -/
def wide1 (x : Ins) (ss : List Value) : List Value := bif decide (wrI x ≥ 0) then (bif kI ss (wrI x) then splice ss (9 + (wrI x).toNat * 2) [I (-1099511627776), I 1099511627776] else ss) else ss
def widenL : List Ins → List Value → List Value
  | [], ss => ss
  | x :: r, ss => widenL r (wide1 x ss)
theorem wide1_st {x : Ins} {ss : List Value} (hx : right x = true) (h : IsSt ss) : IsSt (wide1 x ss) := by
  unfold wide1
  cases hd : decide (wrI x ≥ 0) with
  | false => exact h
  | true =>
    simp only [decide_eq_true_eq] at hd
    cases kI ss (wrI x) with
    | false => exact h
    | true => exact isSt_spI h hd (wrI_le hx).2 _ _
theorem widenL_st : ∀ {l : List Ins} {ss : List Value}, (∀ x ∈ l, right x = true) → IsSt ss → IsSt (widenL l ss)
  | [], _, _, h => h
  | x :: r, _, hl, h => widenL_st (l := r) (fun y hy => hl y (List.mem_cons_of_mem _ hy)) (wide1_st (hl x (List.mem_cons_self ..)) h)

theorem leaf47 {K : List Value → AHeap → Prop} : ∀ t fr h, (match t with
    | .code (.region 2 _ _) :: _ => canonT G nt47 (SemK w0 Tryd.f47 K t) fr h
    | _ => False) → SemK w0 Tryd.f47 K t fr h := by
  intro t fr h e
  split at e
  · exact canonT_semN (nt := nt47) rfl e
  · exact e.elim
theorem ok47 : ∀ c ∈ [con71, con13], c.ok Tryd.prog w0 := fun c hc => by
  simp only [List.mem_cons, List.not_mem_nil, or_false] at hc
  rcases hc with rfl | rfl
  · exact con71_ok
  · exact con13_ok

theorem at_insC2 {l : List Ins} {at1 i : Nat} (h : at1 + i < l.length) : (at1 * 4 + (i : Int).toNat * 4 + 4).ble (insC l).length = true ∧ (okI .i64 (nth (insC l) (at1 * 4 + (i : Int).toNat * 4 + 0)) = true ∧ okI .i64 (nth (insC l) (at1 * 4 + (i : Int).toNat * 4 + 1)) = true ∧ okI .i64 (nth (insC l) (at1 * 4 + (i : Int).toNat * 4 + 2)) = true ∧ okI .i64 (nth (insC l) (at1 * 4 + (i : Int).toNat * 4 + 3)) = true) ∧
    wr (insC l) at1 (i : Int) = wrI l[at1 + i] := by
  obtain ⟨h1, h2, h3, h4⟩ := nth_insC h
  have e0 : at1 * 4 + (i : Int).toNat * 4 + 0 = (at1 + i) * 4 := by simp; omega
  have e1 : at1 * 4 + (i : Int).toNat * 4 + 1 = (at1 + i) * 4 + 1 := by simp; omega
  have e2 : at1 * 4 + (i : Int).toNat * 4 + 2 = (at1 + i) * 4 + 2 := by simp; omega
  have e3 : at1 * 4 + (i : Int).toNat * 4 + 3 = (at1 + i) * 4 + 3 := by simp; omega
  refine ⟨Nat.ble_eq_true_of_le (by rw [insC_len]; simp; omega), ?_⟩
  simp only [wr, iy, e0, e1, e2, e3, h1, h2, h3, h4]
  exact ⟨⟨rfl, rfl, rfl, rfl⟩, rfl⟩

set_option maxRecDepth 100000 in
set_option maxHeartbeats 4000000 in
theorem loop47 {n : Nat} {l : List Ins} {cp ce cst us : List Value} {rw : Bool} {at1 m : Nat} {K : List Value → AHeap → Prop} (hl : ∀ x ∈ l, right x = true) (hm : at1 + m ≤ l.length) (hbig : l.length < 1000000000) (hcp : PlainL cp) (hce : PlainL ce) (hcst : PlainL cst) (hus : PlainL us) (hul : us.length = 25) :
    ∀ (k i : Nat) (ss : List Value), i + k = m → IsSt ss → K [AG (widenL ((l.drop (at1 + i)).take k) ss)] (heapB G (ckB n (insC l) rw cp ce cst)) →
    SemK w0 Tryd.f47 K todo47 (fr47 at1 m i) (heapB G (ckB n (insC l) rw cp ce cst ++ [some (.cells ss true), some (.cells us true)])) := by
  intro k
  induction k with
  | zero =>
    intro i ss hi hst hK
    refine seg_semI3 (F := ft47) mixed (callsOf_ok ok47) leaf47 [2] 20 60 ((head47 at1 m i ss us n (insC l) rw cp ce cst K _).mpr ?_)
    have hlt0 : ¬ ((i : Int) < (m : Int)) := by omega
    obtain ⟨c, k0, k1, k2, k3, k4, k5, k6, k7, l0, h0, l1, h1, l2, h2, l3, h3, l4, h4, l5, h5, l6, h6, l7, h7, hcs⟩ := isSt_eq hst
    subst hcs
    have b1 : Nat.ble 25 us.length = true := Nat.ble_eq_true_of_le (by omega)
    simp only [List.take_zero, widenL] at hK
    simp only [hlt0, decide_false, cond_false, b1]
    exact ⟨⟨plain_insC l, hcp, hce, hcst, trivial⟩, hK⟩
  | succ k ih =>
    intro i ss hi hst hK
    refine seg_semI3 (F := ft47) mixed (callsOf_ok ok47) leaf47 [2] 20 60 ((head47 at1 m i ss us n (insC l) rw cp ce cst K _).mpr ?_)
    have h1 : ((i : Int) < (m : Int)) := by omega
    have h2 : (0 : Int) ≤ (i : Int) := by omega
    have hlt : at1 + i < l.length := by omega
    obtain ⟨e1, ⟨e2, e3, e4, e5⟩, e6⟩ := at_insC2 hlt
    have hw1 : w ((i : Int) + 1) = ((i + 1 : Nat) : Int) := by rw [w_id (by omega) (by omega)]; omega
    have hx := hl _ (List.getElem_mem hlt)
    have hd : (l.drop (at1 + i)).take (k + 1) = l[at1 + i] :: (l.drop (at1 + (i + 1))).take k := by
      rw [List.drop_eq_getElem_cons hlt, List.take_succ_cons]; rfl
    rw [hd, widenL] at hK
    have fin := ih (i + 1) (wide1 l[at1 + i] ss) (by omega) (wide1_st hx hst) hK
    have hr := wrI_le hx
    have hpl := plain_insC l
    simp only [h1, h2, e1, e2, e3, e4, e5, e6, hw1, decide_true, Bool.and_self, cond_true]
    refine ⟨⟨trivial, trivial, trivial⟩, ?_⟩
    unfold wide1 at fin
    by_cases hge : wrI l[at1 + i] ≥ 0
    · have hge' : 0 ≤ wrI l[at1 + i] := hge
      have b2 : (9 + (wrI l[at1 + i]).toNat * 2 + 2).ble ss.length = true := Nat.ble_eq_true_of_le (by rw [isSt_len hst]; omega)
      simp only [hge, hr.2, isSt_k hst hge' hr.2, b2, decide_true, Bool.and_self, cond_true] at fin ⊢
      refine bifP (fun h => ?_) (fun h => ?_)
      · rw [h] at fin
        exact ⟨⟨trivial, trivial, trivial⟩, ⟨hpl, hcp, hce, hcst, plain_splice (isSt_plain hst) (plain_II _ _), hus, trivial⟩, fin⟩
      · rw [h] at fin
        exact ⟨⟨hpl, hcp, hce, hcst, isSt_plain hst, hus, trivial⟩, fin⟩
    · simp only [hge, decide_false, cond_false] at fin ⊢
      exact ⟨⟨hpl, hcp, hce, hcst, isSt_plain hst, hus, trivial⟩, fin⟩

/-- A state's cells, one by one. -/
abbrev lit25 (x : List Value) : List Value := [B (boolO (nth x 0)), B (boolO (nth x 1)), B (boolO (nth x 2)), B (boolO (nth x 3)), B (boolO (nth x 4)), B (boolO (nth x 5)), B (boolO (nth x 6)), B (boolO (nth x 7)), B (boolO (nth x 8)), I (intO (nth x 9)), I (intO (nth x 10)), I (intO (nth x 11)), I (intO (nth x 12)), I (intO (nth x 13)), I (intO (nth x 14)), I (intO (nth x 15)), I (intO (nth x 16)), I (intO (nth x 17)), I (intO (nth x 18)), I (intO (nth x 19)), I (intO (nth x 20)), I (intO (nth x 21)), I (intO (nth x 22)), I (intO (nth x 23)), I (intO (nth x 24))]
theorem lit25_eq {x : List Value} (h : IsSt x) : lit25 x = x := by
  obtain ⟨c, k0, k1, k2, k3, k4, k5, k6, k7, l0, h0, l1, h1, l2, h2, l3, h3, l4, h4, l5, h5, l6, h6, l7, h7, hcs⟩ := isSt_eq h
  subst hcs
  rfl
/-- A state behind a Loop. -/
noncomputable def con47 : Con := { f := 47, gh := [], paths := ptK, spec := fun args bs => match args, ckP bs with
  | [p, .agg ss, va], some (q, n, cl, rw, cp, ce, cst) => match intV va with
    | some a => bif isPtr p 0 then some (q ∧ (cl = insC (unIns cl) ∧ (unIns cl).length = n ∧ n < 1000000000 ∧ ∀ x ∈ unIns cl, right x = true) ∧ PlainL cp ∧ PlainL cst ∧ ce = ints (unI ce) ∧ (unI ce).length = n ∧ (0 ≤ a ∧ a < (n : Int) ∧ a + 1 ≤ (unI ce).getD a.toNat 0 ∧ (unI ce).getD a.toNat 0 ≤ (n : Int)) ∧ IsSt ss.toList,
        [AG (lit25 (widenL (((unIns cl).drop (a.toNat + 1)).take (((unI ce).getD a.toNat 0).toNat - (a.toNat + 1))) ss.toList))], flK.zip (ckB n cl rw cp ce cst)) else none
    | none => none
  | _, _ => none }
set_option maxRecDepth 100000 in
set_option maxHeartbeats 4000000 in
theorem con47_ok : con47.ok Tryd.prog w0 := by
  intro args bs p rs out e hp
  simp only [con47] at e
  split at e <;> first | (simp at e; done) | skip
  split at e <;> first | (simp at e; done) | skip
  rename_i p0 ss va q n cl rw cp ce cst hck _ a ha
  cases hq : isPtr p0 0 with
  | false => rw [hq] at e; simp at e
  | true =>
    rw [hq] at e
    simp only [cond_true, Option.some.injEq, Prod.mk.injEq] at e
    obtain ⟨e1, e2, e3⟩ := e
    subst e1 e2 e3
    obtain ⟨p1, ⟨p2, p3, p4, p5⟩, p6, p7, p8, p9, ⟨p10, p11, p12, p13⟩, p14⟩ := hp
    obtain ⟨ss⟩ := ss
    obtain ⟨c, k0, k1, k2, k3, k4, k5, k6, k7, l0, h0, l1, h1, l2, h2, l3, h3, l4, h4, l5, h5, l6, h6, l7, h7, hcs⟩ := isSt_eq p14
    change ss = _ at hcs
    subst hcs
    rw [ckP_eq hck p1, isPtr_eq hq, intV_eq ha]
    generalize unIns cl = l at p2 p3 p5 ⊢
    generalize unI ce = en at p8 p9 p12 p13 ⊢
    subst p2 p8
    have hn : (heapB Tryd.prog.globals.size (ckB n (insC l) rw cp (ints en) cst)).next = Tryd.prog.globals.size + ntK.flags.length := by rw [heapB_next]; rfl
    change CallS Tryd.prog w0 47 [PT G, AG (stL c k0 k1 k2 k3 k4 k5 k6 k7 l0 h0 l1 h1 l2 h2 l3 h3 l4 h4 l5 h5 l6 h6 l7 h7), I a] (heapB Tryd.prog.globals.size (ckB n (insC l) rw cp (ints en) cst)) fun rs' h' => rs' = [AG (lit25 (widenL ((l.drop (a.toNat + 1)).take ((en.getD a.toNat 0).toNat - (a.toNat + 1))) (stL c k0 k1 k2 k3 k4 k5 k6 k7 l0 h0 l1 h1 l2 h2 l3 h3 l4 h4 l5 h5 l6 h6 l7 h7)))] ∧ h' = heapB Tryd.prog.globals.size (ckB n (insC l) rw cp (ints en) cst)
    rw [lit25_eq (widenL_st (fun x hx => p5 x (List.mem_of_mem_drop (List.mem_of_mem_take hx))) p14)]
    refine retT_call (nt := ntK) hn (call_sem (cd := Tryd.f47.body.getD .skip) Tryd.func47 (by kernel_rfl) ?_)
    rw [hn]
    have hkn : a.toNat < n := by omega
    obtain ⟨e3, e4⟩ := getI (l := en) (k := a.toNat) (by omega)
    rw [Nat.zero_add] at e3 e4
    have hw1 : w (a + 1) = a + 1 := w_id (by omega) (by omega)
    have q0 : 0 ≤ a + 1 := by omega
    have q1 : 0 ≤ en.getD a.toNat 0 := by omega
    refine seg_semI3 (F := ft47) mixed (callsOf_ok ok47) leaf47 [2] 20 60 ((start47 c k0 k1 k2 k3 k4 k5 k6 k7 l0 h0 l1 h1 l2 h2 l3 h3 l4 h4 l5 h5 l6 h6 l7 h7 a n (insC l) rw cp (ints en) cst _ _).mpr ?_)
    have tn : (a + 1).toNat = a.toNat + 1 := by omega
    simp only [p10, p11, p12, p13, e3, e4, hw1, q0, q1, tn, decide_true, Bool.and_self, cond_true, Nat.zero_add]
    refine ⟨⟨plain_insC l, p6, plain_ints en, p7, plain_st, isSt_plain rfl, trivial⟩, ?_⟩
    have hl2 : l.length = n := p3
    exact loop47 (at1 := a.toNat + 1) (m := (en.getD a.toNat 0).toNat - (a.toNat + 1)) p5 (by omega) (by omega) p6 (plain_ints en) p7 (isSt_plain rfl) rfl _ 0 _ (by omega) p14 ⟨rfl, rfl⟩

noncomputable abbrev cs25 : List Con := [con44, con45, con46, con47, con48]
noncomputable def ft25 : FT := { loc := fun _ => false, mask := fun id => bif Nat.beq id 7 || Nat.beq id 9 || Nat.beq id 11 || Nat.beq id 13 then live 98 [0, 1, 5, 6] else [] }
abbrev nt25 : Nt := { gh := [], flags := flK, paths := [⟨5, [], true⟩, ⟨6, [], true⟩], tr := [] }
noncomputable def todo25 (id : Nat) : List Item := todoOf Tryd.f25 id
noncomputable def t25a : List Item := todo25 7
noncomputable def t25b : List Item := todo25 9
noncomputable def t25c : List Item := todo25 11
noncomputable def t25d : List Item := todo25 13
noncomputable def fr25 (i : Int) : List AV := frm 98 [(0, .v (PT G)), (1, .v (I i)), (5, .v (PT (G + 5))), (6, .v (PT (G + 6)))]
noncomputable def hp25 (n : Nat) (cl : List Value) (rw : Bool) (cp ce cst : List Value) (op d s imm : Int) (ss : List Value) : AHeap := heapB G (ckB n cl rw cp ce cst ++ [some (.cells [I op, I d, I s, I imm] true), some (.cells ss true)])
abbrev seg25 (K : List Value → AHeap → Prop) (L : List Item → List AV → AHeap → Prop) (t : List Item) (fr : List AV) (h : AHeap) : Prop :=
  segK3 Tryd.prog ft25 (semI Tryd.prog (fun _ => ft0) (callsOf G cs25) 400 20 (retT G ntK K)) Tryd.f25 [7, 9, 11, 13] 400 t fr (fun t fr h => match t with
  | .code (.region _ _ _) :: _ => canonT G nt25 (L t) fr h
  | _ => False) h

abbrev sta (cst : List Value) (i : Int) : List Value := [B (boolO (nth cst (0 + i.toNat * 25 + 0))), B (boolO (nth cst (0 + i.toNat * 25 + 1))), B (boolO (nth cst (0 + i.toNat * 25 + 2))), B (boolO (nth cst (0 + i.toNat * 25 + 3))), B (boolO (nth cst (0 + i.toNat * 25 + 4))), B (boolO (nth cst (0 + i.toNat * 25 + 5))), B (boolO (nth cst (0 + i.toNat * 25 + 6))), B (boolO (nth cst (0 + i.toNat * 25 + 7))), B (boolO (nth cst (0 + i.toNat * 25 + 8))), I (intO (nth cst (0 + i.toNat * 25 + 9))), I (intO (nth cst (0 + i.toNat * 25 + 10))), I (intO (nth cst (0 + i.toNat * 25 + 11))), I (intO (nth cst (0 + i.toNat * 25 + 12))), I (intO (nth cst (0 + i.toNat * 25 + 13))), I (intO (nth cst (0 + i.toNat * 25 + 14))), I (intO (nth cst (0 + i.toNat * 25 + 15))), I (intO (nth cst (0 + i.toNat * 25 + 16))), I (intO (nth cst (0 + i.toNat * 25 + 17))), I (intO (nth cst (0 + i.toNat * 25 + 18))), I (intO (nth cst (0 + i.toNat * 25 + 19))), I (intO (nth cst (0 + i.toNat * 25 + 20))), I (intO (nth cst (0 + i.toNat * 25 + 21))), I (intO (nth cst (0 + i.toNat * 25 + 22))), I (intO (nth cst (0 + i.toNat * 25 + 23))), I (intO (nth cst (0 + i.toNat * 25 + 24)))]
abbrev okS (cst : List Value) (i : Int) : Bool := okB (nth cst (0 + i.toNat * 25 + 0)) && (okB (nth cst (0 + i.toNat * 25 + 1)) && (okB (nth cst (0 + i.toNat * 25 + 2)) && (okB (nth cst (0 + i.toNat * 25 + 3)) && (okB (nth cst (0 + i.toNat * 25 + 4)) && (okB (nth cst (0 + i.toNat * 25 + 5)) && (okB (nth cst (0 + i.toNat * 25 + 6)) && (okB (nth cst (0 + i.toNat * 25 + 7)) && (okB (nth cst (0 + i.toNat * 25 + 8)) && (okI .i64 (nth cst (0 + i.toNat * 25 + 9)) && (okI .i64 (nth cst (0 + i.toNat * 25 + 10)) && (okI .i64 (nth cst (0 + i.toNat * 25 + 11)) && (okI .i64 (nth cst (0 + i.toNat * 25 + 12)) && (okI .i64 (nth cst (0 + i.toNat * 25 + 13)) && (okI .i64 (nth cst (0 + i.toNat * 25 + 14)) && (okI .i64 (nth cst (0 + i.toNat * 25 + 15)) && (okI .i64 (nth cst (0 + i.toNat * 25 + 16)) && (okI .i64 (nth cst (0 + i.toNat * 25 + 17)) && (okI .i64 (nth cst (0 + i.toNat * 25 + 18)) && (okI .i64 (nth cst (0 + i.toNat * 25 + 19)) && (okI .i64 (nth cst (0 + i.toNat * 25 + 20)) && (okI .i64 (nth cst (0 + i.toNat * 25 + 21)) && (okI .i64 (nth cst (0 + i.toNat * 25 + 22)) && (okI .i64 (nth cst (0 + i.toNat * 25 + 23)) && (okI .i64 (nth cst (0 + i.toNat * 25 + 24)) && true))))))))))))))))))))))))
theorem start25 (i : Int) (n : Nat) (cl : List Value) (rw : Bool) (cp ce cst : List Value) (K : List Value → AHeap → Prop) (L : List Item → List AV → AHeap → Prop) :
    seg25 K L [.code (Tryd.f25.body.getD .skip)] (startF Tryd.f25 [PT G, I i]) (heapB G (ckB n cl rw cp ce cst))
    = (bif decide (0 ≤ i) && decide (i < (↑n : Int)) then
      bif (0 + i.toNat * 4 + 4).ble cl.length && (ox cl i 0 && (ox cl i 1 && (ox cl i 2 && (ox cl i 3 && true)))) then
      (True ∧ True ∧ True) ∧
      bif r44 (ix cl i 0) then
      bif decide (ix cl i 3 ≤ i) then
      (PlainL cl ∧ PlainL cp ∧ PlainL ce ∧ PlainL cst ∧ True) ∧ K [B false] (heapB G (ckB n cl rw cp ce cst))
    else bif decide (ix cl i 3 ≥ (↑n : Int)) then
      (PlainL cl ∧ PlainL cp ∧ PlainL ce ∧ PlainL cst ∧ True) ∧ K [B false] (heapB G (ckB n cl rw cp ce cst))
    else ((PlainL cl ∧ PlainL cp ∧ PlainL ce ∧ PlainL cst ∧ True) ∧ (PlainL cl ∧ PlainL cp ∧ PlainL ce ∧ PlainL cst ∧ True) ∧ (n = n ∧ n = n ∧ n = n) ∧ PlainL cl ∧ PlainL cst ∧ cp = ints (unI cp) ∧ ce = ints (unI ce) ∧ LpOk (unI cp) n ∧ (unI ce).length = n ∧ 0 ≤ ix cl i 3 ∧ ix cl i 3 < (↑n : Int)) ∧
      bif !withinF (unI cp) (unI ce) i (n + 1) ((unI cp).getD (ix cl i 3).toNat 0) then
      (PlainL cl ∧ PlainL cp ∧ PlainL ce ∧ PlainL cst ∧ True) ∧ K [B false] (heapB G (ckB n cl rw cp ce cst))
    else bif decide (0 ≤ i) && decide (i < (↑n : Int)) then
      bif (0 + i.toNat * 25 + 25).ble cst.length && okS cst i then
      bif !boolO (nth cst (0 + i.toNat * 25 + 0)) then
      (PlainL cl ∧ PlainL cp ∧ PlainL ce ∧ PlainL cst ∧ True) ∧ K [B true] (heapB G (ckB n cl rw cp ce cst))
    else (PlainL cl ∧ PlainL cp ∧ PlainL ce ∧ PlainL cst ∧ PlainL [I (ix cl i 0), I (ix cl i 1), I (ix cl i 2), I (ix cl i 3)] ∧ PlainL (sta cst i) ∧ True) ∧ L t25a (frm 98 [(0, AV.v (PT G)), (1, AV.v (I i)), (5, AV.v (PT (G + 5))), (6, AV.v (PT (G + 6)))]) (heapB G (ckB n cl rw cp ce cst ++ [some (ABlk.cells [I (ix cl i 0), I (ix cl i 1), I (ix cl i 2), I (ix cl i 3)] true), some (ABlk.cells (sta cst i) true)]))
    else False
    else False
    else bif decide (0 ≤ i) && decide (i < (↑n : Int)) then
      bif (0 + i.toNat * 25 + 25).ble cst.length && okS cst i then
      bif !boolO (nth cst (0 + i.toNat * 25 + 0)) then
      (PlainL cl ∧ PlainL cp ∧ PlainL ce ∧ PlainL cst ∧ True) ∧ K [B true] (heapB G (ckB n cl rw cp ce cst))
    else (PlainL cl ∧ PlainL cp ∧ PlainL ce ∧ PlainL cst ∧ PlainL [I (ix cl i 0), I (ix cl i 1), I (ix cl i 2), I (ix cl i 3)] ∧ PlainL (sta cst i) ∧ True) ∧ L t25a (frm 98 [(0, AV.v (PT G)), (1, AV.v (I i)), (5, AV.v (PT (G + 5))), (6, AV.v (PT (G + 6)))]) (heapB G (ckB n cl rw cp ce cst ++ [some (ABlk.cells [I (ix cl i 0), I (ix cl i 1), I (ix cl i 2), I (ix cl i 3)] true), some (ABlk.cells (sta cst i) true)]))
    else False
    else False
    else False
    else False) := by kernel_rfl

theorem mid25a (c k0 k1 k2 k3 k4 k5 k6 k7 : Bool) (l0 h0 l1 h1 l2 h2 l3 h3 l4 h4 l5 h5 l6 h6 l7 h7 : Int) (i op d s imm : Int) (n : Nat) (cl : List Value) (rw : Bool) (cp ce cst : List Value) (K : List Value → AHeap → Prop) (L : List Item → List AV → AHeap → Prop) :
    seg25 K L t25a (fr25 i) (hp25 n cl rw cp ce cst op d s imm (stL c k0 k1 k2 k3 k4 k5 k6 k7 l0 h0 l1 h1 l2 h2 l3 h3 l4 h4 l5 h5 l6 h6 l7 h7))
    = (((PlainL (stL c k0 k1 k2 k3 k4 k5 k6 k7 l0 h0 l1 h1 l2 h2 l3 h3 l4 h4 l5 h5 l6 h6 l7 h7) ∧ True) ∧ (PlainL (c46 (stL c k0 k1 k2 k3 k4 k5 k6 k7 l0 h0 l1 h1 l2 h2 l3 h3 l4 h4 l5 h5 l6 h6 l7 h7) op d s imm) ∧ True) ∧ true = true ∧ (0 ≤ d ∧ d < 8) ∧ 0 ≤ s ∧ s < 8) ∧
      bif !r46 (stL c k0 k1 k2 k3 k4 k5 k6 k7 l0 h0 l1 h1 l2 h2 l3 h3 l4 h4 l5 h5 l6 h6 l7 h7) op d s imm then
      (PlainL cl ∧ PlainL cp ∧ PlainL ce ∧ PlainL cst ∧ True) ∧ K [B false] (heapB G (ckB n cl rw cp ce cst))
    else (PlainL cl ∧ PlainL cp ∧ PlainL ce ∧ PlainL cst ∧ PlainL [I op, I d, I s, I imm] ∧ PlainL (c46 (stL c k0 k1 k2 k3 k4 k5 k6 k7 l0 h0 l1 h1 l2 h2 l3 h3 l4 h4 l5 h5 l6 h6 l7 h7) op d s imm) ∧ True) ∧ L t25b (frm 98 [(0, AV.v (PT G)), (1, AV.v (I i)), (5, AV.v (PT (G + 5))), (6, AV.v (PT (G + 6)))]) (heapB G (ckB n cl rw cp ce cst ++ [some (ABlk.cells [I op, I d, I s, I imm] true), some (ABlk.cells (c46 (stL c k0 k1 k2 k3 k4 k5 k6 k7 l0 h0 l1 h1 l2 h2 l3 h3 l4 h4 l5 h5 l6 h6 l7 h7) op d s imm) true)]))) := by kernel_rfl

theorem mid25b (c k0 k1 k2 k3 k4 k5 k6 k7 : Bool) (l0 h0 l1 h1 l2 h2 l3 h3 l4 h4 l5 h5 l6 h6 l7 h7 : Int) (i op d s imm : Int) (n : Nat) (cl : List Value) (rw : Bool) (cp ce cst : List Value) (K : List Value → AHeap → Prop) (L : List Item → List AV → AHeap → Prop) :
    seg25 K L t25b (fr25 i) (hp25 n cl rw cp ce cst op d s imm (stL c k0 k1 k2 k3 k4 k5 k6 k7 l0 h0 l1 h1 l2 h2 l3 h3 l4 h4 l5 h5 l6 h6 l7 h7))
    = (bif op == 17 then
      ((PlainL cl ∧ PlainL cp ∧ PlainL ce ∧ PlainL cst ∧ True) ∧ (PlainL cl ∧ PlainL cp ∧ PlainL ce ∧ PlainL cst ∧ True) ∧ (n = n ∧ n = n ∧ n = n) ∧ (cl = insC (unIns cl) ∧ (unIns cl).length = n ∧ n < 1000000000 ∧ ∀ (x : Ins), x ∈ unIns cl → right x = true) ∧ PlainL cp ∧ PlainL cst ∧ ce = ints (unI ce) ∧ (unI ce).length = n ∧ (0 ≤ i ∧ i < (↑n : Int) ∧ i + 1 ≤ (unI ce).getD i.toNat 0 ∧ (unI ce).getD i.toNat 0 ≤ (↑n : Int)) ∧ true = true) ∧ (PlainL cl ∧ PlainL cp ∧ PlainL ce ∧ PlainL cst ∧ PlainL [I op, I d, I s, I imm] ∧ PlainL (lit25 (widenL (List.take (((unI ce).getD i.toNat 0).toNat - (i.toNat + 1)) (List.drop (i.toNat + 1) (unIns cl))) (stL c k0 k1 k2 k3 k4 k5 k6 k7 l0 h0 l1 h1 l2 h2 l3 h3 l4 h4 l5 h5 l6 h6 l7 h7))) ∧ True) ∧ L t25c (frm 98 [(0, AV.v (PT G)), (1, AV.v (I i)), (5, AV.v (PT (G + 5))), (6, AV.v (PT (G + 6)))]) (heapB G (ckB n cl rw cp ce cst ++ [some (ABlk.cells [I op, I d, I s, I imm] true), some (ABlk.cells (lit25 (widenL (List.take (((unI ce).getD i.toNat 0).toNat - (i.toNat + 1)) (List.drop (i.toNat + 1) (unIns cl))) (stL c k0 k1 k2 k3 k4 k5 k6 k7 l0 h0 l1 h1 l2 h2 l3 h3 l4 h4 l5 h5 l6 h6 l7 h7))) true)]))
    else (PlainL cl ∧ PlainL cp ∧ PlainL ce ∧ PlainL cst ∧ PlainL [I op, I d, I s, I imm] ∧ PlainL (stL c k0 k1 k2 k3 k4 k5 k6 k7 l0 h0 l1 h1 l2 h2 l3 h3 l4 h4 l5 h5 l6 h6 l7 h7) ∧ True) ∧ L t25c (frm 98 [(0, AV.v (PT G)), (1, AV.v (I i)), (5, AV.v (PT (G + 5))), (6, AV.v (PT (G + 6)))]) (heapB G (ckB n cl rw cp ce cst ++ [some (ABlk.cells [I op, I d, I s, I imm] true), some (ABlk.cells (stL c k0 k1 k2 k3 k4 k5 k6 k7 l0 h0 l1 h1 l2 h2 l3 h3 l4 h4 l5 h5 l6 h6 l7 h7) true)]))) := by kernel_rfl

theorem mid25c (c k0 k1 k2 k3 k4 k5 k6 k7 : Bool) (l0 h0 l1 h1 l2 h2 l3 h3 l4 h4 l5 h5 l6 h6 l7 h7 : Int) (i op d s imm : Int) (n : Nat) (cl : List Value) (rw : Bool) (cp ce cst : List Value) (K : List Value → AHeap → Prop) (L : List Item → List AV → AHeap → Prop) :
    seg25 K L t25c (fr25 i) (hp25 n cl rw cp ce cst op d s imm (stL c k0 k1 k2 k3 k4 k5 k6 k7 l0 h0 l1 h1 l2 h2 l3 h3 l4 h4 l5 h5 l6 h6 l7 h7))
    = ((True ∧ True ∧ True) ∧
      bif r44 op then
      bif decide (0 ≤ imm) && decide (imm < (↑n : Int)) then
      ((PlainL cst ∧ True) ∧ (PlainL (join48 cst (0 + imm.toNat * 25) (stL c k0 k1 k2 k3 k4 k5 k6 k7 l0 h0 l1 h1 l2 h2 l3 h3 l4 h4 l5 h5 l6 h6 l7 h7)) ∧ True) ∧ TyF cst (0 + imm.toNat * 25) ∧ okB (nth cst (0 + imm.toNat * 25)) = true ∧ true = true ∧ PlainL cst) ∧ (PlainL cl ∧ PlainL cp ∧ PlainL ce ∧ PlainL (join48 cst (0 + imm.toNat * 25) (stL c k0 k1 k2 k3 k4 k5 k6 k7 l0 h0 l1 h1 l2 h2 l3 h3 l4 h4 l5 h5 l6 h6 l7 h7)) ∧ PlainL [I op, I d, I s, I imm] ∧ PlainL (stL c k0 k1 k2 k3 k4 k5 k6 k7 l0 h0 l1 h1 l2 h2 l3 h3 l4 h4 l5 h5 l6 h6 l7 h7) ∧ True) ∧ L t25d (frm 98 [(0, AV.v (PT G)), (1, AV.v (I i)), (5, AV.v (PT (G + 5))), (6, AV.v (PT (G + 6)))]) (heapB G [some (ABlk.cells [SL (G + 1) n 4, SL (G + 2) n 1, SL (G + 3) n 1, SL (G + 4) n 25] true), some (ABlk.cells cl rw), some (ABlk.cells cp true), some (ABlk.cells ce true), some (ABlk.cells (join48 cst (0 + imm.toNat * 25) (stL c k0 k1 k2 k3 k4 k5 k6 k7 l0 h0 l1 h1 l2 h2 l3 h3 l4 h4 l5 h5 l6 h6 l7 h7)) true), some (ABlk.cells [I op, I d, I s, I imm] true), some (ABlk.cells (stL c k0 k1 k2 k3 k4 k5 k6 k7 l0 h0 l1 h1 l2 h2 l3 h3 l4 h4 l5 h5 l6 h6 l7 h7) true)])
    else False
    else (PlainL cl ∧ PlainL cp ∧ PlainL ce ∧ PlainL cst ∧ PlainL [I op, I d, I s, I imm] ∧ PlainL (stL c k0 k1 k2 k3 k4 k5 k6 k7 l0 h0 l1 h1 l2 h2 l3 h3 l4 h4 l5 h5 l6 h6 l7 h7) ∧ True) ∧ L t25d (frm 98 [(0, AV.v (PT G)), (1, AV.v (I i)), (5, AV.v (PT (G + 5))), (6, AV.v (PT (G + 6)))]) (heapB G (ckB n cl rw cp ce cst ++ [some (ABlk.cells [I op, I d, I s, I imm] true), some (ABlk.cells (stL c k0 k1 k2 k3 k4 k5 k6 k7 l0 h0 l1 h1 l2 h2 l3 h3 l4 h4 l5 h5 l6 h6 l7 h7) true)]))) := by kernel_rfl

theorem mid25d (c k0 k1 k2 k3 k4 k5 k6 k7 : Bool) (l0 h0 l1 h1 l2 h2 l3 h3 l4 h4 l5 h5 l6 h6 l7 h7 : Int) (i op d s imm : Int) (n : Nat) (cl : List Value) (rw : Bool) (cp ce cst : List Value) (K : List Value → AHeap → Prop) (L : List Item → List AV → AHeap → Prop) :
    seg25 K L t25d (fr25 i) (hp25 n cl rw cp ce cst op d s imm (stL c k0 k1 k2 k3 k4 k5 k6 k7 l0 h0 l1 h1 l2 h2 l3 h3 l4 h4 l5 h5 l6 h6 l7 h7))
    = (bif op == 12 then
      (PlainL cl ∧ PlainL cp ∧ PlainL ce ∧ PlainL cst ∧ True) ∧ K [B true] (heapB G (ckB n cl rw cp ce cst))
    else bif op == 20 then
      (PlainL cl ∧ PlainL cp ∧ PlainL ce ∧ PlainL cst ∧ True) ∧ K [B true] (heapB G (ckB n cl rw cp ce cst))
    else bif w (i + 1) == (↑n : Int) then
      (PlainL cl ∧ PlainL cp ∧ PlainL ce ∧ PlainL cst ∧ True) ∧ K [B false] (heapB G (ckB n cl rw cp ce cst))
    else bif decide (0 ≤ w (i + 1)) && decide (w (i + 1) < (↑n : Int)) then
      ((PlainL cst ∧ True) ∧ (PlainL (join48 cst (0 + (w (i + 1)).toNat * 25) (stL c k0 k1 k2 k3 k4 k5 k6 k7 l0 h0 l1 h1 l2 h2 l3 h3 l4 h4 l5 h5 l6 h6 l7 h7)) ∧ True) ∧ TyF cst (0 + (w (i + 1)).toNat * 25) ∧ okB (nth cst (0 + (w (i + 1)).toNat * 25)) = true ∧ true = true ∧ PlainL cst) ∧ (PlainL cl ∧ PlainL cp ∧ PlainL ce ∧ PlainL (join48 cst (0 + (w (i + 1)).toNat * 25) (stL c k0 k1 k2 k3 k4 k5 k6 k7 l0 h0 l1 h1 l2 h2 l3 h3 l4 h4 l5 h5 l6 h6 l7 h7)) ∧ True) ∧ K [B true] (heapB G [some (ABlk.cells [SL (G + 1) n 4, SL (G + 2) n 1, SL (G + 3) n 1, SL (G + 4) n 25] true), some (ABlk.cells cl rw), some (ABlk.cells cp true), some (ABlk.cells ce true), some (ABlk.cells (join48 cst (0 + (w (i + 1)).toNat * 25) (stL c k0 k1 k2 k3 k4 k5 k6 k7 l0 h0 l1 h1 l2 h2 l3 h3 l4 h4 l5 h5 l6 h6 l7 h7)) true)])
    else False) := by kernel_rfl


theorem leaf25 {K : List Value → AHeap → Prop} : ∀ t fr h, (match t with
    | .code (.region _ _ _) :: _ => canonT G nt25 (SemK w0 Tryd.f25 K t) fr h
    | _ => False) → SemK w0 Tryd.f25 K t fr h := by
  intro t fr h e
  split at e
  · exact canonT_semN (nt := nt25) rfl e
  · exact e.elim
theorem ok25 : ∀ c ∈ cs25, c.ok Tryd.prog w0 := fun c hc => by
  simp only [List.mem_cons, List.not_mem_nil, or_false] at hc
  rcases hc with rfl | rfl | rfl | rfl | rfl
  · exact con44_ok
  · exact con45_ok
  · exact con46_ok
  · exact con47_ok
  · exact con48_ok

/-- So many states. -/
structure StsOk (cst : List Value) (n : Nat) : Prop where
  len : cst.length = n * 25
  st : ∀ k, k < n → TyF cst (k * 25)
  co : ∀ k, k < n → okB (nth cst (k * 25)) = true
def stAt (cst : List Value) (k : Nat) : List Value := (cst.drop (k * 25)).take 25
theorem nth_drop (cs : List Value) (a b : Nat) : nth (cs.drop a) b = nth cs (a + b) := by rw [nth_eq, nth_eq, List.getElem?_drop]
theorem okB_get {o : Option Value} (h : okB o = true) : o = some (B (boolO o)) := by
  unfold okB at h; split at h
  · rfl
  · simp at h
theorem okI_get {o : Option Value} (h : okI .i64 o = true) : o = some (I (intO o)) := by
  unfold okI at h; split at h
  · rename_i k n
    simp only [beq_iff_eq] at h
    subst h; rfl
  · simp at h
/-- The cells of a state, read one by one. -/
theorem sta_eq {cst : List Value} {n k : Nat} (h : StsOk cst n) (hk : k < n) : okS cst (k : Int) = true ∧ sta cst (k : Int) = stAt cst k ∧ IsSt (stAt cst k) := by
  have ht := h.st k hk
  have hl := ht.len
  have e : ∀ j, 0 + (k : Int).toNat * 25 + j = k * 25 + j := fun j => by simp
  have b : ∀ j, j < 9 → okB (nth cst (k * 25 + j)) = true := by
    intro j hj
    cases j with
    | zero => exact h.co k hk
    | succ j =>
      have := ht.kn j (by omega)
      rw [show k * 25 + (j + 1) = k * 25 + 1 + j by omega]; exact this
  have b2 : ∀ j, j < 16 → okI .i64 (nth cst (k * 25 + (9 + j))) = true := by
    intro j hj
    have h1 := ht.lo (j / 2) (by omega)
    have h2 := ht.hi (j / 2) (by omega)
    rcases Nat.mod_two_eq_zero_or_one j with hm | hm
    · rw [show k * 25 + (9 + j) = k * 25 + 9 + j / 2 * 2 + 0 by omega]; exact h1
    · rw [show k * 25 + (9 + j) = k * 25 + 9 + j / 2 * 2 + 1 by omega]; exact h2
  have hs : sta cst (k : Int) = stAt cst k := by
    have hlen : (stAt cst k).length = 25 := by simp [stAt]; omega
    apply List.ext_getElem?
    intro j
    by_cases hj : j < 25
    · have hr : (stAt cst k)[j]? = nth cst (k * 25 + j) := by
        rw [stAt, List.getElem?_take_of_lt hj, List.getElem?_drop, nth_eq]
      rw [hr]
      have hb : ∀ j, j < 9 → nth cst (k * 25 + j) = some (B (boolO (nth cst (k * 25 + j)))) := fun j hj => okB_get (b j hj)
      have hi : ∀ j, 9 ≤ j → j < 25 → nth cst (k * 25 + j) = some (I (intO (nth cst (k * 25 + j)))) := fun j h9 hj => by
        have := b2 (j - 9) (by omega)
        rw [show 9 + (j - 9) = j by omega] at this
        exact okI_get this
      simp only [sta, e]
      rcases j with _ | _ | _ | _ | _ | _ | _ | _ | _ | _ | _ | _ | _ | _ | _ | _ | _ | _ | _ | _ | _ | _ | _ | _ | _ | j <;> first
        | exact (hb _ (by omega)).symm
        | exact (hi _ (by omega) (by omega)).symm
        | (exfalso; omega)
    · rw [List.getElem?_eq_none (by simp; omega), List.getElem?_eq_none (by omega)]
  refine ⟨?_, hs, ?_⟩
  · simp only [okS, e, b 0 (by omega), b 1 (by omega), b 2 (by omega), b 3 (by omega), b 4 (by omega), b 5 (by omega), b 6 (by omega), b 7 (by omega), b 8 (by omega),
      b2 0 (by omega), b2 1 (by omega), b2 2 (by omega), b2 3 (by omega), b2 4 (by omega), b2 5 (by omega), b2 6 (by omega), b2 7 (by omega), b2 8 (by omega), b2 9 (by omega), b2 10 (by omega), b2 11 (by omega), b2 12 (by omega), b2 13 (by omega), b2 14 (by omega), b2 15 (by omega)]
    simp only [Bool.and_self]
  · rw [← hs]; rfl

/-! A state that is joined: the others stay. -/
theorem splice_out {cs xs : List Value} {a j : Nat} (h : a + xs.length ≤ cs.length) (hj : j < a ∨ a + xs.length ≤ j) : nth (splice cs a xs) j = nth cs j := nth_splice_out h hj
theorem jn_out {os cs : List Value} {off i j : Nat} (h : off + 25 ≤ cs.length) (hi : i < 8) (hj : j ≤ off ∨ off + 25 ≤ j) : (jn os off i cs).length = cs.length ∧ nth (jn os off i cs) j = nth cs j := by
  unfold jn
  generalize (boolO (nth cs (off + 1 + i)) && boolO (nth os (1 + i))) = b
  have h1 : off + 1 + i + [B b].length ≤ cs.length := by simp; omega
  have l1 := splice_len h1
  have key : ∀ u v : Int, (splice (splice cs (off + 1 + i) [B b]) (off + 9 + i * 2) [I u, I v]).length = cs.length ∧ nth (splice (splice cs (off + 1 + i) [B b]) (off + 9 + i * 2) [I u, I v]) j = nth cs j := by
    intro u v
    have h2 : off + 9 + i * 2 + [I u, I v].length ≤ (splice cs (off + 1 + i) [B b]).length := by rw [l1]; simp; omega
    refine ⟨by rw [splice_len h2, l1], ?_⟩
    rw [nth_splice_out h2 (by simp; omega), nth_splice_out h1 (by simp; omega)]
  cases b with
  | true => exact key _ _
  | false => exact key _ _
theorem joinFrom_out {os : List Value} {off j : Nat} (hj : j ≤ off ∨ off + 25 ≤ j) : ∀ (m i : Nat) (cs : List Value), i + m ≤ 8 → off + 25 ≤ cs.length → (joinFrom os off m i cs).length = cs.length ∧ nth (joinFrom os off m i cs) j = nth cs j
  | 0, _, _, _, _ => ⟨rfl, rfl⟩
  | m + 1, i, cs, hi, h => by
    obtain ⟨h1, h2⟩ := jn_out (os := os) (j := j) h (i := i) (by omega) hj
    obtain ⟨h3, h4⟩ := joinFrom_out (os := os) hj m (i + 1) (jn os off i cs) (by omega) (by rw [h1]; exact h)
    exact ⟨h3.trans h1, h4.trans h2⟩
theorem joinFrom_ty {os : List Value} {off : Nat} : ∀ (m i : Nat) (cs : List Value), i + m ≤ 8 → TyF cs off → TyF (joinFrom os off m i cs) off
  | 0, _, _, _, h => h
  | m + 1, i, cs, hi, h => joinFrom_ty m (i + 1) _ (by omega) (jn_ty h (by omega))
theorem joinFrom_plain {os : List Value} {off : Nat} : ∀ (m i : Nat) (cs : List Value), PlainL cs → PlainL (joinFrom os off m i cs)
  | 0, _, _, h => h
  | m + 1, i, _, h => joinFrom_plain m (i + 1) _ (jn_plain h)
theorem join48_plain {cs os : List Value} {off : Nat} (h : PlainL cs) (ho : IsSt os) : PlainL (join48 cs off os) := by
  unfold join48
  cases boolO (nth cs off) with
  | true => exact joinFrom_plain _ _ _ h
  | false => exact plain_splice h (isSt_plain ho)
theorem TyF.congr {a b : List Value} {off : Nat} (hl : b.length = a.length) (h : ∀ j, off ≤ j → j < off + 25 → nth b j = nth a j) (ht : TyF a off) : TyF b off :=
  ⟨by rw [hl]; exact ht.len, fun r hr => by rw [h _ (by omega) (by omega)]; exact ht.kn r hr, fun r hr => by rw [h _ (by omega) (by omega)]; exact ht.lo r hr, fun r hr => by rw [h _ (by omega) (by omega)]; exact ht.hi r hr⟩
theorem join48_sts {cs os : List Value} {n k : Nat} (h : StsOk cs n) (hk : k < n) (ho : IsSt os) : StsOk (join48 cs (k * 25) os) n := by
  have hl := (h.st k hk).len
  unfold join48
  cases hc : boolO (nth cs (k * 25)) with
  | true =>
    rw [cond_true]
    have out : ∀ j, j ≤ k * 25 ∨ k * 25 + 25 ≤ j → (joinFrom os (k * 25) 8 0 cs).length = cs.length ∧ nth (joinFrom os (k * 25) 8 0 cs) j = nth cs j := fun j hj => joinFrom_out hj 8 0 cs (by omega) hl
    have hlen := (out (k * 25) (by omega)).1
    refine ⟨by rw [hlen]; exact h.len, fun q hq => ?_, fun q hq => ?_⟩
    · by_cases e : q = k
      · subst e; exact joinFrom_ty 8 0 cs (by omega) (h.st q hq)
      · exact (h.st q hq).congr hlen fun j h1 h2 => (out j (by rcases Nat.lt_or_ge q k with hh | hh <;> omega)).2
    · rw [(out (q * 25) (by rcases Nat.lt_or_ge k q with hh | hh <;> omega)).2]; exact h.co q hq
  | false =>
    rw [cond_false]
    have h25 := isSt_len ho
    have hs : k * 25 + os.length ≤ cs.length := by omega
    have hlen := splice_len hs
    obtain ⟨c, k0, k1, k2, k3, k4, k5, k6, k7, l0, h0, l1, h1, l2, h2, l3, h3, l4, h4, l5, h5, l6, h6, l7, h7, hcs⟩ := isSt_eq ho
    have ts : TyF os 0 := by rw [hcs]; exact tyF_st
    have inn : ∀ j, j < 25 → nth (splice cs (k * 25) os) (k * 25 + j) = nth os j := fun j hj => nth_splice_in hs (by omega)
    refine ⟨by rw [hlen]; exact h.len, fun q hq => ?_, fun q hq => ?_⟩
    · by_cases e : q = k
      · subst e
        refine ⟨by rw [hlen]; exact hl, fun r hr => ?_, fun r hr => ?_, fun r hr => ?_⟩
        · rw [show q * 25 + 1 + r = q * 25 + (0 + 1 + r) by omega, inn _ (by omega)]; exact ts.kn r hr
        · rw [show q * 25 + 9 + r * 2 + 0 = q * 25 + (0 + 9 + r * 2 + 0) by omega, inn _ (by omega)]; exact ts.lo r hr
        · rw [show q * 25 + 9 + r * 2 + 1 = q * 25 + (0 + 9 + r * 2 + 1) by omega, inn _ (by omega)]; exact ts.hi r hr
      · exact (h.st q hq).congr hlen fun j h1' h2' => nth_splice_out hs (by rcases Nat.lt_or_ge q k with hh | hh <;> omega)
    · by_cases e : q = k
      · subst e
        have := inn 0 (by omega)
        rw [Nat.add_zero] at this
        rw [this, hcs]; rfl
      · rw [nth_splice_out hs (by rcases Nat.lt_or_ge q k with hh | hh <;> omega)]; exact h.co q hq

def bad25 (n : Nat) (lp en : List Int) (i : Int) (op imm : Int) : Bool := bif r44 op then (bif decide (imm ≤ i) then true else bif decide (imm ≥ (n : Int)) then true else !withinF lp en i (n + 1) (lp.getD imm.toNat 0)) else false
def fin25 (op : Int) (n i : Nat) (cst s : List Value) : Bool × List Value :=
  bif op == 12 then (true, cst) else bif op == 20 then (true, cst) else bif ((i + 1 : Nat) : Int) == (n : Int) then (false, cst) else (true, join48 cst ((i + 1) * 25) s)
def jmp25 (op imm : Int) (cst s : List Value) : List Value := bif r44 op then join48 cst (imm.toNat * 25) s else cst
def wid25 (l : List Ins) (en : List Int) (i : Nat) (op : Int) (s : List Value) : List Value := bif op == 17 then widenL ((l.drop (i + 1)).take ((en.getD i 0).toNat - (i + 1))) s else s
def insD : Ins := ⟨0, 0, 0, 0⟩
/-- A step over an instruction: whether it is right, and the states. -/
def stepF (l : List Ins) (lp en : List Int) (i : Nat) (cst : List Value) : Bool × List Value :=
  bif bad25 l.length lp en i (l.getD i insD).op (l.getD i insD).imm then (false, cst) else
  bif !boolO (nth cst (i * 25)) then (true, cst) else
  bif !r46 (stAt cst i) (l.getD i insD).op (l.getD i insD).d (l.getD i insD).s (l.getD i insD).imm then (false, cst) else
  fin25 (l.getD i insD).op l.length i
    (jmp25 (l.getD i insD).op (l.getD i insD).imm cst (wid25 l en i (l.getD i insD).op (c46 (stAt cst i) (l.getD i insD).op (l.getD i insD).d (l.getD i insD).s (l.getD i insD).imm)))
    (wid25 l en i (l.getD i insD).op (c46 (stAt cst i) (l.getD i insD).op (l.getD i insD).d (l.getD i insD).s (l.getD i insD).imm))

theorem plain_ins4 (a b c d : Int) : PlainL [I a, I b, I c, I d] := by
  intro x hx
  simp only [List.mem_cons, List.not_mem_nil, or_false] at hx
  rcases hx with rfl | rfl | rfl | rfl <;> rfl

section
variable {K : List Value → AHeap → Prop} {n i : Nat} {l : List Ins} {rw : Bool} {lp en : List Int} {op d s imm : Int}

set_option maxRecDepth 100000 in
theorem sem25d (hn : n < 1000000000) (hi : i < n) {cst ss : List Value} (hcst : PlainL cst) (hst : IsSt ss) (hsts : StsOk cst n)
    (hK : K [B (fin25 op n i cst ss).1] (heapB G (ckB n (insC l) rw (ints lp) (ints en) (fin25 op n i cst ss).2))) :
    SemK w0 Tryd.f25 K t25d (fr25 i) (hp25 n (insC l) rw (ints lp) (ints en) cst op d s imm ss) := by
  have hpl := isSt_plain hst
  have hj := join48_plain (off := (i + 1) * 25) hcst hst
  obtain ⟨c, k0, k1, k2, k3, k4, k5, k6, k7, l0, h0, l1, h1, l2, h2, l3, h3, l4, h4, l5, h5, l6, h6, l7, h7, hcs⟩ := isSt_eq hst
  subst hcs
  refine seg_semI3 (F := ft25) mixed (callsOf_ok ok25) leaf25 [7, 9, 11, 13] 20 400 ((mid25d c k0 k1 k2 k3 k4 k5 k6 k7 l0 h0 l1 h1 l2 h2 l3 h3 l4 h4 l5 h5 l6 h6 l7 h7 i op d s imm n (insC l) rw (ints lp) (ints en) cst K _).mpr ?_)
  have hw1 : w ((i : Int) + 1) = ((i + 1 : Nat) : Int) := by rw [w_id (by omega) (by omega)]; omega
  have p1 := plain_insC l
  have p2 := plain_ints lp
  have p3 := plain_ints en
  unfold fin25 at hK
  rw [hw1]
  refine bifP (fun e => ?_) (fun e => ?_)
  · simp only [e, cond_true] at hK
    exact ⟨⟨p1, p2, p3, hcst, trivial⟩, hK⟩
  refine bifP (fun e' => ?_) (fun e' => ?_)
  · simp only [e, e', cond_true, cond_false] at hK
    exact ⟨⟨p1, p2, p3, hcst, trivial⟩, hK⟩
  refine bifP (fun e2 => ?_) (fun e2 => ?_)
  · simp only [e, e', e2, cond_true, cond_false] at hK
    exact ⟨⟨p1, p2, p3, hcst, trivial⟩, hK⟩
  · simp only [e, e', e2, cond_false] at hK
    have hlt : i + 1 < n := by
      have : ((i + 1 : Nat) : Int) ≠ (n : Int) := by simpa using e2
      omega
    have q1 : (0 : Int) ≤ ((i + 1 : Nat) : Int) := by omega
    have q2 : ((i + 1 : Nat) : Int) < (n : Int) := by omega
    have q3 : 0 + ((i + 1 : Nat) : Int).toNat * 25 = (i + 1) * 25 := by simp
    simp only [q1, q2, q3, decide_true, Bool.and_self, cond_true]
    exact ⟨⟨⟨hcst, trivial⟩, ⟨hj, trivial⟩, hsts.st _ hlt, hsts.co _ hlt, by trivial, hcst⟩, ⟨p1, p2, p3, hj, trivial⟩, hK⟩

theorem jump_imm (hb : bad25 n lp en i op imm = false) (hj : r44 op = true) (hi : 0 ≤ (i : Int)) : 0 ≤ imm ∧ imm < (n : Int) ∧ imm.toNat < n := by
  unfold bad25 at hb
  simp only [hj, cond_true] at hb
  cases h1 : decide (imm ≤ (i : Int)) with
  | true => simp only [h1, cond_true] at hb; simp at hb
  | false =>
    simp only [h1, cond_false] at hb
    cases h2 : decide (imm ≥ (n : Int)) with
    | true => simp only [h2, cond_true] at hb; simp at hb
    | false =>
      simp only [decide_eq_false_iff_not] at h1 h2
      omega

set_option maxRecDepth 100000 in
theorem sem25c (hn : n < 1000000000) (hi : i < n) {cst ss : List Value} (hcst : PlainL cst) (hst : IsSt ss) (hsts : StsOk cst n) (hb : bad25 n lp en i op imm = false)
    (hK : K [B (fin25 op n i (jmp25 op imm cst ss) ss).1] (heapB G (ckB n (insC l) rw (ints lp) (ints en) (fin25 op n i (jmp25 op imm cst ss) ss).2))) :
    SemK w0 Tryd.f25 K t25c (fr25 i) (hp25 n (insC l) rw (ints lp) (ints en) cst op d s imm ss) := by
  have hpl := isSt_plain hst
  have p1 := plain_insC l
  have p2 := plain_ints lp
  have p3 := plain_ints en
  have p4 := plain_ins4 op d s imm
  have hst' := hst
  obtain ⟨c, k0, k1, k2, k3, k4, k5, k6, k7, l0, h0, l1, h1, l2, h2, l3, h3, l4, h4, l5, h5, l6, h6, l7, h7, hcs⟩ := isSt_eq hst
  subst hcs
  refine seg_semI3 (F := ft25) mixed (callsOf_ok ok25) leaf25 [7, 9, 11, 13] 20 400 ((mid25c c k0 k1 k2 k3 k4 k5 k6 k7 l0 h0 l1 h1 l2 h2 l3 h3 l4 h4 l5 h5 l6 h6 l7 h7 i op d s imm n (insC l) rw (ints lp) (ints en) cst K _).mpr ?_)
  refine ⟨⟨trivial, trivial, trivial⟩, bifP (fun e => ?_) (fun e => ?_)⟩
  · obtain ⟨q1, q2, q3⟩ := jump_imm hb e (by omega)
    have q4 : 0 + imm.toNat * 25 = imm.toNat * 25 := by omega
    have hj := join48_plain (off := imm.toNat * 25) hcst hst'
    simp only [jmp25, e, cond_true] at hK
    simp only [q1, q2, q4, decide_true, Bool.and_self, cond_true]
    exact ⟨⟨⟨hcst, trivial⟩, ⟨hj, trivial⟩, hsts.st _ q3, hsts.co _ q3, by trivial, hcst⟩, ⟨p1, p2, p3, hj, p4, hpl, trivial⟩, sem25d hn hi hj hst' (join48_sts hsts q3 hst') hK⟩
  · simp only [jmp25, e, cond_false] at hK
    exact ⟨⟨p1, p2, p3, hcst, p4, hpl, trivial⟩, sem25d hn hi hcst hst' hsts hK⟩

theorem setA_st {cs : List Value} (h : IsSt cs) {r : Int} (h1' : 0 ≤ r) (h2' : r < 8) (a b : Int) : IsSt (setA cs 0 r a b) := by
  unfold setA
  rw [Nat.zero_add, Nat.zero_add]
  exact isSt_spI (isSt_spB h h1' h2' true) h1' h2' a b
theorem bif_st {b : Bool} {x y : List Value} (hx : IsSt x) (hy : IsSt y) : IsSt (bif b then x else y) := by
  cases b
  · exact hy
  · exact hx
theorem c46_st {cs : List Value} (h : IsSt cs) (hr : RegP d s) : IsSt (c46 cs op d s imm) := by
  obtain ⟨⟨d0, d1⟩, _, _⟩ := hr
  unfold c46 c70 c85
  repeat' (first | exact h | exact setA_st h d0 d1 _ _ | exact setA_st h (by omega) (by omega) _ _ | refine bif_st ?_ ?_)
theorem wid25_st (hl : ∀ x ∈ l, right x = true) {ss : List Value} (h : IsSt ss) : IsSt (wid25 l en i op ss) := by
  unfold wid25
  cases op == 17 with
  | true => exact widenL_st (fun x hx => hl x (List.mem_of_mem_drop (List.mem_of_mem_take hx))) h
  | false => exact h

/-- Of each Loop the End is behind it. -/
def EnOk (l : List Ins) (en : List Int) : Prop := ∀ i, (h : i < l.length) → l[i].op = 17 → (i : Int) + 1 ≤ en.getD i 0 ∧ en.getD i 0 ≤ (l.length : Int)

set_option maxRecDepth 100000 in
set_option maxHeartbeats 4000000 in
theorem sem25b (hl : ∀ x ∈ l, right x = true) (hn : l.length < 1000000000) (hi : i < l.length) (hen : en.length = l.length) (hE : op = 17 → (i : Int) + 1 ≤ en.getD i 0 ∧ en.getD i 0 ≤ (l.length : Int)) {cst ss : List Value} (hcst : PlainL cst) (hst : IsSt ss) (hsts : StsOk cst l.length) (hb : bad25 l.length lp en i op imm = false)
    (hK : K [B (fin25 op l.length i (jmp25 op imm cst (wid25 l en i op ss)) (wid25 l en i op ss)).1] (heapB G (ckB l.length (insC l) rw (ints lp) (ints en) (fin25 op l.length i (jmp25 op imm cst (wid25 l en i op ss)) (wid25 l en i op ss)).2))) :
    SemK w0 Tryd.f25 K t25b (fr25 i) (hp25 l.length (insC l) rw (ints lp) (ints en) cst op d s imm ss) := by
  have hpl := isSt_plain hst
  have p1 := plain_insC l
  have p2 := plain_ints lp
  have p3 := plain_ints en
  have p4 := plain_ins4 op d s imm
  have hst' := hst
  have hw := wid25_st (en := en) (i := i) (op := op) hl hst
  obtain ⟨c, k0, k1, k2, k3, k4, k5, k6, k7, l0, h0, l1, h1, l2, h2, l3, h3, l4, h4, l5, h5, l6, h6, l7, h7, hcs⟩ := isSt_eq hst
  subst hcs
  refine seg_semI3 (F := ft25) mixed (callsOf_ok ok25) leaf25 [7, 9, 11, 13] 20 400 ((mid25b c k0 k1 k2 k3 k4 k5 k6 k7 l0 h0 l1 h1 l2 h2 l3 h3 l4 h4 l5 h5 l6 h6 l7 h7 i op d s imm l.length (insC l) rw (ints lp) (ints en) cst K _).mpr ?_)
  refine bifP (fun e => ?_) (fun e => ?_)
  · simp only [wid25, e, cond_true] at hK hw
    have e17 : op = 17 := by simpa using e
    obtain ⟨q1, q2⟩ := hE e17
    have q3 : (i : Int) < (l.length : Int) := by omega
    rw [unI_ints, unIns_insC, Int.toNat_natCast, lit25_eq hw]
    exact ⟨⟨⟨p1, p2, p3, hcst, trivial⟩, ⟨p1, p2, p3, hcst, trivial⟩, ⟨rfl, rfl, rfl⟩, ⟨rfl, rfl, hn, hl⟩, p2, hcst, rfl, hen, ⟨by omega, q3, q1, q2⟩, by trivial⟩, ⟨p1, p2, p3, hcst, p4, isSt_plain hw, trivial⟩, sem25c hn hi hcst hw hsts hb hK⟩
  · simp only [wid25, e, cond_false] at hK
    exact ⟨⟨p1, p2, p3, hcst, p4, hpl, trivial⟩, sem25c hn hi hcst hst' hsts hb hK⟩

set_option maxRecDepth 100000 in
set_option maxHeartbeats 4000000 in
theorem sem25a (hl : ∀ x ∈ l, right x = true) (hn : l.length < 1000000000) (hi : i < l.length) (hen : en.length = l.length) (hE : op = 17 → (i : Int) + 1 ≤ en.getD i 0 ∧ en.getD i 0 ≤ (l.length : Int)) (hr : RegP d s) {cst ss : List Value} (hcst : PlainL cst) (hst : IsSt ss) (hsts : StsOk cst l.length) (hb : bad25 l.length lp en i op imm = false)
    (hK : K [B (bif !r46 ss op d s imm then (false, cst) else fin25 op l.length i (jmp25 op imm cst (wid25 l en i op (c46 ss op d s imm))) (wid25 l en i op (c46 ss op d s imm))).1]
      (heapB G (ckB l.length (insC l) rw (ints lp) (ints en) (bif !r46 ss op d s imm then (false, cst) else fin25 op l.length i (jmp25 op imm cst (wid25 l en i op (c46 ss op d s imm))) (wid25 l en i op (c46 ss op d s imm))).2))) :
    SemK w0 Tryd.f25 K t25a (fr25 i) (hp25 l.length (insC l) rw (ints lp) (ints en) cst op d s imm ss) := by
  have hpl := isSt_plain hst
  have p1 := plain_insC l
  have p2 := plain_ints lp
  have p3 := plain_ints en
  have p4 := plain_ins4 op d s imm
  have hc := c46_st (op := op) (imm := imm) hst hr
  obtain ⟨c, k0, k1, k2, k3, k4, k5, k6, k7, l0, h0, l1, h1, l2, h2, l3, h3, l4, h4, l5, h5, l6, h6, l7, h7, hcs⟩ := isSt_eq hst
  subst hcs
  refine seg_semI3 (F := ft25) mixed (callsOf_ok ok25) leaf25 [7, 9, 11, 13] 20 400 ((mid25a c k0 k1 k2 k3 k4 k5 k6 k7 l0 h0 l1 h1 l2 h2 l3 h3 l4 h4 l5 h5 l6 h6 l7 h7 i op d s imm l.length (insC l) rw (ints lp) (ints en) cst K _).mpr ?_)
  refine ⟨⟨⟨hpl, trivial⟩, ⟨isSt_plain hc, trivial⟩, by trivial, hr⟩, ?_⟩
  refine bifP (fun e => ?_) (fun e => ?_)
  · simp only [e, cond_true] at hK
    exact ⟨⟨p1, p2, p3, hcst, trivial⟩, hK⟩
  · simp only [e, cond_false] at hK
    exact ⟨⟨p1, p2, p3, hcst, p4, isSt_plain hc, trivial⟩, sem25b hl hn hi hen hE hcst hc hsts hb hK⟩

set_option maxRecDepth 100000 in
set_option maxHeartbeats 4000000 in
theorem sem25 (hl : ∀ x ∈ l, right x = true) (hn : l.length < 1000000000) (hi : i < l.length) (hlp : LpOk lp l.length) (hen : en.length = l.length) (hE : EnOk l en) {cst : List Value} (hcst : PlainL cst) (hsts : StsOk cst l.length)
    (hK : K [B (stepF l lp en i cst).1] (heapB G (ckB l.length (insC l) rw (ints lp) (ints en) (stepF l lp en i cst).2))) :
    SemK w0 Tryd.f25 K [.code (Tryd.f25.body.getD .skip)] (startF Tryd.f25 [PT G, I i]) (heapB G (ckB l.length (insC l) rw (ints lp) (ints en) cst)) := by
  have p1 := plain_insC l
  have p2 := plain_ints lp
  have p3 := plain_ints en
  have hx := hl _ (List.getElem_mem hi)
  have hget : l.getD i insD = l[i] := by rw [List.getD_eq_getElem?_getD, List.getElem?_eq_getElem hi]; rfl
  have hop : l[i].op = 17 → (i : Int) + 1 ≤ en.getD i 0 ∧ en.getD i 0 ≤ (l.length : Int) := hE i hi
  have hr := right_regs hx
  obtain ⟨e1, ⟨e2, e3, e4, e5⟩, e6, e7, e8, e9⟩ := at_insC hi
  obtain ⟨s1, s2, s3⟩ := sta_eq hsts hi
  have hcome : nth cst (0 + (i : Int).toNat * 25 + 0) = nth cst (i * 25) := by simp
  have hlen : (0 + (i : Int).toNat * 25 + 25).ble cst.length = true := Nat.ble_eq_true_of_le (by have := (hsts.st i hi).len; simp; omega)
  unfold stepF at hK
  rw [hget] at hK
  refine seg_semI3 (F := ft25) mixed (callsOf_ok ok25) leaf25 [7, 9, 11, 13] 20 400 ((start25 i l.length (insC l) rw (ints lp) (ints en) cst K _).mpr ?_)
  have h1 : (0 : Int) ≤ (i : Int) := by omega
  have h2 : (i : Int) < (l.length : Int) := by omega
  simp only [h1, h2, e1, e2, e3, e4, e5, e6, e7, e8, e9, s1, s2, hcome, hlen, decide_true, Bool.and_self, cond_true]
  refine ⟨⟨trivial, trivial, trivial⟩, ?_⟩
  have rest : bad25 l.length lp en i l[i].op l[i].imm = false → (bif !boolO (nth cst (i * 25)) then
      (PlainL (insC l) ∧ PlainL (ints lp) ∧ PlainL (ints en) ∧ PlainL cst ∧ True) ∧ K [B true] (heapB G (ckB l.length (insC l) rw (ints lp) (ints en) cst))
    else (PlainL (insC l) ∧ PlainL (ints lp) ∧ PlainL (ints en) ∧ PlainL cst ∧ PlainL [I l[i].op, I l[i].d, I l[i].s, I l[i].imm] ∧ PlainL (stAt cst i) ∧ True) ∧ SemK w0 Tryd.f25 K t25a (frm 98 [(0, AV.v (PT G)), (1, AV.v (I i)), (5, AV.v (PT (G + 5))), (6, AV.v (PT (G + 6)))]) (heapB G (ckB l.length (insC l) rw (ints lp) (ints en) cst ++ [some (ABlk.cells [I l[i].op, I l[i].d, I l[i].s, I l[i].imm] true), some (ABlk.cells (stAt cst i) true)]))) := by
    intro hb
    simp only [hb, cond_false] at hK
    refine bifP (fun e => ?_) (fun e => ?_)
    · simp only [e, cond_true] at hK
      exact ⟨⟨p1, p2, p3, hcst, trivial⟩, hK⟩
    · simp only [e, cond_false] at hK
      exact ⟨⟨p1, p2, p3, hcst, plain_ins4 _ _ _ _, isSt_plain s3, trivial⟩, sem25a hl hn hi hen hop hr hcst s3 hsts hb hK⟩
  have bad : bad25 l.length lp en i l[i].op l[i].imm = true → K [B false] (heapB G (ckB l.length (insC l) rw (ints lp) (ints en) cst)) := by
    intro hb
    simp only [hb, cond_true] at hK
    exact hK
  unfold bad25 at rest bad
  refine bifP (fun e => ?_) (fun e => ?_)
  · simp only [e, cond_true] at rest bad
    refine bifP (fun e1' => ?_) (fun e1' => ?_)
    · exact ⟨⟨p1, p2, p3, hcst, trivial⟩, bad (by rw [e1']; rfl)⟩
    · refine bifP (fun e2' => ?_) (fun e2' => ?_)
      · exact ⟨⟨p1, p2, p3, hcst, trivial⟩, bad (by rw [e1', e2']; rfl)⟩
      · have q1 : 0 ≤ l[i].imm := by simp only [decide_eq_false_iff_not] at e1'; omega
        have q2 : l[i].imm < (l.length : Int) := by simp only [decide_eq_false_iff_not] at e2'; omega
        rw [unI_ints, unI_ints]
        refine ⟨⟨⟨p1, p2, p3, hcst, trivial⟩, ⟨p1, p2, p3, hcst, trivial⟩, by trivial, p1, hcst, by trivial, by trivial, hlp, hen, q1, q2⟩, ?_⟩
        refine bifP (fun e3' => ?_) (fun e3' => ?_)
        · exact ⟨⟨p1, p2, p3, hcst, trivial⟩, bad (by rw [e1', e2']; exact e3')⟩
        · exact rest (by rw [e1', e2']; exact e3')
  · simp only [e, cond_false] at rest
    exact rest (by trivial)
end

/-- What is asked of a checker's blocks. -/
structure CkOk (n : Nat) (cl cp ce cst : List Value) : Prop where
  hcl : cl = insC (unIns cl)
  len : (unIns cl).length = n
  big : n < 1000000000
  rgt : ∀ x ∈ unIns cl, right x = true
  hcp : cp = ints (unI cp)
  lp : LpOk (unI cp) n
  hce : ce = ints (unI ce)
  en : (unI ce).length = n
  ends : EnOk (unIns cl) (unI ce)
  pl : PlainL cst
  sts : StsOk cst n
noncomputable def con25 : Con := { f := 25, gh := [], paths := ptK, spec := fun args bs => match args, ckP bs with
  | [p, vi], some (q, n, cl, rw, cp, ce, cst) => match intV vi with
    | some i => bif isPtr p 0 then some (q ∧ CkOk n cl cp ce cst ∧ 0 ≤ i ∧ i < (n : Int),
        [B (stepF (unIns cl) (unI cp) (unI ce) i.toNat cst).1], flK.zip (ckB n cl rw cp ce (stepF (unIns cl) (unI cp) (unI ce) i.toNat cst).2)) else none
    | none => none
  | _, _ => none }
set_option maxRecDepth 100000 in
set_option maxHeartbeats 4000000 in
theorem con25_ok : con25.ok Tryd.prog w0 := by
  intro args bs p rs out e hp
  simp only [con25] at e
  split at e <;> first | (simp at e; done) | skip
  split at e <;> first | (simp at e; done) | skip
  rename_i p0 vi q n cl rw cp ce cst hck _ i hi
  cases hq : isPtr p0 0 with
  | false => rw [hq] at e; simp at e
  | true =>
    rw [hq] at e
    simp only [cond_true, Option.some.injEq, Prod.mk.injEq] at e
    obtain ⟨e1, e2, e3⟩ := e
    subst e1 e2 e3
    obtain ⟨p1, ⟨c1, c2, c3, c4, c5, c6, c7, c8, c9, c10, c11⟩, p3, p4⟩ := hp
    rw [ckP_eq hck p1, isPtr_eq hq, intV_eq hi]
    generalize unIns cl = l at c1 c2 c4 c9 ⊢
    generalize unI cp = lp at c5 c6 ⊢
    generalize unI ce = en at c7 c8 c9 ⊢
    subst c1 c2 c5 c7
    obtain ⟨j, rfl⟩ := Int.eq_ofNat_of_zero_le p3
    rw [Int.toNat_natCast]
    have hn : (heapB Tryd.prog.globals.size (ckB l.length (insC l) rw (ints lp) (ints en) cst)).next = Tryd.prog.globals.size + ntK.flags.length := by rw [heapB_next]; rfl
    change CallS Tryd.prog w0 25 [PT G, I j] (heapB Tryd.prog.globals.size (ckB l.length (insC l) rw (ints lp) (ints en) cst)) fun rs' h' => rs' = [B (stepF l lp en j cst).1] ∧ h' = heapB Tryd.prog.globals.size (ckB l.length (insC l) rw (ints lp) (ints en) (stepF l lp en j cst).2)
    refine retT_call (nt := ntK) hn (call_sem (cd := Tryd.f25.body.getD .skip) Tryd.func25 (by kernel_rfl) ?_)
    rw [hn]
    exact sem25 c4 c3 (by omega) c6 c8 c9 c10 c11 ⟨rfl, rfl⟩

noncomputable def ft23 : FT := { loc := fun _ => false, mask := fun id => bif Nat.beq id 3 then live 79 [0, 3, 9, 10, 11] else [] }
abbrev nt23 : Nt := { gh := [⟨3, none, 1⟩], flags := flK, paths := [⟨3, [], true⟩], tr := [(3, [])] }
noncomputable def todo23 : List Item := todoOf Tryd.f23 3
noncomputable def fr23 (n m : Nat) (i : Int) : List AV := frm 79 [(0, .v (PT G)), (3, .v (SL (G + 5) m 1)), (9, .v (SL (G + 1) n 4)), (10, .v (I n)), (11, .v (I i))]
abbrev seg23 (K : List Value → AHeap → Prop) (L : List Item → List AV → AHeap → Prop) (t : List Item) (fr : List AV) (h : AHeap) : Prop :=
  segK3 Tryd.prog ft23 (semI Tryd.prog (fun _ => ft0) (callsOf G []) 400 20 (retT G ntK K)) Tryd.f23 [3] 400 t fr (fun t fr h => match t with
  | .code (.region 3 _ _) :: _ => canonT G nt23 (L t) fr h
  | _ => False) h
noncomputable def ft26 : FT := { loc := fun _ => false, mask := fun id => bif Nat.beq id 3 then live 46 [0, 3, 11, 12] else bif Nat.beq id 7 then live 46 [0, 3, 5, 6, 11, 12] else [] }
noncomputable def todo26a : List Item := todoOf Tryd.f26 3
noncomputable def todo26b : List Item := todoOf Tryd.f26 7
noncomputable def fr26a (n : Nat) (i t : Int) : List AV := frm 46 [(0, .v (PT G)), (3, .v (I t)), (11, .v (I n)), (12, .v (I i))]
noncomputable def fr26b (n : Nat) (i t q k : Int) : List AV := frm 46 [(0, .v (PT G)), (3, .v (I t)), (5, .v (I q)), (6, .v (I k)), (11, .v (I n)), (12, .v (I i))]
abbrev seg26 (K : List Value → AHeap → Prop) (L : List Item → List AV → AHeap → Prop) (t : List Item) (fr : List AV) (h : AHeap) : Prop :=
  segK3 Tryd.prog ft26 (semI Tryd.prog (fun _ => ft0) (callsOf G []) 400 20 (retT G ntK K)) Tryd.f26 [3, 7] 400 t fr (fun t fr h => match t with
  | .code (.region _ _ _) :: _ => canonT G ntK (L t) fr h
  | _ => False) h

abbrev tp (os : List Value) (m : Nat) : Int := intO (nth os (0 + (w ((m : Int) - 1)).toNat * 1))
theorem start23 (n : Nat) (cl : List Value) (rw : Bool) (cp ce cst : List Value) (K : List Value → AHeap → Prop) (L : List Item → List AV → AHeap → Prop) :
    seg23 K L [.code (Tryd.f23.body.getD .skip)] (startF Tryd.f23 [PT G]) (heapB G (ckB n cl rw cp ce cst))
    = ((PlainL cl ∧ PlainL cp ∧ PlainL ce ∧ PlainL cst ∧ PlainL [] ∧ True) ∧ L todo23 (frm 79 [(0, AV.v (PT G)), (3, AV.v (SL (G + 5) 0 1)), (9, AV.v (SL (G + 1) n 4)), (10, AV.v (I (↑n : Int))), (11, AV.v (I 0))]) (heapB G (ckB n cl rw cp ce cst ++ [some (ABlk.cells [] true)]))) := by kernel_rfl
theorem head23 (m : Nat) (i : Int) (os : List Value) (n : Nat) (cl : List Value) (rw : Bool) (cp ce cst : List Value) (K : List Value → AHeap → Prop) (L : List Item → List AV → AHeap → Prop) :
    seg23 K L todo23 (fr23 n m i) (heapB G (ckB n cl rw cp ce cst ++ [some (.cells os true)]))
    = (bif decide (i < (↑n : Int)) then
      bif decide (0 ≤ i) && decide (i < (↑n : Int)) then
      bif (0 + i.toNat * 4 + 4).ble cl.length && (okI .i64 (nth cl (0 + i.toNat * 4 + 0)) && (okI .i64 (nth cl (0 + i.toNat * 4 + 1)) && (okI .i64 (nth cl (0 + i.toNat * 4 + 2)) && (okI .i64 (nth cl (0 + i.toNat * 4 + 3)) && true)))) then
      bif decide (0 ≤ i) && decide (i < (↑n : Int)) then
      bif (0 + i.toNat * 1 + 1).ble cp.length then
      bif decide ((↑m : Int) > 0) then
      bif decide (0 ≤ w ((↑m : Int) - 1)) && decide (w ((↑m : Int) - 1) < (↑m : Int)) then
      bif okI .i64 (nth os (0 + (w ((↑m : Int) - 1)).toNat * 1)) then
      bif decide (0 ≤ i) && decide (i < (↑n : Int)) then
      bif 1 == 1 && (0 + i.toNat * 1 + 1).ble (splice cp (0 + i.toNat * 1) [I (-1)]).length then
      bif intO (nth cl (0 + i.toNat * 4 + 0)) == 17 then
      bif (↑m : Int) == 3 then
      (PlainL cl ∧ PlainL (splice (splice cp (0 + i.toNat * 1) [I (-1)]) (0 + i.toNat * 1) [I (tp os m)]) ∧ PlainL ce ∧ PlainL cst ∧ True) ∧ K [I i] (heapB G (ckB n cl rw (splice (splice cp (0 + i.toNat * 1) [I (-1)]) (0 + i.toNat * 1) [I (tp os m)]) ce cst))
    else bif room (m + 1) 8 then
      bif (0 + m * 1).ble os.length then
      (PlainL cl ∧ PlainL (splice (splice cp (0 + i.toNat * 1) [I (-1)]) (0 + i.toNat * 1) [I (tp os m)]) ∧ PlainL ce ∧ PlainL cst ∧ PlainL (List.take ((m + 1) * 1) (List.take (m * 1) (List.drop 0 os) ++ [I i])) ∧ True) ∧ L todo23 (frm 79 [(0, AV.v (PT G)), (3, AV.v (SL (G + 5) (m + 1) 1)), (9, AV.v (SL (G + 1) n 4)), (10, AV.v (I (↑n : Int))), (11, AV.v (I (w (i + 1))))]) (heapB G (ckB n cl rw (splice (splice cp (0 + i.toNat * 1) [I (-1)]) (0 + i.toNat * 1) [I (tp os m)]) ce cst ++ [some (ABlk.cells (List.take ((m + 1) * 1) (List.take (m * 1) (List.drop 0 os) ++ [I i])) true)]))
    else False
    else False
    else bif intO (nth cl (0 + i.toNat * 4 + 0)) == 18 then
      bif (↑m : Int) == 0 then
      (PlainL cl ∧ PlainL (splice (splice cp (0 + i.toNat * 1) [I (-1)]) (0 + i.toNat * 1) [I (tp os m)]) ∧ PlainL ce ∧ PlainL cst ∧ True) ∧ K [I i] (heapB G (ckB n cl rw (splice (splice cp (0 + i.toNat * 1) [I (-1)]) (0 + i.toNat * 1) [I (tp os m)]) ce cst))
    else bif decide (0 ≤ w ((↑m : Int) - 1)) && decide (w ((↑m : Int) - 1) < (↑m : Int)) then
      bif okI .i64 (nth os (0 + (w ((↑m : Int) - 1)).toNat * 1)) then
      bif decide (0 ≤ tp os m) && decide (tp os m < (↑n : Int)) then
      bif 1 == 1 && (0 + (tp os m).toNat * 1 + 1).ble ce.length then
      bif decide (0 ≤ w ((↑m : Int) - 1)) && decide (w ((↑m : Int) - 1) ≤ (↑m : Int)) then
      (PlainL cl ∧ PlainL (splice (splice cp (0 + i.toNat * 1) [I (-1)]) (0 + i.toNat * 1) [I (tp os m)]) ∧ PlainL (splice ce (0 + (tp os m).toNat * 1) [I i]) ∧ PlainL cst ∧ PlainL (List.take (((w ((↑m : Int) - 1)).toNat - 0) * 1) os) ∧ True) ∧ L todo23 (frm 79 [(0, AV.v (PT G)), (3, AV.v (Value.slice (some ⟨G + 5, 0 + 0 * 1, none⟩) ((w ((↑m : Int) - 1)).toNat - 0) 1)), (9, AV.v (SL (G + 1) n 4)), (10, AV.v (I (↑n : Int))), (11, AV.v (I (w (i + 1))))]) (heapB G (ckB n cl rw (splice (splice cp (0 + i.toNat * 1) [I (-1)]) (0 + i.toNat * 1) [I (tp os m)]) (splice ce (0 + (tp os m).toNat * 1) [I i]) cst ++ [some (ABlk.cells (List.take (((w ((↑m : Int) - 1)).toNat - 0) * 1) os) true)]))
    else False
    else False
    else False
    else False
    else False
    else (PlainL cl ∧ PlainL (splice (splice cp (0 + i.toNat * 1) [I (-1)]) (0 + i.toNat * 1) [I (tp os m)]) ∧ PlainL ce ∧ PlainL cst ∧ PlainL (List.take (m * 1) os) ∧ True) ∧ L todo23 (frm 79 [(0, AV.v (PT G)), (3, AV.v (SL (G + 5) m 1)), (9, AV.v (SL (G + 1) n 4)), (10, AV.v (I (↑n : Int))), (11, AV.v (I (w (i + 1))))]) (heapB G (ckB n cl rw (splice (splice cp (0 + i.toNat * 1) [I (-1)]) (0 + i.toNat * 1) [I (tp os m)]) ce cst ++ [some (ABlk.cells (List.take (m * 1) os) true)]))
    else False
    else False
    else False
    else False
    else bif intO (nth cl (0 + i.toNat * 4 + 0)) == 17 then
      bif (↑m : Int) == 3 then
      (PlainL cl ∧ PlainL (splice cp (0 + i.toNat * 1) [I (-1)]) ∧ PlainL ce ∧ PlainL cst ∧ True) ∧ K [I i] (heapB G (ckB n cl rw (splice cp (0 + i.toNat * 1) [I (-1)]) ce cst))
    else bif room (m + 1) 8 then
      bif (0 + m * 1).ble os.length then
      (PlainL cl ∧ PlainL (splice cp (0 + i.toNat * 1) [I (-1)]) ∧ PlainL ce ∧ PlainL cst ∧ PlainL (List.take ((m + 1) * 1) (List.take (m * 1) (List.drop 0 os) ++ [I i])) ∧ True) ∧ L todo23 (frm 79 [(0, AV.v (PT G)), (3, AV.v (SL (G + 5) (m + 1) 1)), (9, AV.v (SL (G + 1) n 4)), (10, AV.v (I (↑n : Int))), (11, AV.v (I (w (i + 1))))]) (heapB G (ckB n cl rw (splice cp (0 + i.toNat * 1) [I (-1)]) ce cst ++ [some (ABlk.cells (List.take ((m + 1) * 1) (List.take (m * 1) (List.drop 0 os) ++ [I i])) true)]))
    else False
    else False
    else bif intO (nth cl (0 + i.toNat * 4 + 0)) == 18 then
      bif (↑m : Int) == 0 then
      (PlainL cl ∧ PlainL (splice cp (0 + i.toNat * 1) [I (-1)]) ∧ PlainL ce ∧ PlainL cst ∧ True) ∧ K [I i] (heapB G (ckB n cl rw (splice cp (0 + i.toNat * 1) [I (-1)]) ce cst))
    else bif decide (0 ≤ w ((↑m : Int) - 1)) && decide (w ((↑m : Int) - 1) < (↑m : Int)) then
      bif okI .i64 (nth os (0 + (w ((↑m : Int) - 1)).toNat * 1)) then
      bif decide (0 ≤ tp os m) && decide (tp os m < (↑n : Int)) then
      bif 1 == 1 && (0 + (tp os m).toNat * 1 + 1).ble ce.length then
      bif decide (0 ≤ w ((↑m : Int) - 1)) && decide (w ((↑m : Int) - 1) ≤ (↑m : Int)) then
      (PlainL cl ∧ PlainL (splice cp (0 + i.toNat * 1) [I (-1)]) ∧ PlainL (splice ce (0 + (tp os m).toNat * 1) [I i]) ∧ PlainL cst ∧ PlainL (List.take (((w ((↑m : Int) - 1)).toNat - 0) * 1) os) ∧ True) ∧ L todo23 (frm 79 [(0, AV.v (PT G)), (3, AV.v (Value.slice (some ⟨G + 5, 0 + 0 * 1, none⟩) ((w ((↑m : Int) - 1)).toNat - 0) 1)), (9, AV.v (SL (G + 1) n 4)), (10, AV.v (I (↑n : Int))), (11, AV.v (I (w (i + 1))))]) (heapB G (ckB n cl rw (splice cp (0 + i.toNat * 1) [I (-1)]) (splice ce (0 + (tp os m).toNat * 1) [I i]) cst ++ [some (ABlk.cells (List.take (((w ((↑m : Int) - 1)).toNat - 0) * 1) os) true)]))
    else False
    else False
    else False
    else False
    else False
    else (PlainL cl ∧ PlainL (splice cp (0 + i.toNat * 1) [I (-1)]) ∧ PlainL ce ∧ PlainL cst ∧ PlainL (List.take (m * 1) os) ∧ True) ∧ L todo23 (frm 79 [(0, AV.v (PT G)), (3, AV.v (SL (G + 5) m 1)), (9, AV.v (SL (G + 1) n 4)), (10, AV.v (I (↑n : Int))), (11, AV.v (I (w (i + 1))))]) (heapB G (ckB n cl rw (splice cp (0 + i.toNat * 1) [I (-1)]) ce cst ++ [some (ABlk.cells (List.take (m * 1) os) true)]))
    else False
    else False
    else False
    else False
    else bif decide ((↑m : Int) > 0) then
      bif decide (0 < (↑m : Int)) then
      bif okI .i64 (nth os 0) then
      (PlainL cl ∧ PlainL cp ∧ PlainL ce ∧ PlainL cst ∧ True) ∧ K [I (intO (nth os 0))] (heapB G (ckB n cl rw cp ce cst))
    else False
    else False
    else (PlainL cl ∧ PlainL cp ∧ PlainL ce ∧ PlainL cst ∧ True) ∧ K [I (-1)] (heapB G (ckB n cl rw cp ce cst))) := by kernel_rfl
theorem start26 (n : Nat) (cl : List Value) (rw : Bool) (cp ce cst : List Value) (K : List Value → AHeap → Prop) (L : List Item → List AV → AHeap → Prop) :
    seg26 K L [.code (Tryd.f26.body.getD .skip)] (startF Tryd.f26 [PT G]) (heapB G (ckB n cl rw cp ce cst))
    = ((PlainL cl ∧ PlainL cp ∧ PlainL ce ∧ PlainL cst ∧ True) ∧ L todo26a (frm 46 [(0, AV.v (PT G)), (3, AV.v (I 0)), (11, AV.v (I (↑n : Int))), (12, AV.v (I 0))]) (heapB G (ckB n cl rw cp ce cst))) := by kernel_rfl
theorem head26a (i t : Int) (n : Nat) (cl : List Value) (rw : Bool) (cp ce cst : List Value) (K : List Value → AHeap → Prop) (L : List Item → List AV → AHeap → Prop) :
    seg26 K L todo26a (fr26a n i t) (heapB G (ckB n cl rw cp ce cst))
    = (bif decide (i < (↑n : Int)) then
      bif decide (0 ≤ i) && decide (i < (↑n : Int)) then
      bif okI .i64 (nth cp (0 + i.toNat * 1)) then
      (PlainL cl ∧ PlainL cp ∧ PlainL ce ∧ PlainL cst ∧ True) ∧ L todo26b (frm 46 [(0, AV.v (PT G)), (3, AV.v (I t)), (5, AV.v (I 1)), (6, AV.v (I (intO (nth cp (0 + i.toNat * 1))))), (11, AV.v (I (↑n : Int))), (12, AV.v (I i))]) (heapB G (ckB n cl rw cp ce cst))
    else False
    else False
    else (PlainL cl ∧ PlainL cp ∧ PlainL ce ∧ PlainL cst ∧ True) ∧ K [I t] (heapB G (ckB n cl rw cp ce cst))) := by kernel_rfl
theorem head26b (i t q k : Int) (n : Nat) (cl : List Value) (rw : Bool) (cp ce cst : List Value) (K : List Value → AHeap → Prop) (L : List Item → List AV → AHeap → Prop) :
    seg26 K L todo26b (fr26b n i t q k) (heapB G (ckB n cl rw cp ce cst))
    = (bif decide (k ≥ 0) then
      bif decide (0 ≤ k) && decide (k < (↑n : Int)) then
      bif okI .i64 (nth cl (0 + k.toNat * 4 + 3)) then
      bif decide (0 ≤ k) && decide (k < (↑n : Int)) then
      bif okI .i64 (nth cp (0 + k.toNat * 1)) then
      (PlainL cl ∧ PlainL cp ∧ PlainL ce ∧ PlainL cst ∧ True) ∧ L todo26b (frm 46 [(0, AV.v (PT G)), (3, AV.v (I t)), (5, AV.v (I (w (q * intO (nth cl (0 + k.toNat * 4 + 3)))))), (6, AV.v (I (intO (nth cp (0 + k.toNat * 1))))), (11, AV.v (I (↑n : Int))), (12, AV.v (I i))]) (heapB G (ckB n cl rw cp ce cst))
    else False
    else False
    else False
    else False
    else (PlainL cl ∧ PlainL cp ∧ PlainL ce ∧ PlainL cst ∧ True) ∧ L todo26a (frm 46 [(0, AV.v (PT G)), (3, AV.v (I (w (t + q)))), (11, AV.v (I (↑n : Int))), (12, AV.v (I (w (i + 1))))]) (heapB G (ckB n cl rw cp ce cst))) := by kernel_rfl

def prodF (l : List Ins) (lp : List Int) : Nat → Int → Int → Int
  | 0, _, q => q
  | f + 1, k, q => bif decide (k ≥ 0) then prodF l lp f (lp.getD k.toNat 0) (w (q * (l.getD k.toNat insD).imm)) else q
def fuelF (l : List Ins) (lp : List Int) : Nat → Nat → Int → Int
  | 0, _, t => t
  | f + 1, i, t => bif decide (i < l.length) then fuelF l lp f (i + 1) (w (t + prodF l lp (l.length + 1) (lp.getD i 0) 1)) else t

theorem leaf26 {K : List Value → AHeap → Prop} : ∀ t fr h, (match t with
    | .code (.region _ _ _) :: _ => canonT G ntK (SemK w0 Tryd.f26 K t) fr h
    | _ => False) → SemK w0 Tryd.f26 K t fr h := by
  intro t fr h e
  split at e
  · exact canonT_semN (nt := ntK) rfl e
  · exact e.elim
theorem imm_insC {l : List Ins} {k : Nat} (h : k < l.length) : okI .i64 (nth (insC l) (0 + k * 4 + 3)) = true ∧ intO (nth (insC l) (0 + k * 4 + 3)) = (l.getD k insD).imm := by
  obtain ⟨_, _, _, e⟩ := nth_insC h
  rw [Nat.zero_add, e, List.getD_eq_getElem?_getD, List.getElem?_eq_getElem h]
  exact ⟨rfl, rfl⟩

section
variable {K : List Value → AHeap → Prop} {l : List Ins} {rw : Bool} {lp : List Int} {ce cst : List Value} (hce : PlainL ce) (hcst : PlainL cst) (hlp : LpOk lp l.length) (hn : l.length < 1000000000)
include hce hcst hlp

set_option maxRecDepth 100000 in
theorem loop26b {i t : Int} : ∀ (f : Nat) (k q : Int), -1 ≤ k → k < l.length → k < f →
    SemK w0 Tryd.f26 K todo26a (fr26a l.length (w (i + 1)) (w (t + prodF l lp (f + 1) k q))) (heapB G (ckB l.length (insC l) rw (ints lp) ce cst)) →
    SemK w0 Tryd.f26 K todo26b (fr26b l.length i t q k) (heapB G (ckB l.length (insC l) rw (ints lp) ce cst)) := by
  intro f
  induction f with
  | zero =>
    intro k q h1 h2 h3 hK
    refine seg_semI3 (F := ft26) mixed (callsOf_ok ok_none) leaf26 [3, 7] 20 400 ((head26b i t q k l.length (insC l) rw (ints lp) ce cst K _).mpr ?_)
    have hk : ¬ (k ≥ 0) := by omega
    simp only [prodF, hk, decide_false, cond_false] at hK ⊢
    exact ⟨⟨plain_insC l, plain_ints lp, hce, hcst, trivial⟩, hK⟩
  | succ f ih =>
    intro k q h1 h2 h3 hK
    refine seg_semI3 (F := ft26) mixed (callsOf_ok ok_none) leaf26 [3, 7] 20 400 ((head26b i t q k l.length (insC l) rw (ints lp) ce cst K _).mpr ?_)
    rw [prodF] at hK
    by_cases hk : k ≥ 0
    · have hkn : k.toNat < l.length := by omega
      obtain ⟨e3, e4⟩ := getI (l := lp) (k := k.toNat) (by rw [hlp.len]; omega)
      obtain ⟨e5, e6⟩ := imm_insC hkn
      have q1 := hlp.lo k.toNat hkn
      have q2 := hlp.hi k.toNat hkn
      simp only [hk, h2, e3, e4, e5, e6, decide_true, Bool.and_self, cond_true] at hK ⊢
      exact ⟨⟨plain_insC l, plain_ints lp, hce, hcst, trivial⟩, ih _ _ q1 (by omega) (by omega) hK⟩
    · simp only [hk, decide_false, cond_false] at hK ⊢
      exact ⟨⟨plain_insC l, plain_ints lp, hce, hcst, trivial⟩, hK⟩

include hn
set_option maxRecDepth 100000 in
theorem loop26a : ∀ (f i : Nat) (t : Int), l.length - i < f →
    K [I (fuelF l lp f i t)] (heapB G (ckB l.length (insC l) rw (ints lp) ce cst)) →
    SemK w0 Tryd.f26 K todo26a (fr26a l.length i t) (heapB G (ckB l.length (insC l) rw (ints lp) ce cst)) := by
  intro f
  induction f with
  | zero => intro i t h1; omega
  | succ f ih =>
    intro i t h1 hK
    refine seg_semI3 (F := ft26) mixed (callsOf_ok ok_none) leaf26 [3, 7] 20 400 ((head26a i t l.length (insC l) rw (ints lp) ce cst K _).mpr ?_)
    rw [fuelF] at hK
    by_cases hi : i < l.length
    · have q1 : (0 : Int) ≤ (i : Int) := by omega
      have q2 : (i : Int) < (l.length : Int) := by omega
      obtain ⟨e3, e4⟩ := getI (l := lp) (k := i) (by rw [hlp.len]; omega)
      have r1 := hlp.lo i hi
      have r2 := hlp.hi i hi
      simp only [hi, decide_true, cond_true] at hK
      simp only [Int.toNat_natCast, q1, q2, e3, e4, decide_true, Bool.and_self, cond_true]
      refine ⟨⟨plain_insC l, plain_ints lp, hce, hcst, trivial⟩, loop26b hce hcst hlp l.length _ _ r1 (by omega) (by omega) ?_⟩
      have hw1 : w ((i : Int) + 1) = ((i + 1 : Nat) : Int) := by rw [w_id (by omega) (by omega)]; omega
      rw [hw1]
      exact ih _ _ (by omega) hK
    · have q2 : ¬ (i : Int) < (l.length : Int) := by omega
      simp only [hi, decide_false, cond_false] at hK
      simp only [q2, decide_false, cond_false]
      exact ⟨⟨plain_insC l, plain_ints lp, hce, hcst, trivial⟩, hK⟩
end
noncomputable def con26 : Con := { f := 26, gh := [], paths := ptK, spec := fun args bs => match args, ckP bs with
  | [p], some (q, n, cl, rw, cp, ce, cst) => bif isPtr p 0 then some (q ∧ cl = insC (unIns cl) ∧ (unIns cl).length = n ∧ n < 1000000000 ∧ PlainL ce ∧ PlainL cst ∧ cp = ints (unI cp) ∧ LpOk (unI cp) n,
        [I (fuelF (unIns cl) (unI cp) (n + 1) 0 0)], flK.zip (ckB n cl rw cp ce cst)) else none
  | _, _ => none }
set_option maxRecDepth 100000 in
theorem con26_ok : con26.ok Tryd.prog w0 := by
  intro args bs p rs out e hp
  simp only [con26] at e
  split at e <;> first | (simp at e; done) | skip
  rename_i p0 q n cl rw cp ce cst hck
  cases hq : isPtr p0 0 with
  | false => rw [hq] at e; simp at e
  | true =>
    rw [hq] at e
    simp only [cond_true, Option.some.injEq, Prod.mk.injEq] at e
    obtain ⟨e1, e2, e3⟩ := e
    subst e1 e2 e3
    obtain ⟨p1, p2, p3, p4, p5, p6, p7, p8⟩ := hp
    rw [ckP_eq hck p1, isPtr_eq hq]
    generalize unIns cl = l at p2 p3 ⊢
    generalize unI cp = lp at p7 p8 ⊢
    subst p2 p3 p7
    have hn : (heapB Tryd.prog.globals.size (ckB l.length (insC l) rw (ints lp) ce cst)).next = Tryd.prog.globals.size + ntK.flags.length := by rw [heapB_next]; rfl
    change CallS Tryd.prog w0 26 [PT G] (heapB Tryd.prog.globals.size (ckB l.length (insC l) rw (ints lp) ce cst)) fun rs' h' => rs' = [I (fuelF l lp (l.length + 1) 0 0)] ∧ h' = heapB Tryd.prog.globals.size (ckB l.length (insC l) rw (ints lp) ce cst)
    refine retT_call (nt := ntK) hn (call_sem (cd := Tryd.f26.body.getD .skip) Tryd.func26 (by kernel_rfl) ?_)
    rw [hn]
    refine seg_semI3 (F := ft26) mixed (callsOf_ok ok_none) leaf26 [3, 7] 20 400 ((start26 l.length (insC l) rw (ints lp) ce cst _ _).mpr ?_)
    exact ⟨⟨plain_insC l, plain_ints lp, p5, p6, trivial⟩, loop26a p5 p6 p8 p4 (l.length + 1) 0 0 (by omega) ⟨rfl, rfl⟩⟩

def topF (os : List Int) : Int := bif decide ((os.length : Int) > 0) then os.getD (os.length - 1) 0 else -1
/-- From place i on: the open Loops, the Loop ahead of each place, the End of each Loop; answered with the place that is wrong, or -1. -/
def loopF (l : List Ins) : Nat → Nat → List Int → List Int → List Int → Int × List Int × List Int
  | 0, _, _, lp, en => (-1, lp, en)
  | f + 1, i, os, lp, en =>
    bif decide (i < l.length) then
      bif (l.getD i insD).op == 17 then
        bif (os.length : Int) == 3 then ((i : Int), lp.set i (topF os), en) else loopF l f (i + 1) (os ++ [(i : Int)]) (lp.set i (topF os)) en
      else bif (l.getD i insD).op == 18 then
        bif (os.length : Int) == 0 then ((i : Int), lp.set i (topF os), en) else loopF l f (i + 1) (os.take (os.length - 1)) (lp.set i (topF os)) (en.set (topF os).toNat i)
      else loopF l f (i + 1) os (lp.set i (topF os)) en
    else (bif decide ((os.length : Int) > 0) then os.getD 0 0 else -1, lp, en)

theorem leaf23 {K : List Value → AHeap → Prop} : ∀ t fr h, (match t with
    | .code (.region 3 _ _) :: _ => canonT G nt23 (SemK w0 Tryd.f23 K t) fr h
    | _ => False) → SemK w0 Tryd.f23 K t fr h := by
  intro t fr h e
  split at e
  · exact canonT_semN (nt := nt23) rfl e
  · exact e.elim
theorem at_insC3 {l : List Ins} {i : Nat} (h : i < l.length) : (0 + (i : Int).toNat * 4 + 4).ble (insC l).length = true ∧ (okI .i64 (nth (insC l) (0 + (i : Int).toNat * 4 + 0)) = true ∧ okI .i64 (nth (insC l) (0 + (i : Int).toNat * 4 + 1)) = true ∧ okI .i64 (nth (insC l) (0 + (i : Int).toNat * 4 + 2)) = true ∧ okI .i64 (nth (insC l) (0 + (i : Int).toNat * 4 + 3)) = true) ∧
    intO (nth (insC l) (0 + (i : Int).toNat * 4 + 0)) = (l.getD i insD).op := by
  obtain ⟨e1, ⟨e2, e3, e4, e5⟩, e6, _⟩ := at_insC h
  refine ⟨e1, ⟨e2, e3, e4, e5⟩, ?_⟩
  rw [List.getD_eq_getElem?_getD, List.getElem?_eq_getElem h]
  exact e6

theorem splice_set : ∀ {cs : List Value} {i : Nat} {x : Value}, i < cs.length → splice cs i [x] = cs.set i x
  | [], i, x, h => by simp at h
  | c :: cs, 0, x, h => by simp [splice]
  | c :: cs, i + 1, x, h => by
    have := splice_set (cs := cs) (i := i) (x := x) (by simpa using h)
    simp only [splice, List.length_singleton] at this ⊢
    rw [List.set_cons_succ, ← this]
    have e : i + 1 + 1 = (i + 1) + 1 := rfl
    rw [e, List.drop_succ_cons]; rfl
theorem splice_ints {l : List Int} {i : Nat} (x : Int) (h : i < l.length) : splice (ints l) i [I x] = ints (l.set i x) := by
  rw [splice_set (by rw [ints_len]; exact h), ints, ints, List.map_set]
theorem ints_take (l : List Int) (k : Nat) : (ints l).take k = ints (l.take k) := by simp [ints]
theorem ints_push (l : List Int) (x : Int) : List.take ((l.length + 1) * 1) (List.take (l.length * 1) (List.drop 0 (ints l)) ++ [I x]) = ints (l ++ [x]) := by
  have e : List.take (l.length * 1) (List.drop 0 (ints l)) = ints l := by
    rw [List.drop_zero, Nat.mul_one, List.take_of_length_le (by rw [ints_len]; omega)]
  rw [e, Nat.mul_one, List.take_of_length_le (by simp [ints_len])]
  simp [ints]
theorem room8 {k : Nat} (h : k < 1000000000) : room (k + 1) 8 = true := Nat.ble_eq_true_of_le (by omega)
theorem wpred {m : Nat} (h : 0 < m) (h2 : m < 1000000000) : w ((m : Int) - 1) = ((m - 1 : Nat) : Int) := by rw [w_id (by omega) (by omega)]; omega

section
variable {K : List Value → AHeap → Prop} {l : List Ins} {rw : Bool} {cst : List Value} (hcst : PlainL cst) (hn : l.length < 1000000000)
include hcst hn

set_option maxRecDepth 100000 in
set_option maxHeartbeats 4000000 in
theorem loop23 : ∀ (f i : Nat) (os lp en : List Int), l.length - i < f → os.length ≤ 3 → (∀ o ∈ os, 0 ≤ o ∧ o < (i : Int)) → i ≤ l.length → lp.length = l.length → en.length = l.length →
    K [I (loopF l f i os lp en).1] (heapB G (ckB l.length (insC l) rw (ints (loopF l f i os lp en).2.1) (ints (loopF l f i os lp en).2.2) cst)) →
    SemK w0 Tryd.f23 K todo23 (fr23 l.length os.length i) (heapB G (ckB l.length (insC l) rw (ints lp) (ints en) cst ++ [some (.cells (ints os) true)])) := by
  intro f
  induction f with
  | zero => intro i os lp en h1; omega
  | succ f ih =>
    intro i os lp en h1 h2 h3 h4 h5 h6 hK
    refine seg_semI3 (F := ft23) mixed (callsOf_ok ok_none) leaf23 [3] 20 400 ((head23 os.length i (ints os) l.length (insC l) rw (ints lp) (ints en) cst K _).mpr ?_)
    rw [loopF] at hK
    have p1 := plain_insC l
    by_cases hi : i < l.length
    · have q1 : (0 : Int) ≤ (i : Int) := by omega
      have q2 : (i : Int) < (l.length : Int) := by omega
      have hw1 : w ((i : Int) + 1) = ((i + 1 : Nat) : Int) := by rw [w_id (by omega) (by omega)]; omega
      obtain ⟨e1, ⟨e2, e3, e4, e5⟩, e6⟩ := at_insC3 hi
      have hlpi : (i + 1).ble (ints lp).length = true := Nat.ble_eq_true_of_le (by rw [ints_len]; omega)
      have hz : 0 + (i : Int).toNat * 1 = i := by simp
      have hs1 : splice (ints lp) i [I (-1)] = ints (lp.set i (-1)) := splice_ints _ (by omega)
      simp only [hi, decide_true, cond_true] at hK
      have hroom : room (os.length + 1) 8 = true := room8 (by omega)
      have hble : (0 + os.length * 1).ble (ints os).length = true := Nat.ble_eq_true_of_le (by rw [ints_len]; omega)
      have hall : List.take (os.length * 1) (ints os) = ints os := by rw [Nat.mul_one, List.take_of_length_le (by rw [ints_len]; omega)]
      have hpush := ints_push os i
      have n17 : os.length ≠ 3 → os.length + 1 ≤ 3 := by omega
      have hlen : (lp.set i (topF os)).length = l.length := by rw [List.length_set]; exact h5
      have hpl1 : (os ++ [(i : Int)]).length = os.length + 1 := by simp
      have hnext : ∀ o ∈ os, 0 ≤ o ∧ o < ((i + 1 : Nat) : Int) := fun o ho => by have := h3 o ho; omega
      simp only [q1, q2, e1, e2, e3, e4, e5, e6, hlpi, hz, hs1, hroom, hble, hall, hpush, hw1, decide_true, Bool.and_self, cond_true]
      refine bifP (fun e => ?_) (fun e => ?_)
      · have m0 : 0 < os.length := by simp only [decide_eq_true_eq] at e; omega
        have ht : topF os = os.getD (os.length - 1) 0 := by unfold topF; rw [e]; rfl
        have hwp := wpred m0 (by omega : os.length < 1000000000)
        obtain ⟨g1, g2⟩ := getI (l := os) (k := os.length - 1) (by omega)
        have htp : tp (ints os) os.length = topF os := by
          rw [ht, ← g2]
          show intO (nth (ints os) (0 + (w ((os.length : Int) - 1)).toNat * 1)) = _
          rw [hwp, Int.toNat_natCast]
        have hmem : topF os ∈ os := by
          rw [ht, List.getD_eq_getElem?_getD, List.getElem?_eq_getElem (by omega)]
          exact List.getElem_mem _
        obtain ⟨t0, t1⟩ := h3 _ hmem
        have t2 : topF os < (l.length : Int) := by omega
        have hs2 : splice (ints (lp.set i (-1))) i [I (topF os)] = ints (lp.set i (topF os)) := by
          rw [splice_ints _ (by rw [List.length_set]; omega), List.set_set]
        have hlp2 : (i + 1).ble (ints (lp.set i (-1))).length = true := Nat.ble_eq_true_of_le (by rw [ints_len, List.length_set]; omega)
        have w1 : (0 : Int) ≤ ((os.length - 1 : Nat) : Int) := by omega
        have w2 : ((os.length - 1 : Nat) : Int) < (os.length : Int) := by omega
        have w3 : ((os.length - 1 : Nat) : Int) ≤ (os.length : Int) := by omega
        have hen1 : (0 + (topF os).toNat * 1 + 1).ble (ints en).length = true := Nat.ble_eq_true_of_le (by rw [ints_len]; omega)
        have hen2 : splice (ints en) (0 + (topF os).toNat * 1) [I i] = ints (en.set (topF os).toNat i) := by
          have e9 : 0 + (topF os).toNat * 1 = (topF os).toNat := by omega
          rw [e9]; exact splice_ints _ (by omega)
        have hmz : ((os.length : Int) == 0) = false := beq_eq_false_iff_ne.mpr (by omega)
        simp only [htp, hwp, Int.toNat_natCast, g1, w1, w2, w3, hs2, hlp2, t0, t2, hen1, hen2, hmz, decide_true, Bool.and_self, cond_true, cond_false, beq_self_eq_true] at hK ⊢
        refine bifP (fun o1 => ?_) (fun o1 => ?_)
        · simp only [o1, cond_true] at hK
          refine bifP (fun m3 => ?_) (fun m3 => ?_)
          · simp only [m3, cond_true] at hK
            exact ⟨⟨p1, plain_ints _, plain_ints en, hcst, trivial⟩, hK⟩
          · simp only [m3, cond_false] at hK
            have m4 : os.length ≠ 3 := by intro h; rw [h] at m3; simp at m3
            exact ⟨⟨p1, plain_ints _, plain_ints en, hcst, plain_ints _, trivial⟩, by
              have := ih (i + 1) (os ++ [(i : Int)]) _ en (by omega) (by rw [hpl1]; omega) (fun o ho => by
                rcases List.mem_append.mp ho with h | h
                · exact hnext o h
                · simp at h; omega) (by omega) hlen h6 hK
              rw [hpl1] at this
              exact this⟩
        · simp only [o1, cond_false] at hK
          refine bifP (fun o2 => ?_) (fun o2 => ?_)
          · simp only [o2, cond_true] at hK
            have htl : (os.take (os.length - 1)).length = os.length - 1 := by rw [List.length_take]; omega
            have htk : List.take ((os.length - 1 - 0) * 1) (ints os) = ints (os.take (os.length - 1)) := by
              rw [Nat.sub_zero, Nat.mul_one, ints_take]
            rw [htk]
            exact ⟨⟨p1, plain_ints _, plain_ints _, hcst, plain_ints _, trivial⟩, by
              have := ih (i + 1) (os.take (os.length - 1)) _ (en.set (topF os).toNat i) (by omega) (by omega) (fun o ho => hnext o (List.mem_of_mem_take ho)) (by omega) hlen (by rw [List.length_set]; exact h6) hK
              rw [htl] at this
              exact this⟩
          · simp only [o2, cond_false] at hK
            exact ⟨⟨p1, plain_ints _, plain_ints en, hcst, plain_ints _, trivial⟩, ih (i + 1) os _ en (by omega) h2 hnext (by omega) hlen h6 hK⟩
      · have m0 : os.length = 0 := by simp only [decide_eq_false_iff_not] at e; omega
        have ht : topF os = -1 := by unfold topF; rw [e]; rfl
        rw [ht] at hK hlen
        refine bifP (fun o1 => ?_) (fun o1 => ?_)
        · simp only [o1, cond_true] at hK
          have m3 : ((os.length : Int) == 3) = false := by simp [m0]
          simp only [m3, cond_false] at hK ⊢
          exact ⟨⟨p1, plain_ints _, plain_ints en, hcst, plain_ints _, trivial⟩, by
            have := ih (i + 1) (os ++ [(i : Int)]) _ en (by omega) (by simp [m0]) (fun o ho => by
              rcases List.mem_append.mp ho with h | h
              · exact hnext o h
              · simp at h; omega) (by omega) hlen h6 hK
            rw [hpl1] at this
            exact this⟩
        · simp only [o1, cond_false] at hK
          refine bifP (fun o2 => ?_) (fun o2 => ?_)
          · have mz : ((os.length : Int) == 0) = true := by simp [m0]
            simp only [o2, mz, cond_true] at hK ⊢
            exact ⟨⟨p1, plain_ints _, plain_ints en, hcst, trivial⟩, hK⟩
          · simp only [o2, cond_false] at hK
            exact ⟨⟨p1, plain_ints _, plain_ints en, hcst, plain_ints _, trivial⟩, ih (i + 1) os _ en (by omega) h2 hnext (by omega) hlen h6 hK⟩
    · have q2 : ¬ (i : Int) < (l.length : Int) := by omega
      simp only [hi, decide_false, cond_false] at hK
      simp only [q2, decide_false, cond_false]
      refine bifP (fun e => ?_) (fun e => ?_)
      · simp only [e, cond_true] at hK
        have e' : 0 < os.length := by simp only [decide_eq_true_eq] at e; omega
        obtain ⟨g1, g2⟩ := getI (l := os) (k := 0) e'
        rw [show (0 : Nat) + 0 * 1 = 0 from rfl] at g1 g2
        have q3 : (0 : Int) < (os.length : Int) := by omega
        simp only [q3, g1, g2, decide_true, cond_true]
        exact ⟨⟨p1, plain_ints lp, plain_ints en, hcst, trivial⟩, hK⟩
      · simp only [e, cond_false] at hK
        exact ⟨⟨p1, plain_ints lp, plain_ints en, hcst, trivial⟩, hK⟩
end
/-- What is asked: a program, as many Loops and Ends. -/
noncomputable def con23 : Con := { f := 23, gh := [], paths := ptK, spec := fun args bs => match args, ckP bs with
  | [p], some (q, n, cl, rw, cp, ce, cst) => bif isPtr p 0 then some (q ∧ cl = insC (unIns cl) ∧ (unIns cl).length = n ∧ n < 1000000000 ∧ PlainL cst ∧ cp = ints (unI cp) ∧ (unI cp).length = n ∧ ce = ints (unI ce) ∧ (unI ce).length = n,
        [I (loopF (unIns cl) (n + 1) 0 [] (unI cp) (unI ce)).1], flK.zip (ckB n cl rw (ints (loopF (unIns cl) (n + 1) 0 [] (unI cp) (unI ce)).2.1) (ints (loopF (unIns cl) (n + 1) 0 [] (unI cp) (unI ce)).2.2) cst)) else none
  | _, _ => none }
set_option maxRecDepth 100000 in
theorem con23_ok : con23.ok Tryd.prog w0 := by
  intro args bs p rs out e hp
  simp only [con23] at e
  split at e <;> first | (simp at e; done) | skip
  rename_i p0 q n cl rw cp ce cst hck
  cases hq : isPtr p0 0 with
  | false => rw [hq] at e; simp at e
  | true =>
    rw [hq] at e
    simp only [cond_true, Option.some.injEq, Prod.mk.injEq] at e
    obtain ⟨e1, e2, e3⟩ := e
    subst e1 e2 e3
    obtain ⟨p1, p2, p3, p4, p6, p7, p8, p9, p10⟩ := hp
    rw [ckP_eq hck p1, isPtr_eq hq]
    generalize unIns cl = l at p2 p3 ⊢
    generalize unI cp = lp at p7 p8 ⊢
    generalize unI ce = en at p9 p10 ⊢
    subst p2 p3 p7 p9
    have hn : (heapB Tryd.prog.globals.size (ckB l.length (insC l) rw (ints lp) (ints en) cst)).next = Tryd.prog.globals.size + ntK.flags.length := by rw [heapB_next]; rfl
    change CallS Tryd.prog w0 23 [PT G] (heapB Tryd.prog.globals.size (ckB l.length (insC l) rw (ints lp) (ints en) cst)) fun rs' h' => rs' = [I (loopF l (l.length + 1) 0 [] lp en).1] ∧ h' = heapB Tryd.prog.globals.size (ckB l.length (insC l) rw (ints (loopF l (l.length + 1) 0 [] lp en).2.1) (ints (loopF l (l.length + 1) 0 [] lp en).2.2) cst)
    refine retT_call (nt := ntK) hn (call_sem (cd := Tryd.f23.body.getD .skip) Tryd.func23 (by kernel_rfl) ?_)
    rw [hn]
    refine seg_semI3 (F := ft23) mixed (callsOf_ok ok_none) leaf23 [3] 20 400 ((start23 l.length (insC l) rw (ints lp) (ints en) cst _ _).mpr ?_)
    exact ⟨⟨plain_insC l, plain_ints lp, plain_ints en, p6, by intro x hx; simp at hx, trivial⟩, loop23 p6 p4 (l.length + 1) 0 [] lp en (by omega) (by simp) (by simp) (by omega) p8 p10 ⟨rfl, rfl⟩⟩

theorem bifQ {α : Type} {P : α → Prop} {c : Bool} {x y : α} (h1 : c = true → P x) (h2 : c = false → P y) : P (bif c then x else y) := by
  cases c
  · exact h2 rfl
  · exact h1 rfl
theorem loopF_len (l : List Ins) : ∀ (f i : Nat) (os lp en : List Int), (loopF l f i os lp en).2.1.length = lp.length ∧ (loopF l f i os lp en).2.2.length = en.length := by
  intro f
  induction f with
  | zero => intro i os lp en; exact ⟨rfl, rfl⟩
  | succ f ih =>
    intro i os lp en
    rw [loopF]
    repeat' refine bifQ (P := fun r : Int × List Int × List Int => r.2.1.length = lp.length ∧ r.2.2.length = en.length) (fun _ => ?_) (fun _ => ?_)
    all_goals first
      | exact ⟨rfl, rfl⟩
      | exact ⟨List.length_set .., rfl⟩
      | (obtain ⟨a, b⟩ := ih (i + 1) (os ++ [(i : Int)]) (lp.set i (topF os)) en; exact ⟨by rw [a, List.length_set], b⟩)
      | (obtain ⟨a, b⟩ := ih (i + 1) (os.take (os.length - 1)) (lp.set i (topF os)) (en.set (topF os).toNat i); exact ⟨by rw [a, List.length_set], by rw [b, List.length_set]⟩)
      | (obtain ⟨a, b⟩ := ih (i + 1) os (lp.set i (topF os)) en; exact ⟨by rw [a, List.length_set], b⟩)

theorem getD_set {l : List Int} {i j : Nat} {x : Int} (h : i < l.length) : (l.set i x).getD j 0 = if i = j then x else l.getD j 0 := by
  rw [List.getD_eq_getElem?_getD, List.getD_eq_getElem?_getD, List.getElem?_set]
  split
  · rename_i e; subst e; simp
  · rfl
theorem topF_mem {os : List Int} (h : 0 < os.length) : topF os ∈ os := by
  have e : decide ((os.length : Int) > 0) = true := by simp only [decide_eq_true_eq]; omega
  unfold topF
  rw [e, cond_true, List.getD_eq_getElem?_getD, List.getElem?_eq_getElem (by omega)]
  exact List.getElem_mem _
theorem mem_take_top {os : List Int} {x : Int} (h : x ∈ os) : x ∈ os.take (os.length - 1) ∨ x = topF os := by
  have h0 : 0 < os.length := List.length_pos_of_mem h
  obtain ⟨k, hk, e⟩ := List.getElem_of_mem h
  by_cases hl : k < os.length - 1
  · exact .inl (by rw [← e]; exact List.mem_take_iff_getElem.mpr ⟨k, by omega, rfl⟩)
  · have hk' : k = os.length - 1 := by omega
    refine .inr ?_
    have e2 : decide ((os.length : Int) > 0) = true := by simp only [decide_eq_true_eq]; omega
    unfold topF
    rw [e2, cond_true, List.getD_eq_getElem?_getD, List.getElem?_eq_getElem (by omega), ← e]
    subst hk'; rfl

theorem loopF_ok (l : List Ins) : ∀ (f i : Nat) (os lp en : List Int), l.length - i < f → i ≤ l.length → lp.length = l.length → en.length = l.length → (∀ o ∈ os, 0 ≤ o ∧ o < (i : Int)) →
    (∀ k, k < i → -1 ≤ lp.getD k 0 ∧ lp.getD k 0 < (k : Int)) → (∀ j, (h : j < l.length) → j < i → l[j].op = 17 → (j : Int) ∈ os ∨ ((j : Int) + 1 ≤ en.getD j 0 ∧ en.getD j 0 ≤ (l.length : Int))) →
    (loopF l f i os lp en).1 = -1 → LpOk (loopF l f i os lp en).2.1 l.length ∧ EnOk l (loopF l f i os lp en).2.2 := by
  intro f
  induction f with
  | zero => intro i os lp en h1; omega
  | succ f ih =>
    intro i os lp en h1 h2 h3 h4 h5 h6 h7 hr
    rw [loopF] at hr ⊢
    by_cases hi : i < l.length
    · have hget : l.getD i insD = l[i] := by rw [List.getD_eq_getElem?_getD, List.getElem?_eq_getElem hi]; rfl
      simp only [hi, decide_true, cond_true, hget] at hr ⊢
      have hlp : ∀ k, k < i + 1 → -1 ≤ (lp.set i (topF os)).getD k 0 ∧ (lp.set i (topF os)).getD k 0 < (k : Int) := by
        intro k hk
        rw [getD_set (by omega)]
        split
        · rename_i e; subst e
          by_cases h0 : 0 < os.length
          · have := h5 _ (topF_mem h0); omega
          · have e0 : os = [] := List.eq_nil_of_length_eq_zero (by omega)
            subst e0
            exact ⟨by decide, by show (-1 : Int) < _; omega⟩
        · exact h6 k (by omega)
      have hos : ∀ o ∈ os, 0 ≤ o ∧ o < ((i + 1 : Nat) : Int) := fun o ho => by have := h5 o ho; omega
      cases o1 : l[i].op == 17 with
      | true =>
        rw [o1] at hr; simp only [cond_true] at hr ⊢
        cases m3 : (os.length : Int) == 3 with
        | true => rw [m3] at hr; simp only [cond_true] at hr; omega
        | false =>
          rw [m3] at hr; simp only [cond_false] at hr ⊢
          refine ih (i + 1) _ _ en (by omega) (by omega) (by rw [List.length_set]; exact h3) h4 (fun o ho => ?_) hlp (fun j hj hji hop => ?_) hr
          · rcases List.mem_append.mp ho with h | h
            · exact hos o h
            · simp at h; omega
          · by_cases hj' : j = i
            · subst hj'; exact .inl (List.mem_append_right _ (by simp))
            · rcases h7 j hj (by omega) hop with h | h
              · exact .inl (List.mem_append_left _ h)
              · exact .inr h
      | false =>
        rw [o1] at hr; simp only [cond_false] at hr ⊢
        have hne : ¬ l[i].op = 17 := by intro h; rw [h] at o1; simp at o1
        cases o2 : l[i].op == 18 with
        | true =>
          rw [o2] at hr; simp only [cond_true] at hr ⊢
          cases m3 : (os.length : Int) == 0 with
          | true => rw [m3] at hr; simp only [cond_true] at hr; omega
          | false =>
            rw [m3] at hr; simp only [cond_false] at hr ⊢
            have h0 : 0 < os.length := by
              have := beq_eq_false_iff_ne.mp m3
              omega
            have ht := h5 _ (topF_mem h0)
            refine ih (i + 1) _ _ _ (by omega) (by omega) (by rw [List.length_set]; exact h3) (by rw [List.length_set]; exact h4) (fun o ho => hos o (List.mem_of_mem_take ho)) hlp (fun j hj hji hop => ?_) hr
            by_cases hj' : j = i
            · subst hj'; exact absurd hop hne
            · rw [getD_set (by omega)]
              rcases h7 j hj (by omega) hop with h | h
              · rcases mem_take_top h with h | h
                · exact .inl h
                · refine .inr ?_
                  rw [if_pos (by omega)]
                  omega
              · refine .inr ?_
                split
                · omega
                · exact h
        | false =>
          rw [o2] at hr; simp only [cond_false] at hr ⊢
          refine ih (i + 1) _ _ en (by omega) (by omega) (by rw [List.length_set]; exact h3) h4 hos hlp (fun j hj hji hop => ?_) hr
          by_cases hj' : j = i
          · subst hj'; exact absurd hop hne
          · exact h7 j hj (by omega) hop
    · simp only [hi, decide_false, cond_false] at hr ⊢
      have hil : i = l.length := by omega
      cases e : decide ((os.length : Int) > 0) with
      | true =>
        rw [e, cond_true] at hr
        have h0 : 0 < os.length := by simp only [decide_eq_true_eq] at e; omega
        have := h5 (os.getD 0 0) (by rw [List.getD_eq_getElem?_getD, List.getElem?_eq_getElem h0]; exact List.getElem_mem _)
        omega
      | false =>
        have e0 : os = [] := List.eq_nil_of_length_eq_zero (by simp only [decide_eq_false_iff_not] at e; omega)
        subst e0
        exact ⟨⟨h3, fun k hk => (h6 k (by omega)).1, fun k hk => (h6 k (by omega)).2⟩, fun j hj hop => by
          rcases h7 j hj (by omega) hop with h | h
          · simp at h
          · exact h⟩
end Go.Proofs.YtadaindmgmielaaDoor
