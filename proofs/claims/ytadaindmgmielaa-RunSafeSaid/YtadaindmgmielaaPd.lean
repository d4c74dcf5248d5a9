/- Words for the contracts of the machine's functions. No condition. -/
import Derived.Test.YtadaindmgmielaaPa
import Derived.Shelf.Strings.Repeat
import Derived.Shelf.Small.Strs
import Derived.Test.YtadaindmgmielaaPb
namespace Go.Proofs.Ytadaindmgmielaa
open Go.Agm
variable {w0 : World}

def rg (rs : List Int) (i : Nat) : Int := rs.getD i 0
/-- A machine of a run. -/
structure Mc where
  l : List Ins
  pg : ByteArray
  ky : ByteArray
  sc : List UInt8
  rs : List Int
  pc : Int
  lo : List (Int × Int)
  code : Int
  val : ByteArray
  nx : Int
  st : Int
  en : Bool
def bytC (l : List UInt8) : List Value := l.map fun b => .int .u8 b.toNat
def byt1 (v : Value) : UInt8 := match v with
  | .int _ n => UInt8.ofNat n.toNat
  | _ => 0
def unB (cs : List Value) : List UInt8 := cs.map byt1
theorem unB_bytC (l : List UInt8) : unB (bytC l) = l := by
  unfold unB bytC
  rw [List.map_map]
  conv => rhs; rw [← List.map_id l]
  refine List.map_congr_left fun b _ => ?_
  simp [byt1, Function.comp]
def loC : List (Int × Int) → List Value
  | [] => []
  | (a, b) :: r => I a :: I b :: loC r
def unL : List Value → List (Int × Int)
  | a :: b :: r => (int1 a, int1 b) :: unL r
  | _ => []
theorem unL_loC : ∀ l : List (Int × Int), unL (loC l) = l
  | [] => rfl
  | (a, b) :: r => by simp only [loC, unL, unL_loC r, int1]
theorem loC_len : ∀ l : List (Int × Int), (loC l).length = 2 * l.length
  | [] => rfl
  | (a, b) :: r => by simp only [loC, List.length_cons, loC_len r]; omega
theorem bytC_len (l : List UInt8) : (bytC l).length = l.length := List.length_map _
theorem plain_bytC (l : List UInt8) : PlainL (bytC l) := by
  intro x hx
  obtain ⟨b, _, rfl⟩ := List.mem_map.1 hx
  rfl
theorem plain_loC : ∀ l : List (Int × Int), PlainL (loC l)
  | [] => by intro x hx; simp [loC] at hx
  | (a, b) :: r => by
    intro x hx
    simp only [loC, List.mem_cons] at hx
    rcases hx with rfl | rfl | hx
    · rfl
    · rfl
    · exact plain_loC r x hx

/-- A machine's cells. -/
noncomputable abbrev mcR (n : Nat) (pg ky : ByteArray) (rs : List Int) (pc : Int) (m : Nat) (code : Int) (val : ByteArray) (nx st : Int) (en : Bool) : List Value :=
  [SL (G + 1) n 4, .string pg, .string ky, PT (G + 2), I (rg rs 0), I (rg rs 1), I (rg rs 2), I (rg rs 3), I (rg rs 4), I (rg rs 5), I (rg rs 6), I (rg rs 7), I pc, SL (G + 3) m 2, I code, .string val, I nx, I st, B en]
/-- Its blocks: itself, the program, the scratch, the loops that are under way. -/
noncomputable def mcK (n : Nat) (cl : List Value) (rw : Bool) (pg ky : ByteArray) (cs : List Value) (rs : List Int) (pc : Int) (m : Nat) (lc : List Value) (code : Int) (val : ByteArray) (nx st : Int) (en : Bool) : List (Option ABlk) :=
  [some (.cells (mcR n pg ky rs pc m code val nx st en) true), some (.cells cl rw), some (.cells cs true), some (.cells lc true)]
noncomputable def mcB (rw : Bool) (M : Mc) : List (Option ABlk) := mcK M.l.length (insC M.l) rw M.pg M.ky (bytC M.sc) M.rs M.pc M.lo.length (loC M.lo) M.code M.val M.nx M.st M.en
/-- A machine's blocks, as they lie. -/
structure Rw where
  n : Nat
  m : Nat
  wr : Bool
  pg : ByteArray
  ky : ByteArray
  val : ByteArray
  rs : List Int
  pc : Int
  code : Int
  nx : Int
  st : Int
  en : Bool
  cl : List Value
  cs : List Value
  lc : List Value
noncomputable def Rw.bs (R : Rw) : List (Option ABlk) := mcK R.n R.cl R.wr R.pg R.ky R.cs R.rs R.pc R.m R.lc R.code R.val R.nx R.st R.en
def Rw.mc (R : Rw) : Mc := { l := unIns R.cl, pg := R.pg, ky := R.ky, sc := unB R.cs, rs := R.rs, pc := R.pc, lo := unL R.lc, code := R.code, val := R.val, nx := R.nx, st := R.st, en := R.en }
def Rw.fit (R : Rw) : Prop := R.cl = insC (unIns R.cl) ∧ (unIns R.cl).length = R.n ∧ R.cs = bytC (unB R.cs) ∧ R.lc = loC (unL R.lc) ∧ (unL R.lc).length = R.m
def rawM (wr : Bool) (M : Mc) : Rw := { n := M.l.length, m := M.lo.length, wr := wr, pg := M.pg, ky := M.ky, val := M.val, rs := M.rs, pc := M.pc, code := M.code, nx := M.nx, st := M.st, en := M.en, cl := insC M.l, cs := bytC M.sc, lc := loC M.lo }
theorem raw_mc (wr : Bool) (M : Mc) : (rawM wr M).mc = M := by
  unfold rawM Rw.mc
  simp only [unIns_insC, unB_bytC, unL_loC]
theorem raw_bs (wr : Bool) (M : Mc) : (rawM wr M).bs = mcB wr M := rfl
theorem fit_raw {R : Rw} (h : R.fit) : R = rawM R.wr R.mc := by
  obtain ⟨h1, h2, h3, h4, h5⟩ := h
  unfold rawM Rw.mc
  simp only
  rw [← h1, ← h3, ← h4, h2, h5]
theorem raw_fit (wr : Bool) (M : Mc) : (rawM wr M).fit := by
  unfold rawM Rw.fit
  simp only [unIns_insC, unB_bytC, unL_loC, and_self]
noncomputable def mcP (bs : List (Option ABlk)) : Option Rw := match bs with
  | [some (.cells [a, .string pg, .string ky, p, c0, c1, c2, c3, c4, c5, c6, c7, pc, lo, cd, .string val, nx, st, .bool en] true), some (.cells cl rw), some (.cells cs true), some (.cells lc true)] =>
    match slN a 1 4, slN lo 3 2, intsV [c0, c1, c2, c3, c4, c5, c6, c7], intV pc, intV cd, intV nx, intV st with
    | some n, some m, some rs, some pc, some cd, some nx, some st => bif isPtr p 2 then
        some { n := n, m := m, wr := rw, pg := pg, ky := ky, val := val, rs := rs, pc := pc, code := cd, nx := nx, st := st, en := en, cl := cl, cs := cs, lc := lc } else none
    | _, _, _, _, _, _, _ => none
  | _ => none
theorem intsV_len : ∀ {vs : List Value} {l : List Int}, intsV vs = some l → l.length = vs.length
  | vs, l, e => by rw [intsV_eq e, List.length_map]
theorem rs8 {rs : List Int} (h : rs.length = 8) : rs = [rg rs 0, rg rs 1, rg rs 2, rg rs 3, rg rs 4, rg rs 5, rg rs 6, rg rs 7] := by
  match rs, h with
  | [a, b, c, d, e, f, g, i], _ => rfl
theorem mcP_eq {bs : List (Option ABlk)} {R : Rw} (e : mcP bs = some R) : bs = R.bs ∧ R.rs.length = 8 := by
  unfold mcP at e
  split at e
  · rename_i a pg ky pp c0 c1 c2 c3 c4 c5 c6 c7 pc lo cd val nx st en cl rw' cs lc
    split at e
    · rename_i n m rs pc' cd' nx' st' h1 h2 h3 h4 h5 h6 h7
      cases hq : isPtr pp 2 with
      | false => rw [hq] at e; simp at e
      | true =>
        rw [hq] at e
        simp only [cond_true, Option.some.injEq] at e
        subst e
        have hl := intsV_len h3
        have he := intsV_eq h3
        have h8 := rs8 hl
        rw [h8] at he
        simp only [List.map_cons, List.map_nil, List.cons.injEq, and_true] at he
        obtain ⟨rfl, rfl, rfl, rfl, rfl, rfl, rfl, rfl⟩ := he
        refine ⟨?_, hl⟩
        unfold Rw.bs mcK
        simp only
        rw [slN_eq h1, slN_eq h2, isPtr_eq hq, intV_eq h4, intV_eq h5, intV_eq h6, intV_eq h7]
    · simp at e
  · simp at e
abbrev ptM : List Pth := [⟨0, [], false⟩, ⟨0, [0], true⟩, ⟨0, [3], true⟩, ⟨0, [13], true⟩]
abbrev ghM : List Gh := [⟨0, some ([], 13), 2⟩]
abbrev flM : List Bool := [false, true, true, true]
abbrev ntM : Nt := { gh := [], flags := flM, paths := [], tr := [] }
abbrev evM (fn : Func) (cs : List Con) (args : List Value) (bs : List (Option ABlk)) (K : List Value → AHeap → Prop) : Prop := evSeg fn cs ntM args bs K
/-- A method of the machine's: what it answers, what the machine is behind it. -/
noncomputable def mCon (f : Nat) (args : List Value → Option (List Int)) (ok : Rw → List Int → Prop) (ans : Rw → List Int → List Value) (out : Rw → List Int → Rw) : Con :=
  { f := f, gh := ghM, paths := ptM, spec := fun vs bs => match vs with
    | p :: vs => match args vs, mcP bs with
      | some xs, some R => bif isPtr p 0 then some (R.fit ∧ ok R xs, ans R xs, flM.zip (out R xs).bs) else none
      | _, _ => none
    | _ => none }
theorem zip_snd {α β : Type} : ∀ {a : List α} {b : List β}, a.length = b.length → (a.zip b).map (·.2) = b
  | [], [], _ => rfl
  | _ :: a, _ :: b, h => by
    rw [List.zip_cons_cons, List.map_cons, zip_snd (by simpa using h)]
theorem mCon_ok {f : Nat} {args : List Value → Option (List Int)} {ok : Rw → List Int → Prop} {ans : Rw → List Int → List Value} {out : Rw → List Int → Rw}
    (h : ∀ (vs : List Value) (xs : List Int) (wr : Bool) (M : Mc), args vs = some xs → M.rs.length = 8 → ok (rawM wr M) xs →
      CallS Try.prog w0 f (PT G :: vs) (heapB Try.prog.globals.size (mcB wr M)) fun rs' h' => rs' = ans (rawM wr M) xs ∧ h' = heapB Try.prog.globals.size (out (rawM wr M) xs).bs) :
    (mCon f args ok ans out).ok Try.prog w0 := by
  intro vs bs p rs o e hp
  simp only [mCon] at e
  split at e <;> first | (simp at e; done) | skip
  rename_i p0 vs1
  split at e <;> first | (simp at e; done) | skip
  rename_i xs R hx hm
  cases hq : isPtr p0 0 with
  | false => rw [hq] at e; simp at e
  | true =>
    rw [hq] at e
    simp only [cond_true, Option.some.injEq, Prod.mk.injEq] at e
    obtain ⟨rfl, rfl, rfl⟩ := e
    obtain ⟨hp1, hp2⟩ := hp
    obtain ⟨rfl, h8⟩ := mcP_eq hm
    rw [isPtr_eq hq]
    have hr := fit_raw hp1
    have hz : ∀ R : Rw, (flM.zip R.bs).map (·.2) = R.bs := fun R => zip_snd rfl
    rw [hz]
    have := h vs1 xs R.wr R.mc hx (by exact h8) (by rw [← hr]; exact hp2)
    rw [← hr, ← raw_bs, ← hr] at this
    exact this

theorem ev_mc {f : Nat} {fn : Func} {cs : List Con} {args : List Value} {rw : Bool} {M : Mc} {K : List Value → AHeap → Prop} (hfn : Try.prog.funcs[f]? = some fn) (hcd : fn.body = some (fn.body.getD .skip)) (hcs : ∀ c ∈ cs, c.ok Try.prog w0)
    (h : evM fn cs args (mcB rw M) K) : CallS Try.prog w0 f args (heapB Try.prog.globals.size (mcB rw M)) K :=
  ev_callS (nt := ntM) hfn hcd hcs rfl h

/-! Registers. -/
variable {n m : Nat} {pg ky val : ByteArray} {rs : List Int} {pc code nx st : Int} {en : Bool}
theorem mc_rd {d : Int} (h1 : 0 ≤ d) (h2 : d < 8) : okI .i64 (nth (mcR n pg ky rs pc m code val nx st en) (4 + d.toNat * 1)) = true ∧ intO (nth (mcR n pg ky rs pc m code val nx st en) (4 + d.toNat * 1)) = rg rs d.toNat := by
  obtain ⟨k, rfl⟩ := Int.eq_ofNat_of_zero_le h1
  rw [Int.toNat_natCast]
  have hk : k < 8 := by omega
  rcases k with _ | _ | _ | _ | _ | _ | _ | _ | k <;> first | exact ⟨rfl, rfl⟩ | (exfalso; omega)
theorem mc_wr {d v : Int} (h1 : 0 ≤ d) (h2 : d < 8) (h8 : rs.length = 8) : splice (mcR n pg ky rs pc m code val nx st en) (4 + d.toNat * 1) [I v] = mcR n pg ky (rs.set d.toNat v) pc m code val nx st en := by
  obtain ⟨k, rfl⟩ := Int.eq_ofNat_of_zero_le h1
  rw [Int.toNat_natCast]
  have hk : k < 8 := by omega
  match rs, h8 with
  | [a, b, c, d, e, f, g, i], _ =>
    rcases k with _ | _ | _ | _ | _ | _ | _ | _ | k <;> first | rfl | (exfalso; omega)

section
variable (n m : Nat) (pg ky val : ByteArray) (r0 r1 r2 r3 r4 r5 r6 r7 pc code nx st : Int) (en : Bool) (rw : Bool) (cl cs lc : List Value) (op s imm : Int) (K : List Value → AHeap → Prop)
abbrev PL3 (cl cs lc : List Value) : Prop := PlainL cl ∧ PlainL cs ∧ PlainL lc ∧ True
abbrev TTT : Prop := True ∧ True ∧ True
theorem eval30 (d : Nat) (hd : d < 8) : evM Try.f15 [con28, con14, con52] [PT G, AG [I op, I d, I s, I imm]] (mcK n cl rw pg ky cs [r0, r1, r2, r3, r4, r5, r6, r7] pc m lc code val nx st en) K
    = (bif op == 0 then PL3 cl cs lc ∧ K [B true] (heapB G (mcK n cl rw pg ky cs ([r0, r1, r2, r3, r4, r5, r6, r7].set d imm) pc m lc code val nx st en)) else
      bif op == 1 then bif decide (0 ≤ s) && decide (s < 8) then bif okI .i64 (nth (mcR n pg ky [r0, r1, r2, r3, r4, r5, r6, r7] pc m code val nx st en) (4 + s.toNat * 1)) then
        PL3 cl cs lc ∧ K [B true] (heapB G (mcK n cl rw pg ky cs ([r0, r1, r2, r3, r4, r5, r6, r7].set d (intO (nth (mcR n pg ky [r0, r1, r2, r3, r4, r5, r6, r7] pc m code val nx st en) (4 + s.toNat * 1)))) pc m lc code val nx st en)) else False else False else
      bif op == 2 then bif decide (0 ≤ s) && decide (s < 8) then bif okI .i64 (nth (mcR n pg ky [r0, r1, r2, r3, r4, r5, r6, r7] pc m code val nx st en) (4 + s.toNat * 1)) then
        TTT ∧ PL3 cl cs lc ∧ K [B true] (heapB G (mcK n cl rw pg ky cs ([r0, r1, r2, r3, r4, r5, r6, r7].set d (r28 (w (rg [r0, r1, r2, r3, r4, r5, r6, r7] d + intO (nth (mcR n pg ky [r0, r1, r2, r3, r4, r5, r6, r7] pc m code val nx st en) (4 + s.toNat * 1)))))) pc m lc code val nx st en)) else False else False else
      bif op == 3 then bif decide (0 ≤ s) && decide (s < 8) then bif okI .i64 (nth (mcR n pg ky [r0, r1, r2, r3, r4, r5, r6, r7] pc m code val nx st en) (4 + s.toNat * 1)) then
        TTT ∧ PL3 cl cs lc ∧ K [B true] (heapB G (mcK n cl rw pg ky cs ([r0, r1, r2, r3, r4, r5, r6, r7].set d (r28 (w (rg [r0, r1, r2, r3, r4, r5, r6, r7] d - intO (nth (mcR n pg ky [r0, r1, r2, r3, r4, r5, r6, r7] pc m code val nx st en) (4 + s.toNat * 1)))))) pc m lc code val nx st en)) else False else False else
      bif op == 4 then TTT ∧ PL3 cl cs lc ∧ K [B true] (heapB G (mcK n cl rw pg ky cs ([r0, r1, r2, r3, r4, r5, r6, r7].set d (r28 (w (rg [r0, r1, r2, r3, r4, r5, r6, r7] d + imm)))) pc m lc code val nx st en)) else
      bif op == 5 then TTT ∧ bif imm == imm && true then TTT ∧ PL3 cl cs lc ∧ K [B true] (heapB G (mcK n cl rw pg ky cs ([r0, r1, r2, r3, r4, r5, r6, r7].set d (r52b (r14b (rg [r0, r1, r2, r3, r4, r5, r6, r7] d)) (r14c (rg [r0, r1, r2, r3, r4, r5, r6, r7] d)) imm)) pc m lc code val nx st en)) else False else
      bif op == 6 then PL3 cl cs lc ∧ K [B true] (heapB G (mcK n cl rw pg ky cs ([r0, r1, r2, r3, r4, r5, r6, r7].set d (r69b (rg [r0, r1, r2, r3, r4, r5, r6, r7] d) 0 imm)) pc m lc code val nx st en)) else
      PL3 cl cs lc ∧ K [B false] (heapB G (mcK n cl rw pg ky cs [r0, r1, r2, r3, r4, r5, r6, r7] pc m lc code val nx st en))) := by
  rcases d with _ | _ | _ | _ | _ | _ | _ | _ | d
  case succ.succ.succ.succ.succ.succ.succ.succ => exfalso; omega
  all_goals kernel_rfl
end
/-- What an instruction that reckons writes. -/
def numV (rs : List Int) (op : Int) (d s : Nat) (imm : Int) : Int :=
  bif op == 0 then imm else bif op == 1 then rg rs s else bif op == 2 then r28 (w (rg rs d + rg rs s)) else bif op == 3 then r28 (w (rg rs d - rg rs s)) else
  bif op == 4 then r28 (w (rg rs d + imm)) else bif op == 5 then r52b (r14b (rg rs d)) (r14c (rg rs d)) imm else r69b (rg rs d) 0 imm
def isNum (op : Int) : Bool := op == 0 || op == 1 || op == 2 || op == 3 || op == 4 || op == 5 || op == 6
def numR (rs : List Int) (op : Int) (d s : Nat) (imm : Int) : List Int := bif isNum op then rs.set d (numV rs op d s imm) else rs
def insV : List Value → Option (List Int)
  | [v] => match aggV v with
    | some [a, b, c, d] => some [a, b, c, d]
    | _ => none
  | _ => none
theorem insV_eq {vs : List Value} {xs : List Int} (e : insV vs = some xs) : ∃ a b c d, vs = [AG [I a, I b, I c, I d]] ∧ xs = [a, b, c, d] := by
  unfold insV at e
  split at e
  · rename_i v
    split at e
    · rename_i a b c d h
      simp only [Option.some.injEq] at e
      exact ⟨a, b, c, d, by rw [aggV_eq h]; rfl, e.symm⟩
    · simp at e
  · simp at e
def ix4 (xs : List Int) (i : Nat) : Int := xs.getD i 0
noncomputable def con30 : Con := mCon 15 insV (fun _ xs => 0 ≤ ix4 xs 1 ∧ ix4 xs 1 < 8 ∧ 0 ≤ ix4 xs 2 ∧ ix4 xs 2 < 8) (fun _ xs => [B (isNum (ix4 xs 0))])
  (fun R xs => { R with rs := numR R.rs (ix4 xs 0) (ix4 xs 1).toNat (ix4 xs 2).toNat (ix4 xs 3) })
theorem plain_mc (M : Mc) : PL3 (insC M.l) (bytC M.sc) (loC M.lo) := ⟨plain_insC _, plain_bytC _, plain_loC _, trivial⟩
theorem split8 {rs : List Int} (h : rs.length = 8) : ∃ r0 r1 r2 r3 r4 r5 r6 r7, rs = [r0, r1, r2, r3, r4, r5, r6, r7] := ⟨_, _, _, _, _, _, _, _, rs8 h⟩
set_option maxRecDepth 100000 in
set_option maxHeartbeats 4000000 in
theorem con30_ok : con30.ok Try.prog w0 := mCon_ok fun vs xs rw M e h8 ⟨a1, a2, a3, a4⟩ => by
  obtain ⟨op, d, s, imm, rfl, rfl⟩ := insV_eq e
  simp only [ix4, List.getD_cons_zero, List.getD_cons_succ] at a1 a2 a3 a4 ⊢
  obtain ⟨l, pg, ky, sc, rs, pc, lo, code, val, nx, st, en⟩ := M
  obtain ⟨r0, r1, r2, r3, r4, r5, r6, r7, rfl⟩ := split8 h8
  obtain ⟨d, rfl⟩ := Int.eq_ofNat_of_zero_le a1
  obtain ⟨s, rfl⟩ := Int.eq_ofNat_of_zero_le a3
  obtain ⟨q1, q2⟩ := mc_rd (n := l.length) (m := lo.length) (pg := pg) (ky := ky) (val := val) (rs := [r0, r1, r2, r3, r4, r5, r6, r7]) (pc := pc) (code := code) (nx := nx) (st := st) (en := en) a3 a4
  rw [Int.toNat_natCast] at q1 q2
  have hp : PL3 (insC l) (bytC sc) (loC lo) := ⟨plain_insC _, plain_bytC _, plain_loC _, trivial⟩
  refine ev_mc (cs := [con28, con14, con52]) Try.func15 (by kernel_rfl) (fun c hc => by
    simp only [List.mem_cons, List.not_mem_nil, or_false] at hc
    rcases hc with rfl | rfl | rfl
    · exact con28_ok
    · exact con14_ok
    · exact con52_ok) ((eval30 l.length lo.length pg ky val r0 r1 r2 r3 r4 r5 r6 r7 pc code nx st en rw (insC l) (bytC sc) (loC lo) op s imm _ d (by omega)).mpr ?_)
  simp only [a3, a4, q1, q2, decide_true, Bool.and_self, cond_true, Int.toNat_natCast, beq_self_eq_true]
  unfold numR isNum numV
  refine bifP (fun h => ?_) (fun h0 => ?_)
  · simp only [h, Bool.true_or, cond_true]; exact ⟨hp, by trivial, rfl⟩
  refine bifP (fun h => ?_) (fun h1 => ?_)
  · simp only [h, h0, Bool.true_or, Bool.or_true, cond_true, cond_false]; exact ⟨hp, by trivial, rfl⟩
  refine bifP (fun h => ?_) (fun h2 => ?_)
  · simp only [h, h0, h1, Bool.true_or, Bool.or_true, cond_true, cond_false]; exact ⟨⟨trivial, trivial, trivial⟩, hp, by trivial, rfl⟩
  refine bifP (fun h => ?_) (fun h3 => ?_)
  · simp only [h, h0, h1, h2, Bool.true_or, Bool.or_true, cond_true, cond_false]; exact ⟨⟨trivial, trivial, trivial⟩, hp, by trivial, rfl⟩
  refine bifP (fun h => ?_) (fun h4 => ?_)
  · simp only [h, h0, h1, h2, h3, Bool.true_or, Bool.or_true, cond_true, cond_false]; exact ⟨⟨trivial, trivial, trivial⟩, hp, by trivial, rfl⟩
  refine bifP (fun h => ?_) (fun h5 => ?_)
  · simp only [h, h0, h1, h2, h3, h4, Bool.true_or, Bool.or_true, cond_true, cond_false]; exact ⟨⟨trivial, trivial, trivial⟩, ⟨trivial, trivial, trivial⟩, hp, by trivial, rfl⟩
  refine bifP (fun h => ?_) (fun h6 => ?_)
  · simp only [h, h0, h1, h2, h3, h4, h5, Bool.or_true, cond_true, cond_false]; exact ⟨hp, by trivial, rfl⟩
  simp only [h0, h1, h2, h3, h4, h5, h6, Bool.or_self, cond_false]; exact ⟨hp, by trivial, rfl⟩

open Go.Agm Go.Shelf
/-- The numbers. -/
def ren105 : Ren where
  f
    | 105 => 50
    | 212 => 65
    | 99 => 66
    | 165 => 67
    | 166 => 38
    | 170 => 68
    | 169 => 40
    | 263 => 74
    | 264 => 75
    | 206 => 76
    | 240 => 55
    | 241 => 77
    | 276 => 71
    | 277 => 80
    | n => n
  t
    | 9 => 9
    | 3 => 3
    | 4 => 4
    | 20 => 20
    | 0 => 0
    | 46 => 119
    | 109 => 120
    | 5 => 5
    | 72 => 96
    | 76 => 97
    | 51 => 126
    | 146 => 127
    | 53 => 129
    | 148 => 130
    | 70 => 94
    | 37 => 64
    | 75 => 34
    | 127 => 113
    | 164 => 123
    | 80 => 100
    | n => n
  g n := n

theorem lays105 : Lays.n105 Try.prog ren105 where
  mixed := mixed
  f99 := by kernel_rfl
  f105 := by kernel_rfl
  f165 := by kernel_rfl
  f166 := by kernel_rfl
  f169 := by kernel_rfl
  f170 := by kernel_rfl
  f206 := by kernel_rfl
  f212 := by kernel_rfl
  f240 := by kernel_rfl
  f241 := by kernel_rfl
  f263 := by kernel_rfl
  f264 := by kernel_rfl
  f276 := by kernel_rfl
  f277 := by kernel_rfl
  t0 := Try.underlying0
  a0 := Try.isAgg0
  z0 := Try.sizeOf0
  v0 := Try.zeroValue0
  t3 := Try.underlying3
  a3 := Try.isAgg3
  z3 := Try.sizeOf3
  v3 := Try.zeroValue3
  t4 := Try.underlying4
  a4 := Try.isAgg4
  z4 := Try.sizeOf4
  v4 := Try.zeroValue4
  t5 := Try.underlying5
  a5 := Try.isAgg5
  z5 := Try.sizeOf5
  v5 := Try.zeroValue5
  t9 := Try.underlying9
  a9 := Try.isAgg9
  z9 := Try.sizeOf9
  v9 := Try.zeroValue9
  t20 := Try.underlying20
  a20 := Try.isAgg20
  z20 := Try.sizeOf20
  v20 := Try.zeroValue20
  t37 := Try.underlying64
  a37 := Try.isAgg64
  z37 := Try.sizeOf64
  v37 := Try.zeroValue64
  t46 := Try.underlying119
  a46 := Try.isAgg119
  z46 := Try.sizeOf119
  v46 := Try.zeroValue119
  t51 := Try.underlying126
  a51 := Try.isAgg126
  z51 := Try.sizeOf126
  v51 := Try.zeroValue126
  t53 := Try.underlying129
  a53 := Try.isAgg129
  z53 := Try.sizeOf129
  v53 := Try.zeroValue129
  t70 := Try.underlying94
  a70 := Try.isAgg94
  z70 := Try.sizeOf94
  v70 := Try.zeroValue94
  t72 := Try.underlying96
  a72 := Try.isAgg96
  z72 := Try.sizeOf96
  v72 := Try.zeroValue96
  t75 := Try.underlying34
  a75 := Try.isAgg34
  z75 := Try.sizeOf34
  v75 := Try.zeroValue34
  t76 := Try.underlying97
  a76 := Try.isAgg97
  z76 := Try.sizeOf97
  v76 := Try.zeroValue97
  t109 := Try.underlying120
  a109 := Try.isAgg120
  z109 := Try.sizeOf120
  v109 := Try.zeroValue120
  t127 := Try.underlying113
  a127 := Try.isAgg113
  z127 := Try.sizeOf113
  v127 := Try.zeroValue113
  t146 := Try.underlying127
  a146 := Try.isAgg127
  z146 := Try.sizeOf127
  v146 := Try.zeroValue127
  t148 := Try.underlying130
  a148 := Try.isAgg130
  z148 := Try.sizeOf130
  v148 := Try.zeroValue130
  t164 := Try.underlying123
  a164 := Try.isAgg123
  z164 := Try.sizeOf123
  v164 := Try.zeroValue123

theorem extra105 : Builder.Extra Try.prog ren105 where
  sizeBuilder := by kernel_rfl
  liesBuilder := by kernel_rfl
  t5 := Try.underlying5
  a5 := Try.isAgg5
  z5 := Try.sizeOf5
  v5 := Try.zeroValue5
  infoByte := by kernel_rfl
  cellsByte := by kernel_rfl
  sizeByte := by kernel_rfl
  neB5 := by decide

/-- The numbers. -/
def ren106 : Ren where
  f
    | 106 => 54
    | 213 => 70
    | 265 => 78
    | n => n
  t
    | 9 => 9
    | 3 => 3
    | n => n
  g n := n

theorem lays106 : Lays.n106 Try.prog ren106 where
  mixed := mixed
  f106 := by kernel_rfl
  f213 := by kernel_rfl
  f265 := by kernel_rfl
  t3 := Try.underlying3
  a3 := Try.isAgg3
  z3 := Try.sizeOf3
  v3 := Try.zeroValue3
  t9 := Try.underlying9
  a9 := Try.isAgg9
  z9 := Try.sizeOf9
  v9 := Try.zeroValue9
/-! Functions of the library's, as contracts. -/
theorem ext_callS {f : Nat} {args : List Value} {v : Value} {h : AHeap} (ha : ∀ x ∈ args, plainD 5 x = true) (hv : plainD 5 v = true)
    (hc : ∀ w : World, Calls Try.prog f args.toArray w fun e w' => e = .returned v ∧ RowKit.Below w.heap.size w w') :
    CallS Try.prog w0 f args h fun rs h' => rs = [v] ∧ h' = h := by
  intro m E w args' hr hl _
  rw [hl.plain 5 ha]
  refine (hc w).mono ?_
  rintro e w' ⟨rfl, hb⟩
  have he : Ext w w' := ⟨hb.os, hb.tape, hb.output, hb.size, hb.block⟩
  exact ⟨[v], h, v, m, ⟨rfl, rfl⟩, rfl, fun _ _ hx => hx, hr.grow he, he.keep hr.ext, V.of_plain 5 hv⟩
/-- strings.Compare. -/
def cmpS (a b : ByteArray) : Int := Lib.compareBytes a.data.toList b.data.toList
noncomputable def con82 : Con := { f := 54, gh := [], paths := [], spec := fun args bs => match args, bs with
  | [.string a, .string b], [] => some (True, [I (cmpS a b)], [])
  | _, _ => none }
theorem con82_ok : con82.ok Try.prog w0 := by
  intro args bs p rs out e _
  simp only [con82] at e
  split at e <;> first | (simp at e; done) | skip
  rename_i a b
  simp only [Option.some.injEq, Prod.mk.injEq] at e
  obtain ⟨rfl, rfl, rfl⟩ := e
  refine ext_callS (fun x hx => ?_) rfl fun w => (Any.strings_Compare lays106 a b w).mono ?_
  · simp only [List.mem_cons, List.not_mem_nil, or_false] at hx
    rcases hx with rfl | rfl <;> rfl
  · rintro e w' ⟨rfl, rfl⟩
    exact ⟨rfl, RowKit.Below.refl _ _⟩
/-- strings.Repeat, few times. -/
def repS (s : ByteArray) (c : Int) : ByteArray := ⟨(Lib.repeatL s.data.toList c.toNat).toArray⟩
noncomputable def con78 : Con := { f := 50, gh := [], paths := [], spec := fun args bs => match args, bs with
  | [.string s, n], [] => match intV n with
    | some c => some (0 ≤ c ∧ c ≤ 1000 ∧ s.size ≤ 1000, [.string (repS s c)], [])
    | none => none
  | _, _ => none }
theorem con78_ok : con78.ok Try.prog w0 := by
  intro args bs p rs out e hp
  simp only [con78] at e
  split at e <;> first | (simp at e; done) | skip
  split at e <;> first | (simp at e; done) | skip
  rename_i s n _ c hn
  simp only [Option.some.injEq, Prod.mk.injEq] at e
  obtain ⟨rfl, rfl, rfl⟩ := e
  obtain ⟨h1, h2, h3⟩ := hp
  rw [intV_eq hn]
  obtain ⟨k, rfl⟩ := Int.eq_ofNat_of_zero_le h1
  refine ext_callS (fun x hx => ?_) rfl fun w => (Any.strings_Repeat lays105 extra105 s k w (by omega) ?_).mono ?_
  · simp only [List.mem_cons, List.not_mem_nil, or_false] at hx
    rcases hx with rfl | rfl <;> rfl
  · have := Nat.mul_le_mul h3 (show k ≤ 1000 by omega)
    omega
  · rintro e w' ⟨rfl, hb⟩
    exact ⟨rfl, hb⟩
/-- Bytes of a text from a place on. -/
def r79b (s : ByteArray) (a n : Int) : Bool := bif decide (a < 0) then false else bif decide (n < 0) then false else bif decide (n > (s.size : Int)) then false else !decide (a > w ((s.size : Int) - n))
def r79a (s : ByteArray) (a n : Int) : ByteArray := bif r79b s a n then s.extract a.toNat (w (a + n)).toNat else ⟨#[]⟩
theorem eval79 (s : ByteArray) (a n : Int) (r : List Value) : pureSeg [] Try.f51 [.string s, I a, I n] r
    = (bif decide (a < 0) then True ∧ [.string ⟨#[]⟩, B false] = r else bif decide (n < 0) then True ∧ [.string ⟨#[]⟩, B false] = r else bif decide (n > (s.size : Int)) then True ∧ [.string ⟨#[]⟩, B false] = r else
      bif decide (a > w ((s.size : Int) - n)) then True ∧ [.string ⟨#[]⟩, B false] = r else
      bif decide (0 ≤ w (a + n)) && decide (w (a + n) ≤ (s.size : Int)) && decide (0 ≤ a) && decide (a ≤ w (a + n)) then True ∧ [.string (s.extract a.toNat (w (a + n)).toNat), B true] = r else False) := by kernel_rfl
noncomputable def con79 : Con := { f := 51, gh := [], paths := [], spec := fun args bs => match args, bs with
  | [.string s, va, vn], [] => match intV va, intV vn with
    | some a, some n => some (s.size ≤ 1000000000, [.string (r79a s a n), B (r79b s a n)], [])
    | _, _ => none
  | _, _ => none }
theorem con79_ok : con79.ok Try.prog w0 := by
  intro args bs p rs out e hp
  simp only [con79] at e
  split at e <;> first | (simp at e; done) | skip
  split at e <;> first | (simp at e; done) | skip
  rename_i s va vn _ _ a n ha hn
  simp only [Option.some.injEq, Prod.mk.injEq] at e
  obtain ⟨rfl, rfl, rfl⟩ := e
  rw [intV_eq ha, intV_eq hn]
  refine pureS (cs := []) Try.func51 (by kernel_rfl) (fun c hc => by simp at hc) ?_
  rw [eval79]
  unfold r79a r79b
  refine bifP (fun h1 => ?_) (fun h1 => ?_)
  · simp only [h1, cond_true, cond_false]; exact ⟨trivial, by trivial⟩
  refine bifP (fun h2 => ?_) (fun h2 => ?_)
  · simp only [h1, h2, cond_true, cond_false]; exact ⟨trivial, by trivial⟩
  refine bifP (fun h3 => ?_) (fun h3 => ?_)
  · simp only [h1, h2, h3, cond_true, cond_false]; exact ⟨trivial, by trivial⟩
  refine bifP (fun h4 => ?_) (fun h4 => ?_)
  · simp only [h1, h2, h3, h4, Bool.not_true, cond_false]; exact ⟨trivial, by trivial⟩
  simp only [h1, h2, h3, h4, Bool.not_false, cond_true, cond_false]
  simp only [decide_eq_false_iff_not] at h1 h2 h3 h4
  rw [w_id (by omega) (by omega)] at h4
  have e1 : w (a + n) = a + n := w_id (by omega) (by omega)
  rw [e1, decide_eq_true (show 0 ≤ a + n by omega), decide_eq_true (show a + n ≤ (s.size : Int) by omega), decide_eq_true (show 0 ≤ a by omega), decide_eq_true (show a ≤ a + n by omega)]
  exact ⟨trivial, by trivial⟩
/-- A number of bytes, the lowest first. -/
def raw1 (a : UInt8) : Int := w (((BitVec.ofInt 64 0).or (BitVec.ofInt 64 (w (a.toNat : Int)))).toNat : Int)
def raw2 (a b : UInt8) : Int := w (((BitVec.ofInt 64 (w (raw1 b * 256))).or (BitVec.ofInt 64 (w (a.toNat : Int)))).toNat : Int)
def r80 (s : ByteArray) : Int := match s.data.toList with
  | [a] => raw1 a
  | [a, b] => raw2 a b
  | _ => 0
theorem eval80a (a : UInt8) (r : List Value) : pureSeg [] Try.f52 [.string ⟨#[a]⟩] r = (True ∧ [I (raw1 a)] = r) := by kernel_rfl
theorem eval80b (a b : UInt8) (r : List Value) : pureSeg [] Try.f52 [.string ⟨#[a, b]⟩] r = (True ∧ [I (raw2 a b)] = r) := by kernel_rfl
noncomputable def con80 : Con := { f := 52, gh := [], paths := [], spec := fun args bs => match args, bs with
  | [.string s], [] => some (s.size = 1 ∨ s.size = 2, [I (r80 s)], [])
  | _, _ => none }
set_option maxRecDepth 100000 in
theorem con80_ok : con80.ok Try.prog w0 := by
  intro args bs p rs out e hp
  simp only [con80] at e
  split at e <;> first | (simp at e; done) | skip
  rename_i s
  simp only [Option.some.injEq, Prod.mk.injEq] at e
  obtain ⟨rfl, rfl, rfl⟩ := e
  refine pureS (cs := []) Try.func52 (by kernel_rfl) (fun c hc => by simp at hc) ?_
  have key : ∀ (s : ByteArray), s.size = 1 ∨ s.size = 2 → (∃ a, s = ⟨#[a]⟩) ∨ ∃ a b, s = ⟨#[a, b]⟩ := by
    rintro ⟨⟨l⟩⟩ h
    match l, h with
    | [a], _ => exact .inl ⟨a, rfl⟩
    | [a, b], _ => exact .inr ⟨a, b, rfl⟩
    | [], h => simp [ByteArray.size] at h
    | _ :: _ :: _ :: _, h => simp [ByteArray.size] at h
  rcases key s hp with ⟨a, rfl⟩ | ⟨a, b, rfl⟩
  · rw [show r80 ⟨#[a]⟩ = raw1 a from rfl, eval80a]; exact ⟨trivial, rfl⟩
  · rw [show r80 ⟨#[a, b]⟩ = raw2 a b from rfl, eval80b]; exact ⟨trivial, rfl⟩

noncomputable def ft93 : FT := { loc := fun _ => false, mask := fun id => bif Nat.beq id 3 then live 36 [7, 17, 18, 19] else [] }
noncomputable def todo93 : List Item := todoOf Try.f69 3
noncomputable def fr93 (a k : Nat) (dp i : Int) : List AV := frm 36 [(7, .v (I dp)), (17, .v (.slice (some ⟨G + 1, a * 4, none⟩) k 4)), (18, .v (I k)), (19, .v (I i))]
abbrev seg93 (K : List Value → AHeap → Prop) (L : List Item → List AV → AHeap → Prop) (t : List Item) (fr : List AV) (h : AHeap) : Prop :=
  segK3 Try.prog ft93 (semI Try.prog (fun _ => ft0) (callsOf G []) 400 20 (retT G ntM K)) Try.f69 [3] 400 t fr (fun t fr h => match t with
  | .code (.region 3 _ _) :: _ => canonT G ntM (L t) fr h
  | _ => False) h

section
variable (n m : Nat) (pg ky val : ByteArray) (rs : List Int) (pc code nx st : Int) (en : Bool) (rw : Bool) (cl cs lc : List Value) (K : List Value → AHeap → Prop) (L : List Item → List AV → AHeap → Prop)
theorem start93 (a t : Int) : seg93 K L [.code (Try.f69.body.getD .skip)] (startF Try.f69 [PT G, I a, I t]) (heapB G (mcK n cl rw pg ky cs rs pc m lc code val nx st en))
    = (bif decide (0 ≤ t) && decide (t ≤ (n : Int)) && decide (0 ≤ w (a + 1)) && decide (w (a + 1) ≤ t) then PL3 cl cs lc ∧
        L todo93 (frm 36 [(7, .v (I 0)), (17, .v (.slice (some ⟨G + 1, 0 + (w (a + 1)).toNat * 4, none⟩) (t.toNat - (w (a + 1)).toNat) 4)), (18, .v (I (t.toNat - (w (a + 1)).toNat : Nat))), (19, .v (I 0))]) (heapB G (mcK n cl rw pg ky cs rs pc m lc code val nx st en))
      else False) := by kernel_rfl
theorem head93 (a k : Nat) (dp i : Int) : seg93 K L todo93 (fr93 a k dp i) (heapB G (mcK n cl rw pg ky cs rs pc m lc code val nx st en))
    = (bif decide (i < (k : Int)) then bif decide (0 ≤ i) && decide (i < (k : Int)) then
        bif (a * 4 + i.toNat * 4 + 4).ble cl.length && (okI .i64 (nth cl (a * 4 + i.toNat * 4 + 0)) && (okI .i64 (nth cl (a * 4 + i.toNat * 4 + 1)) && (okI .i64 (nth cl (a * 4 + i.toNat * 4 + 2)) && (okI .i64 (nth cl (a * 4 + i.toNat * 4 + 3)) && true)))) then
        bif intO (nth cl (a * 4 + i.toNat * 4 + 0)) == 17 then PL3 cl cs lc ∧ L todo93 (fr93 a k (w (dp + 1)) (w (i + 1))) (heapB G (mcK n cl rw pg ky cs rs pc m lc code val nx st en))
        else bif intO (nth cl (a * 4 + i.toNat * 4 + 0)) == 18 then bif dp == 0 then PL3 cl cs lc ∧ K [B false] (heapB G (mcK n cl rw pg ky cs rs pc m lc code val nx st en))
          else PL3 cl cs lc ∧ L todo93 (fr93 a k (w (dp - 1)) (w (i + 1))) (heapB G (mcK n cl rw pg ky cs rs pc m lc code val nx st en))
        else PL3 cl cs lc ∧ L todo93 (fr93 a k dp (w (i + 1))) (heapB G (mcK n cl rw pg ky cs rs pc m lc code val nx st en))
        else False else False
      else PL3 cl cs lc ∧ K [B true] (heapB G (mcK n cl rw pg ky cs rs pc m lc code val nx st en))) := by kernel_rfl
end
/-- Is the end of a row of instructions within the Loops that are open ahead of it? -/
def inL : List Ins → Nat → Bool
  | [], _ => true
  | x :: r, d => bif x.op == 17 then inL r (d + 1) else bif x.op == 18 then (bif d == 0 then false else inL r (d - 1)) else inL r d
def inM (l : List Ins) (a t : Int) : Bool := inL ((l.take t.toNat).drop (a.toNat + 1)) 0
abbrev SemM (w0 : World) (fn : Func) (K : List Value → AHeap → Prop) (t : List Item) (fr : List AV) (h : AHeap) : Prop := Agm.Sem Try.prog w0 (Try.prog.globals.size + ntM.flags.length) fn (retT G ntM K) t fr h
theorem leaf93 {K : List Value → AHeap → Prop} : ∀ t fr h, (match t with
    | .code (.region 3 _ _) :: _ => canonT G ntM (SemM w0 Try.f69 K t) fr h
    | _ => False) → SemM w0 Try.f69 K t fr h := by
  intro t fr h e
  split at e
  · exact canonT_semN (nt := ntM) rfl e
  · exact e.elim

set_option maxRecDepth 100000 in
theorem loop93 {K : List Value → AHeap → Prop} {rw : Bool} {M : Mc} (hl : M.l.length < 1000000000) (a k : Nat) (hak : a + k ≤ M.l.length) : ∀ (f i d : Nat), k - i < f → i ≤ k → d ≤ i →
    K [B (inL ((M.l.drop (a + i)).take (k - i)) d)] (heapB G (mcB rw M)) → SemM w0 Try.f69 K todo93 (fr93 a k d i) (heapB G (mcB rw M)) := by
  intro f
  induction f with
  | zero => intro i d h1; omega
  | succ f ih =>
    intro i d h1 h2 h3 hK
    refine seg_semI3 (F := ft93) mixed (callsOf_ok ok_none) leaf93 [3] 20 400 ((head93 _ _ _ _ _ _ _ _ _ _ _ rw _ _ _ K _ a k d i).mpr ?_)
    have hp := plain_mc M
    by_cases hi : i < k
    · have hai : a + i < M.l.length := by omega
      obtain ⟨e1, ⟨e2, e3, e4, e5⟩, e6⟩ := at_insC3 hai
      have hz : ∀ j, a * 4 + (i : Int).toNat * 4 + j = 0 + ((a + i : Nat) : Int).toNat * 4 + j := by intro j; omega
      have q1 : (0 : Int) ≤ (i : Int) := by omega
      have q2 : (i : Int) < (k : Int) := by omega
      have hw1 : w ((i : Int) + 1) = ((i + 1 : Nat) : Int) := by rw [w_id (by omega) (by omega)]; omega
      have hw2 : w ((d : Int) + 1) = ((d + 1 : Nat) : Int) := by rw [w_id (by omega) (by omega)]; omega
      have hget : M.l.getD (a + i) insD = M.l[a + i] := by rw [List.getD_eq_getElem?_getD, List.getElem?_eq_getElem hai]; rfl
      have hs : (M.l.drop (a + i)).take (k - i) = M.l[a + i] :: (M.l.drop (a + (i + 1))).take (k - (i + 1)) := by
        rw [List.drop_eq_getElem_cons hai, show k - i = (k - (i + 1)) + 1 by omega, List.take_succ_cons]; rfl
      rw [hs, inL] at hK
      rw [hget] at e6
      simp only [hz, q1, q2, e1, e2, e3, e4, e5, e6, hw1, decide_true, Bool.and_self, cond_true]
      refine bifP (fun o1 => ?_) (fun o1 => ?_)
      · simp only [o1, cond_true] at hK
        rw [hw2]
        exact ⟨hp, ih _ _ (by omega) (by omega) (by omega) hK⟩
      · simp only [o1, cond_false] at hK
        refine bifP (fun o2 => ?_) (fun o2 => ?_)
        · simp only [o2, cond_true] at hK
          refine bifP (fun o3 => ?_) (fun o3 => ?_)
          · have hd : (d == 0) = true := by
              simp only [beq_iff_eq] at o3 ⊢; omega
            simp only [hd, cond_true] at hK
            exact ⟨hp, hK⟩
          · have hd : (d == 0) = false := by
              rw [beq_eq_false_iff_ne] at o3 ⊢; omega
            have hd' : d ≠ 0 := beq_eq_false_iff_ne.mp hd
            have hw3 : w ((d : Int) - 1) = ((d - 1 : Nat) : Int) := by rw [w_id (by omega) (by omega)]; omega
            simp only [hd, cond_false] at hK
            rw [hw3]
            exact ⟨hp, ih _ _ (by omega) (by omega) (by omega) hK⟩
        · simp only [o2, cond_false] at hK
          exact ⟨hp, ih _ _ (by omega) (by omega) (by omega) hK⟩
    · have q2 : ¬ (i : Int) < (k : Int) := by omega
      have h0 : k - i = 0 := by omega
      rw [h0, List.take_zero, inL] at hK
      simp only [q2, decide_false, cond_false]
      exact ⟨hp, hK⟩

def two : List Value → Option (List Int)
  | [x, y] => match intV x, intV y with
    | some a, some b => some [a, b]
    | _, _ => none
  | _ => none
theorem two_eq {vs : List Value} {xs : List Int} (e : two vs = some xs) : ∃ a b, vs = [I a, I b] ∧ xs = [a, b] := by
  unfold two at e
  split at e
  · split at e
    · rename_i a b h1 h2
      simp only [Option.some.injEq] at e
      exact ⟨a, b, by rw [intV_eq h1, intV_eq h2], e.symm⟩
    · simp at e
  · simp at e
noncomputable def con93 : Con := mCon 69 two (fun R xs => R.n < 1000000000 ∧ 0 ≤ ix4 xs 0 ∧ ix4 xs 0 < ix4 xs 1 ∧ ix4 xs 1 ≤ (R.n : Int)) (fun R xs => [B (inM (unIns R.cl) (ix4 xs 0) (ix4 xs 1))]) (fun R _ => R)
set_option maxRecDepth 100000 in
theorem con93_ok : con93.ok Try.prog w0 := mCon_ok fun vs xs rw M e h8 ⟨a0, a1, a2, a3⟩ => by
  obtain ⟨a, t, rfl, rfl⟩ := two_eq e
  simp only [ix4, List.getD_cons_zero, List.getD_cons_succ, rawM, unIns_insC] at a0 a1 a2 a3 ⊢
  obtain ⟨a, rfl⟩ := Int.eq_ofNat_of_zero_le a1
  obtain ⟨t, rfl⟩ := Int.eq_ofNat_of_zero_le (show 0 ≤ t by omega)
  have hn : (heapB Try.prog.globals.size (mcB rw M)).next = Try.prog.globals.size + ntM.flags.length := by rw [heapB_next]; rfl
  refine retT_call (nt := ntM) hn (call_sem (cd := Try.f69.body.getD .skip) Try.func69 (by kernel_rfl) ?_)
  rw [hn]
  refine seg_semI3 (F := ft93) mixed (callsOf_ok ok_none) leaf93 [3] 20 400 ((start93 _ _ _ _ _ _ _ _ _ _ _ rw _ _ _ _ _ a t).mpr ?_)
  have hw1 : w ((a : Int) + 1) = ((a + 1 : Nat) : Int) := by rw [w_id (by omega) (by omega)]; omega
  rw [hw1, decide_eq_true (show (0 : Int) ≤ t by omega), decide_eq_true a3, decide_eq_true (show (0 : Int) ≤ ((a + 1 : Nat) : Int) by omega), decide_eq_true (show ((a + 1 : Nat) : Int) ≤ t by omega)]
  refine ⟨plain_mc M, ?_⟩
  rw [Int.toNat_natCast, Int.toNat_natCast, Nat.zero_add]
  refine loop93 a0 (a + 1) (t - (a + 1)) (by omega) (t + 1) 0 0 (by omega) (by omega) (by omega) ⟨?_, rfl⟩
  unfold inM
  rw [Int.toNat_natCast, Int.toNat_natCast, List.drop_take]; rfl

abbrev ntM0 : Nt := { gh := [], flags := flM, paths := [], tr := [(0, [13])] }
abbrev ntM1 : Nt := { gh := [], flags := flM, paths := [], tr := [(1, [13])] }
noncomputable def ft81 : FT := { loc := fun _ => false, mask := fun id => bif Nat.beq id 0 then live 43 [0, 1] else [] }
noncomputable def todo81 : List Item := todoOf Try.f53 0
noncomputable def fr81 (t : Int) : List AV := frm 43 [(0, .v (PT G)), (1, .v (I t))]
abbrev seg81 (K : List Value → AHeap → Prop) (L : List Item → List AV → AHeap → Prop) (t : List Item) (fr : List AV) (h : AHeap) : Prop :=
  segK3 Try.prog ft81 (semI Try.prog (fun _ => ft0) (callsOf G [con93]) 400 20 (retT G ntM0 K)) Try.f53 [0] 400 t fr (fun t fr h => match t with
  | .code (.region 0 _ _) :: _ => canonT G ntM0 (L t) fr h
  | _ => False) h

section
variable (n m : Nat) (pg ky val : ByteArray) (rs : List Int) (pc code nx st : Int) (en : Bool) (rw : Bool) (cl cs lc : List Value) (K : List Value → AHeap → Prop) (L : List Item → List AV → AHeap → Prop)
/-- The blocks fit a machine. -/
abbrev Fit (n m : Nat) (cl cs lc : List Value) : Prop := cl = insC (unIns cl) ∧ (unIns cl).length = n ∧ cs = bytC (unB cs) ∧ lc = loC (unL lc) ∧ (unL lc).length = m
theorem start81 (t : Int) : seg81 K L [.code (Try.f53.body.getD .skip)] (startF Try.f53 [PT G, I t]) (heapB G (mcK n cl rw pg ky cs rs pc m lc code val nx st en))
    = (PL3 cl cs (lc.take (m * 2)) ∧ L todo81 (fr81 t) (heapB G (mcK n cl rw pg ky cs rs pc m (lc.take (m * 2)) code val nx st en))) := by kernel_rfl
theorem head81 (t : Int) : seg81 K L todo81 (fr81 t) (heapB G (mcK n cl rw pg ky cs rs pc m lc code val nx st en))
    = (bif decide ((m : Int) > 0) then bif decide (0 ≤ w ((m : Int) - 1)) && decide (w ((m : Int) - 1) < (m : Int)) then bif okI .i64 (nth lc (0 + (w ((m : Int) - 1)).toNat * 2 + 0)) then
        (PL3 cl cs lc ∧ PL3 cl cs lc ∧ Fit n m cl cs lc ∧ n < 1000000000 ∧ 0 ≤ ix4 [intO (nth lc (0 + (w ((m : Int) - 1)).toNat * 2 + 0)), t] 0 ∧ ix4 [intO (nth lc (0 + (w ((m : Int) - 1)).toNat * 2 + 0)), t] 0 < ix4 [intO (nth lc (0 + (w ((m : Int) - 1)).toNat * 2 + 0)), t] 1 ∧ ix4 [intO (nth lc (0 + (w ((m : Int) - 1)).toNat * 2 + 0)), t] 1 ≤ (n : Int)) ∧
        bif !inM (unIns cl) (ix4 [intO (nth lc (0 + (w ((m : Int) - 1)).toNat * 2 + 0)), t] 0) (ix4 [intO (nth lc (0 + (w ((m : Int) - 1)).toNat * 2 + 0)), t] 1) then
          bif decide (0 ≤ w ((m : Int) - 1)) && decide (w ((m : Int) - 1) ≤ (m : Int)) then PL3 cl cs (lc.take (((w ((m : Int) - 1)).toNat - 0) * 2)) ∧
            L todo81 (fr81 t) (heapB G (mcK n cl rw pg ky cs rs pc ((w ((m : Int) - 1)).toNat - 0) (lc.take (((w ((m : Int) - 1)).toNat - 0) * 2)) code val nx st en)) else False
        else PL3 cl cs (lc.take (m * 2)) ∧ K [] (heapB G (mcK n cl rw pg ky cs rs pc m (lc.take (m * 2)) code val nx st en))
        else False else False
      else PL3 cl cs (lc.take (m * 2)) ∧ K [] (heapB G (mcK n cl rw pg ky cs rs pc m (lc.take (m * 2)) code val nx st en))) := by kernel_rfl
end
def topL (lo : List (Int × Int)) : Int × Int := lo.getD (lo.length - 1) (0, 0)
/-- The loops that are under way behind a jump. -/
def leaveL (l : List Ins) (t : Int) : Nat → List (Int × Int) → List (Int × Int)
  | 0, lo => lo
  | f + 1, lo => bif decide ((lo.length : Int) > 0) then bif !inM l (topL lo).1 t then leaveL l t f (lo.take (lo.length - 1)) else lo else lo
theorem nth_loC : ∀ (lo : List (Int × Int)) (i : Nat) (h : i < lo.length), nth (loC lo) (2 * i) = some (I lo[i].1) ∧ nth (loC lo) (2 * i + 1) = some (I lo[i].2)
  | [], i, h => by simp at h
  | (a, b) :: r, 0, _ => ⟨rfl, rfl⟩
  | (a, b) :: r, i + 1, h => by
    have := nth_loC r i (by simpa using h)
    exact this
theorem loC_take : ∀ (lo : List (Int × Int)) (k : Nat), (loC lo).take (k * 2) = loC (lo.take k)
  | [], k => by simp [loC]
  | (a, b) :: r, 0 => by simp [loC]
  | (a, b) :: r, k + 1 => by
    rw [show (k + 1) * 2 = k * 2 + 2 by omega, List.take_succ_cons]
    show (I a :: I b :: loC r).take (k * 2 + 2) = _
    rw [List.take_succ_cons, List.take_succ_cons, loC_take r k]; rfl
theorem loC_all (lo : List (Int × Int)) : (loC lo).take (lo.length * 2) = loC lo := by rw [loC_take, List.take_length]
theorem topL_mem {lo : List (Int × Int)} (h : 0 < lo.length) : topL lo ∈ lo := by
  unfold topL
  rw [List.getD_eq_getElem?_getD, List.getElem?_eq_getElem (by omega)]
  exact List.getElem_mem _
theorem top_rd {lo : List (Int × Int)} (h : 0 < lo.length) : nth (loC lo) (0 + (lo.length - 1) * 2 + 0) = some (I (topL lo).1) ∧ nth (loC lo) (0 + (lo.length - 1) * 2 + 1) = some (I (topL lo).2) := by
  have h' : lo.length - 1 < lo.length := by omega
  obtain ⟨h1, h2⟩ := nth_loC lo (lo.length - 1) h'
  have ht : topL lo = lo[lo.length - 1] := by
    unfold topL
    rw [List.getD_eq_getElem?_getD, List.getElem?_eq_getElem h']; rfl
  rw [ht, show 0 + (lo.length - 1) * 2 + 0 = 2 * (lo.length - 1) by omega, show 0 + (lo.length - 1) * 2 + 1 = 2 * (lo.length - 1) + 1 by omega]
  exact ⟨h1, h2⟩
abbrev SemQ (nt : Nt) (w0 : World) (fn : Func) (K : List Value → AHeap → Prop) (t : List Item) (fr : List AV) (h : AHeap) : Prop := Agm.Sem Try.prog w0 (Try.prog.globals.size + flM.length) fn (retT G nt K) t fr h
theorem leaf81 {K : List Value → AHeap → Prop} : ∀ t fr h, (match t with
    | .code (.region 0 _ _) :: _ => canonT G ntM0 (SemQ ntM0 w0 Try.f53 K t) fr h
    | _ => False) → SemQ ntM0 w0 Try.f53 K t fr h := by
  intro t fr h e
  split at e
  · exact canonT_semN (nt := ntM0) rfl e
  · exact e.elim
theorem ok93 : ∀ c ∈ [con93], c.ok Try.prog w0 := fun c hc => by
  simp only [List.mem_cons, List.not_mem_nil, or_false] at hc
  subst hc
  exact con93_ok
theorem mc_fit (M : Mc) : Fit M.l.length M.lo.length (insC M.l) (bytC M.sc) (loC M.lo) := raw_fit true M

set_option maxRecDepth 100000 in
theorem loop81 {K : List Value → AHeap → Prop} {rw : Bool} {M : Mc} {t : Int} (hl : M.l.length < 1000000000) (ht : t ≤ (M.l.length : Int)) : ∀ (f : Nat) (lo : List (Int × Int)), lo.length < f → lo.length < 1000000000 → (∀ o ∈ lo, 0 ≤ o.1 ∧ o.1 < t) →
    K [] (heapB G (mcB rw { M with lo := leaveL M.l t f lo })) → SemQ ntM0 w0 Try.f53 K todo81 (fr81 t) (heapB G (mcB rw { M with lo := lo })) := by
  intro f
  induction f with
  | zero => intro lo h1; omega
  | succ f ih =>
    intro lo h1 h2 h3 hK
    refine seg_semI3 (F := ft81) mixed (callsOf_ok ok93) leaf81 [0] 20 400 ((head81 _ _ _ _ _ _ _ _ _ _ _ rw _ _ _ K _ t).mpr ?_)
    have hp := plain_mc { M with lo := lo }
    have hf := mc_fit { M with lo := lo }
    have hp0 : PL3 (insC M.l) (bytC M.sc) ((loC lo).take (lo.length * 2)) := by rw [loC_all]; exact hp
    rw [leaveL] at hK
    cases e : decide ((lo.length : Int) > 0) with
    | false =>
      rw [e, cond_false] at hK
      refine ⟨hp0, ?_⟩
      show K [] (heapB G (mcK M.l.length (insC M.l) rw M.pg M.ky (bytC M.sc) M.rs M.pc lo.length ((loC lo).take (lo.length * 2)) M.code M.val M.nx M.st M.en))
      rw [loC_all]; exact hK
    | true =>
      rw [e, cond_true] at hK
      have h0 : 0 < lo.length := by simp only [decide_eq_true_eq] at e; omega
      have hw : w ((lo.length : Int) - 1) = ((lo.length - 1 : Nat) : Int) := by rw [w_id (by omega) (by omega)]; omega
      obtain ⟨r1, _⟩ := top_rd h0
      obtain ⟨t1, t2⟩ := h3 _ (topL_mem h0)
      simp only [hw, Int.toNat_natCast, r1, decide_eq_true (show (0 : Int) ≤ ((lo.length - 1 : Nat) : Int) by omega), decide_eq_true (show ((lo.length - 1 : Nat) : Int) < (lo.length : Int) by omega), decide_eq_true (show ((lo.length - 1 : Nat) : Int) ≤ (lo.length : Int) by omega), Bool.and_self, cond_true]
      refine ⟨⟨hp, hp, hf, hl, t1, t2, ht⟩, ?_⟩
      show bif !inM (unIns (insC M.l)) (topL lo).1 t then _ else _
      rw [unIns_insC]
      refine bifP (fun e2 => ?_) (fun e2 => ?_)
      · rw [e2, cond_true] at hK
        have ht1 : (lo.take (lo.length - 1)).length = lo.length - 1 := by rw [List.length_take]; omega
        refine ⟨⟨hp.1, hp.2.1, ?_, trivial⟩, ?_⟩
        · rw [Nat.sub_zero, loC_take]; exact plain_loC _
        · have := ih (lo.take (lo.length - 1)) (by omega) (by omega) (fun o ho => h3 o (List.mem_of_mem_take ho)) hK
          rw [Nat.sub_zero, loC_take]
          unfold mcB at this
          simp only [ht1] at this
          exact this
      · rw [e2, cond_false] at hK
        refine ⟨hp0, ?_⟩
        show K [] (heapB G (mcK M.l.length (insC M.l) rw M.pg M.ky (bytC M.sc) M.rs M.pc lo.length ((loC lo).take (lo.length * 2)) M.code M.val M.nx M.st M.en))
        rw [loC_all]; exact hK

def one1 : List Value → Option (List Int)
  | [x] => match intV x with
    | some a => some [a]
    | _ => none
  | _ => none
theorem one1_eq {vs : List Value} {xs : List Int} (e : one1 vs = some xs) : ∃ a, vs = [I a] ∧ xs = [a] := by
  unfold one1 at e
  split at e
  · split at e
    · rename_i a h1
      simp only [Option.some.injEq] at e
      exact ⟨a, by rw [intV_eq h1], e.symm⟩
    · simp at e
  · simp at e
def leaveM (l : List Ins) (t : Int) (lo : List (Int × Int)) : List (Int × Int) := leaveL l t (lo.length + 1) lo
noncomputable def con81 : Con := mCon 53 one1 (fun R xs => R.n < 1000000000 ∧ R.m < 1000000000 ∧ ix4 xs 0 ≤ (R.n : Int) ∧ ∀ o ∈ unL R.lc, 0 ≤ o.1 ∧ o.1 < ix4 xs 0) (fun _ _ => [])
  (fun R xs => { R with m := (leaveM (unIns R.cl) (ix4 xs 0) (unL R.lc)).length, lc := loC (leaveM (unIns R.cl) (ix4 xs 0) (unL R.lc)) })
set_option maxRecDepth 100000 in
theorem con81_ok : con81.ok Try.prog w0 := mCon_ok fun vs xs rw M e h8 ⟨a0, a1, a2, a3⟩ => by
  obtain ⟨t, rfl, rfl⟩ := one1_eq e
  simp only [ix4, List.getD_cons_zero, rawM, unIns_insC, unL_loC] at a0 a1 a2 a3 ⊢
  have hn : (heapB Try.prog.globals.size (mcB rw M)).next = Try.prog.globals.size + ntM0.flags.length := by rw [heapB_next]; rfl
  refine retT_call (nt := ntM0) hn (call_sem (cd := Try.f53.body.getD .skip) Try.func53 (by kernel_rfl) ?_)
  rw [hn]
  refine seg_semI3 (F := ft81) mixed (callsOf_ok ok93) leaf81 [0] 20 400 ((start81 _ _ _ _ _ _ _ _ _ _ _ rw _ _ _ _ _ t).mpr ?_)
  rw [loC_all]
  refine ⟨plain_mc M, ?_⟩
  exact loop81 (M := M) a0 a2 (M.lo.length + 1) M.lo (by omega) a1 a3 ⟨rfl, rfl⟩

/-! What a method does to a machine. -/
def outM (R : Rw) (M : Mc) : Rw := { n := R.n, m := M.lo.length, wr := R.wr, pg := R.pg, ky := R.ky, val := M.val, rs := M.rs, pc := M.pc, code := M.code, nx := M.nx, st := M.st, en := M.en, cl := R.cl, cs := bytC M.sc, lc := loC M.lo }
def alike (M M' : Mc) : Prop := M'.l = M.l ∧ M'.pg = M.pg ∧ M'.ky = M.ky
theorem outM_bs {M M' : Mc} (wr : Bool) (h : alike M M') : (outM (rawM wr M) M').bs = mcB wr M' := by
  obtain ⟨h1, h2, h3⟩ := h
  obtain ⟨l, pg, ky, sc, rs, pc, lo, code, val, nx, st, en⟩ := M'
  obtain ⟨l', pg', ky', sc', rs', pc', lo', code', val', nx', st', en'⟩ := M
  simp only at h1 h2 h3
  subst h1 h2 h3
  rfl
noncomputable def gCon (f : Nat) (args : List Value → Option (List Int)) (ok : Mc → List Int → Prop) (g : Mc → List Int → Bool × Mc) : Con :=
  mCon f args (fun R xs => ok R.mc xs) (fun R xs => [B (g R.mc xs).1]) (fun R xs => outM R (g R.mc xs).2)
theorem gCon_ok {f : Nat} {args : List Value → Option (List Int)} {ok : Mc → List Int → Prop} {g : Mc → List Int → Bool × Mc} (ha : ∀ M xs, alike M (g M xs).2)
    (h : ∀ (vs : List Value) (xs : List Int) (wr : Bool) (M : Mc), args vs = some xs → M.rs.length = 8 → ok M xs →
      CallS Try.prog w0 f (PT G :: vs) (heapB Try.prog.globals.size (mcB wr M)) fun rs' h' => rs' = [B (g M xs).1] ∧ h' = heapB Try.prog.globals.size (mcB wr (g M xs).2)) :
    (gCon f args ok g).ok Try.prog w0 := mCon_ok fun vs xs wr M e h8 hok => by
  rw [raw_mc] at hok ⊢
  rw [outM_bs wr (ha M xs)]
  exact h vs xs wr M e h8 hok
theorem alike_bif {c : Bool} {M A A' : Mc} {a a' : Bool} (h1 : alike M A) (h2 : alike M A') : alike M (bif c then (a, A) else (a', A')).2 := by
  cases c
  · exact h2
  · exact h1
theorem alike_bif2 {c : Bool} {M : Mc} {x y : Bool × Mc} (h1 : alike M x.2) (h2 : alike M y.2) : alike M (bif c then x else y).2 := by
  cases c
  · exact h2
  · exact h1

def jumpM (M : Mc) (t : Int) : Bool × Mc := bif decide (t ≤ M.pc) then (false, M) else bif decide (t ≥ (M.l.length : Int)) then (false, M) else (true, { M with pc := w (t - 1), lo := leaveM M.l t M.lo })
def endM (M : Mc) : Bool × Mc := bif (M.lo.length : Int) == 0 then (false, M) else
  bif decide (w ((topL M.lo).2 - 1) > 0) then (true, { M with pc := (topL M.lo).1, lo := M.lo.set (M.lo.length - 1) ((topL M.lo).1, w ((topL M.lo).2 - 1)) })
  else (true, { M with lo := M.lo.take (M.lo.length - 1) })
def callM (M : Mc) (t : Int) : Bool × Mc := bif t == 3 then (true, { M with nx := rg M.rs 2 }) else
  bif !r79b M.pg (rg M.rs 2) (rg M.rs 3) then (false, M) else bif decide (((r79a M.pg (rg M.rs 2) (rg M.rs 3)).size : Int) > bif t == 2 then 24 else 16) then (false, M) else
  bif t == 2 then (true, { M with val := r79a M.pg (rg M.rs 2) (rg M.rs 3) }) else (true, { M with rs := M.rs.set 0 (cmpS M.ky (r79a M.pg (rg M.rs 2) (rg M.rs 3))) })
theorem jumpM_alike (M : Mc) (t : Int) : alike M (jumpM M t).2 := alike_bif2 ⟨rfl, rfl, rfl⟩ (alike_bif2 ⟨rfl, rfl, rfl⟩ ⟨rfl, rfl, rfl⟩)
theorem endM_alike (M : Mc) : alike M (endM M).2 := alike_bif2 ⟨rfl, rfl, rfl⟩ (alike_bif2 ⟨rfl, rfl, rfl⟩ ⟨rfl, rfl, rfl⟩)
theorem callM_alike (M : Mc) (t : Int) : alike M (callM M t).2 := alike_bif2 ⟨rfl, rfl, rfl⟩ (alike_bif2 ⟨rfl, rfl, rfl⟩ (alike_bif2 ⟨rfl, rfl, rfl⟩ (alike_bif2 ⟨rfl, rfl, rfl⟩ ⟨rfl, rfl, rfl⟩)))

section
variable (n m : Nat) (pg ky val : ByteArray) (rs : List Int) (pc code nx st : Int) (en : Bool) (rw : Bool) (cl cs lc : List Value) (K : List Value → AHeap → Prop)
theorem eval55 (t : Int) : evSeg Try.f35 [con81] ntM [PT G, I t] (mcK n cl rw pg ky cs rs pc m lc code val nx st en) K
    = (bif decide (t ≤ pc) then PL3 cl cs lc ∧ K [B false] (heapB G (mcK n cl rw pg ky cs rs pc m lc code val nx st en)) else
      bif decide (t ≥ (n : Int)) then PL3 cl cs lc ∧ K [B false] (heapB G (mcK n cl rw pg ky cs rs pc m lc code val nx st en)) else
      (PL3 cl cs lc ∧ PL3 cl cs (loC (leaveM (unIns cl) t (unL lc))) ∧ Fit n m cl cs lc ∧ n < 1000000000 ∧ m < 1000000000 ∧ t ≤ (n : Int) ∧ ∀ o ∈ unL lc, 0 ≤ o.1 ∧ o.1 < t) ∧ PL3 cl cs (loC (leaveM (unIns cl) t (unL lc))) ∧
        K [B true] (heapB G (mcK n cl rw pg ky cs rs (w (t - 1)) (leaveM (unIns cl) t (unL lc)).length (loC (leaveM (unIns cl) t (unL lc))) code val nx st en))) := by kernel_rfl
/-- Where the top loop lies. -/
abbrev pl (m : Nat) (j : Nat) : Nat := 0 + (w ((m : Int) - 1)).toNat * 2 + j
abbrev lc1 (m : Nat) (lc : List Value) : List Value := splice lc (pl m 1) [I (w (intO (nth lc (pl m 1)) - 1))]
theorem eval56 : evSeg Try.f36 [] ntM1 [PT G] (mcK n cl rw pg ky cs rs pc m lc code val nx st en) K
    = (bif (m : Int) == 0 then PL3 cl cs (lc.take (m * 2)) ∧ K [B false] (heapB G (mcK n cl rw pg ky cs rs pc m (lc.take (m * 2)) code val nx st en)) else
      bif decide (0 ≤ w ((m : Int) - 1)) && decide (w ((m : Int) - 1) < (m : Int)) then bif okI .i64 (nth lc (pl m 1)) then bif (1 : Nat) == 1 && (pl m 1 + 1).ble lc.length then
      bif okI .i64 (nth (lc1 m lc) (pl m 1)) then bif decide (intO (nth (lc1 m lc) (pl m 1)) > 0) then bif okI .i64 (nth (lc1 m lc) (pl m 0)) then
        PL3 cl cs ((lc1 m lc).take (m * 2)) ∧ K [B true] (heapB G (mcK n cl rw pg ky cs rs (intO (nth (lc1 m lc) (pl m 0))) m ((lc1 m lc).take (m * 2)) code val nx st en)) else False
      else bif decide (0 ≤ w ((m : Int) - 1)) && decide (w ((m : Int) - 1) ≤ (m : Int)) then
        PL3 cl cs ((lc1 m lc).take (((w ((m : Int) - 1)).toNat - 0) * 2)) ∧ K [B true] (heapB G (mcK n cl rw pg ky cs rs pc ((w ((m : Int) - 1)).toNat - 0) ((lc1 m lc).take (((w ((m : Int) - 1)).toNat - 0) * 2)) code val nx st en)) else False
      else False else False else False else False) := by kernel_rfl
theorem eval57 (t : Int) : evSeg Try.f37 [con79, con82] ntM [PT G, I t] (mcK n cl rw pg ky cs rs pc m lc code val nx st en) K
    = (bif t == 3 then PL3 cl cs lc ∧ K [B true] (heapB G (mcK n cl rw pg ky cs rs pc m lc code val (rg rs 2) st en)) else
      bif t == 2 then (True ∧ True ∧ pg.size ≤ 1000000000) ∧ bif !r79b pg (rg rs 2) (rg rs 3) then PL3 cl cs lc ∧ K [B false] (heapB G (mcK n cl rw pg ky cs rs pc m lc code val nx st en)) else
        bif decide (((r79a pg (rg rs 2) (rg rs 3)).size : Int) > 24) then PL3 cl cs lc ∧ K [B false] (heapB G (mcK n cl rw pg ky cs rs pc m lc code val nx st en)) else
        bif t == 2 then PL3 cl cs lc ∧ K [B true] (heapB G (mcK n cl rw pg ky cs rs pc m lc code (r79a pg (rg rs 2) (rg rs 3)) nx st en)) else
        TTT ∧ PL3 cl cs lc ∧ K [B true] (heapB G (mcK n cl rw pg ky cs [cmpS ky (r79a pg (rg rs 2) (rg rs 3)), rg rs 1, rg rs 2, rg rs 3, rg rs 4, rg rs 5, rg rs 6, rg rs 7] pc m lc code val nx st en))
      else (True ∧ True ∧ pg.size ≤ 1000000000) ∧ bif !r79b pg (rg rs 2) (rg rs 3) then PL3 cl cs lc ∧ K [B false] (heapB G (mcK n cl rw pg ky cs rs pc m lc code val nx st en)) else
        bif decide (((r79a pg (rg rs 2) (rg rs 3)).size : Int) > 16) then PL3 cl cs lc ∧ K [B false] (heapB G (mcK n cl rw pg ky cs rs pc m lc code val nx st en)) else
        bif t == 2 then PL3 cl cs lc ∧ K [B true] (heapB G (mcK n cl rw pg ky cs rs pc m lc code (r79a pg (rg rs 2) (rg rs 3)) nx st en)) else
        TTT ∧ PL3 cl cs lc ∧ K [B true] (heapB G (mcK n cl rw pg ky cs [cmpS ky (r79a pg (rg rs 2) (rg rs 3)), rg rs 1, rg rs 2, rg rs 3, rg rs 4, rg rs 5, rg rs 6, rg rs 7] pc m lc code val nx st en))) := by kernel_rfl
end

/-! Their contracts. -/
def nix (xs : List Int) : Int := ix4 xs 0
noncomputable def con55 : Con := gCon 35 one1 (fun M _ => M.l.length < 1000000000 ∧ M.lo.length < 1000000000 ∧ ∀ o ∈ M.lo, 0 ≤ o.1 ∧ o.1 ≤ M.pc) (fun M xs => jumpM M (ix4 xs 0))
set_option maxRecDepth 100000 in
theorem con55_ok : con55.ok Try.prog w0 := gCon_ok (fun M xs => jumpM_alike M _) fun vs xs rw M e h8 ⟨a1, a2, a3⟩ => by
  obtain ⟨t, rfl, rfl⟩ := one1_eq e
  simp only [ix4, List.getD_cons_zero]
  refine ev_mc (cs := [con81]) Try.func35 (by kernel_rfl) (fun c hc => by
    simp only [List.mem_cons, List.not_mem_nil, or_false] at hc
    subst hc
    exact con81_ok) ((eval55 _ _ _ _ _ _ _ _ _ _ _ rw _ _ _ _ t).mpr ?_)
  have hp := plain_mc M
  unfold jumpM
  refine bifP (fun h1 => ?_) (fun h1 => ?_)
  · simp only [h1, cond_true]; exact ⟨hp, by trivial, rfl⟩
  refine bifP (fun h2 => ?_) (fun h2 => ?_)
  · simp only [h1, h2, cond_true, cond_false]; exact ⟨hp, by trivial, rfl⟩
  simp only [h1, h2, cond_false, unIns_insC, unL_loC]
  simp only [decide_eq_false_iff_not] at h1 h2
  have hq : PL3 (insC M.l) (bytC M.sc) (loC (leaveM M.l t M.lo)) := ⟨hp.1, hp.2.1, plain_loC _, trivial⟩
  exact ⟨⟨hp, hq, mc_fit M, a1, a2, by omega, fun o ho => ⟨(a3 o ho).1, by have := (a3 o ho).2; omega⟩⟩, hq, by trivial, rfl⟩

theorem loC_set : ∀ (lo : List (Int × Int)) (k : Nat) (h : k < lo.length) (v : Int), (loC lo).set (k * 2 + 1) (I v) = loC (lo.set k (lo[k].1, v))
  | [], k, h, v => by simp at h
  | (a, b) :: r, 0, _, v => rfl
  | (a, b) :: r, k + 1, h, v => by
    have := loC_set r k (by simpa using h) v
    rw [show (k + 1) * 2 + 1 = (k * 2 + 1) + 1 + 1 by omega]
    show I a :: I b :: (loC r).set (k * 2 + 1) (I v) = _
    rw [this]; rfl
theorem lc1_eq {lo : List (Int × Int)} (h : 0 < lo.length) (h2 : lo.length < 1000000000) : lc1 lo.length (loC lo) = loC (lo.set (lo.length - 1) ((topL lo).1, w ((topL lo).2 - 1))) ∧ pl lo.length 0 = (lo.length - 1) * 2 ∧ pl lo.length 1 = (lo.length - 1) * 2 + 1 := by
  have hw : w ((lo.length : Int) - 1) = ((lo.length - 1 : Nat) : Int) := by rw [w_id (by omega) (by omega)]; omega
  have e0 : pl lo.length 0 = (lo.length - 1) * 2 := by unfold pl; rw [hw, Int.toNat_natCast]; omega
  have e1 : pl lo.length 1 = (lo.length - 1) * 2 + 1 := by unfold pl; rw [hw, Int.toNat_natCast]; omega
  refine ⟨?_, e0, e1⟩
  have h' : lo.length - 1 < lo.length := by omega
  obtain ⟨_, r2⟩ := top_rd h
  have ht : topL lo = lo[lo.length - 1] := by
    unfold topL
    rw [List.getD_eq_getElem?_getD, List.getElem?_eq_getElem h']; rfl
  have e2 : intO (nth (loC lo) (pl lo.length 1)) = (topL lo).2 := by
    rw [e1, show (lo.length - 1) * 2 + 1 = 0 + (lo.length - 1) * 2 + 1 by omega, r2]; rfl
  unfold lc1
  rw [e2, e1, splice_set (by rw [loC_len]; omega), loC_set lo _ h', ht]
noncomputable def con56 : Con := gCon 36 (fun vs => match vs with | [] => some [] | _ => none) (fun M _ => M.lo.length < 1000000000) (fun M _ => endM M)
set_option maxRecDepth 100000 in
theorem con56_ok : con56.ok Try.prog w0 := gCon_ok (fun M xs => endM_alike M) fun vs xs rw M e h8 a1 => by
  have hv : vs = [] := by
    cases vs with
    | nil => rfl
    | cons a b => simp at e
  subst hv
  refine ev_callS (nt := ntM1) (cs := []) Try.func36 (by kernel_rfl) (fun c hc => by simp at hc) rfl ((eval56 _ _ _ _ _ _ _ _ _ _ _ rw _ _ _ _).mpr ?_)
  have hp := plain_mc M
  unfold endM
  refine bifP (fun h1 => ?_) (fun h1 => ?_)
  · simp only [h1, cond_true, loC_all]; exact ⟨hp, by trivial, rfl⟩
  have h0 : 0 < M.lo.length := by
    have := beq_eq_false_iff_ne.mp h1
    omega
  have hw : w ((M.lo.length : Int) - 1) = ((M.lo.length - 1 : Nat) : Int) := by rw [w_id (by omega) (by omega)]; omega
  obtain ⟨e1, e2, e3⟩ := lc1_eq h0 a1
  have h' : M.lo.length - 1 < M.lo.length := by omega
  obtain ⟨_, r2⟩ := top_rd h0
  rw [show 0 + (M.lo.length - 1) * 2 + 1 = (M.lo.length - 1) * 2 + 1 by omega] at r2
  have hs : M.lo.length - 1 < (M.lo.set (M.lo.length - 1) ((topL M.lo).1, w ((topL M.lo).2 - 1))).length := by rw [List.length_set]; exact h'
  obtain ⟨s1, s2⟩ := nth_loC _ _ hs
  rw [List.getElem_set_self, Nat.mul_comm] at s1 s2
  have hlen : (loC M.lo).length = 2 * M.lo.length := loC_len _
  have q1 : ((1 : Nat) == 1 && (pl M.lo.length 1 + 1).ble (loC M.lo).length) = true := by
    rw [hlen, e3]
    exact Nat.ble_eq_true_of_le (by omega)
  have o1 : ∀ v, okI .i64 (some (I v)) = true := fun _ => rfl
  have o2 : ∀ v, intO (some (I v)) = v := fun _ => rfl
  rw [h1, cond_false, hw, decide_eq_true (show (0 : Int) ≤ ((M.lo.length - 1 : Nat) : Int) by omega), decide_eq_true (show ((M.lo.length - 1 : Nat) : Int) < (M.lo.length : Int) by omega), decide_eq_true (show ((M.lo.length - 1 : Nat) : Int) ≤ (M.lo.length : Int) by omega), e1, q1, e2, e3, r2, s1, s2]
  simp only [o1, o2, Bool.and_self, cond_true]
  refine bifP (fun h2 => ?_) (fun h2 => ?_)
  · simp only [h2, cond_true]
    have hl : (M.lo.set (M.lo.length - 1) ((topL M.lo).1, w ((topL M.lo).2 - 1))).length = M.lo.length := List.length_set ..
    have ha := loC_all (M.lo.set (M.lo.length - 1) ((topL M.lo).1, w ((topL M.lo).2 - 1)))
    rw [hl] at ha
    rw [ha]
    refine ⟨⟨hp.1, hp.2.1, plain_loC _, trivial⟩, by trivial, ?_⟩
    unfold mcB
    simp only [hl]
  · simp only [h2, cond_false]
    rw [Int.toNat_natCast, Nat.sub_zero, loC_take, List.take_set_of_le (by omega)]
    refine ⟨⟨hp.1, hp.2.1, plain_loC _, trivial⟩, by trivial, ?_⟩
    have hl : (M.lo.take (M.lo.length - 1)).length = M.lo.length - 1 := by rw [List.length_take]; omega
    unfold mcB
    simp only [hl]
noncomputable def con57 : Con := gCon 37 one1 (fun M _ => M.pg.size ≤ 1000000000) (fun M xs => callM M (ix4 xs 0))
set_option maxRecDepth 100000 in
theorem con57_ok : con57.ok Try.prog w0 := gCon_ok (fun M xs => callM_alike M _) fun vs xs rw M e h8 a1 => by
  obtain ⟨t, rfl, rfl⟩ := one1_eq e
  simp only [ix4, List.getD_cons_zero]
  obtain ⟨l, pg, ky, sc, rs, pc, lo, code, val, nx, st, en⟩ := M
  obtain ⟨r0, r1, r2, r3, r4, r5, r6, r7, rfl⟩ := split8 h8
  refine ev_mc (cs := [con79, con82]) Try.func37 (by kernel_rfl) (fun c hc => by
    simp only [List.mem_cons, List.not_mem_nil, or_false] at hc
    rcases hc with rfl | rfl
    · exact con79_ok
    · exact con82_ok) ((eval57 _ _ _ _ _ _ _ _ _ _ _ rw _ _ _ _ t).mpr ?_)
  have hp : PL3 (insC l) (bytC sc) (loC lo) := ⟨plain_insC _, plain_bytC _, plain_loC _, trivial⟩
  unfold callM
  refine bifP (fun h1 => ?_) (fun h1 => ?_)
  · simp only [h1, cond_true]; exact ⟨hp, by trivial, rfl⟩
  refine bifP (fun h2 => ?_) (fun h2 => ?_)
  · simp only [h1, h2, cond_true, cond_false]
    refine ⟨⟨trivial, trivial, a1⟩, bifP (fun h3 => ?_) (fun h3 => ?_)⟩
    · simp only [h3, cond_true]; exact ⟨hp, by trivial, rfl⟩
    refine bifP (fun h4 => ?_) (fun h4 => ?_)
    · simp only [h3, h4, cond_true, cond_false]; exact ⟨hp, by trivial, rfl⟩
    simp only [h3, h4, cond_false]; exact ⟨hp, by trivial, rfl⟩
  · simp only [h1, h2, cond_false]
    refine ⟨⟨trivial, trivial, a1⟩, bifP (fun h3 => ?_) (fun h3 => ?_)⟩
    · simp only [h3, cond_true]; exact ⟨hp, by trivial, rfl⟩
    refine bifP (fun h4 => ?_) (fun h4 => ?_)
    · simp only [h3, h4, cond_true, cond_false]; exact ⟨hp, by trivial, rfl⟩
    simp only [h3, h4, cond_false]; exact ⟨⟨trivial, trivial, trivial⟩, hp, by trivial, rfl⟩

section
variable (n m : Nat) (pg ky val : ByteArray) (r0 r1 r2 r3 r4 r5 r6 r7 pc code nx st : Int) (en : Bool) (rw : Bool) (cl cs lc : List Value) (op s imm : Int) (K : List Value → AHeap → Prop)
noncomputable abbrev rd53 (n m : Nat) (pg ky val : ByteArray) (rs : List Int) (pc code nx st : Int) (en : Bool) (s : Int) : Option Value := nth (mcR n pg ky rs pc m code val nx st en) (4 + s.toNat * 1)
abbrev tl53 (n m : Nat) (pg ky val : ByteArray) (rs : List Int) (pc code nx st : Int) (en : Bool) (rw : Bool) (cl cs lc : List Value) (s imm : Int) (K : List Value → AHeap → Prop) (d : Nat) (fs : ByteArray) (k : Int) : Prop :=
  bif decide (0 ≤ s) && decide (s < 8) then bif okI .i64 (rd53 n m pg ky val rs pc code nx st en s) then
    (True ∧ True ∧ fs.size ≤ 1000000000) ∧ bif r79b fs (w (intO (rd53 n m pg ky val rs pc code nx st en s) + imm)) k then
      (True ∧ True ∧ ((r79a fs (w (intO (rd53 n m pg ky val rs pc code nx st en s) + imm)) k).size = 1 ∨ (r79a fs (w (intO (rd53 n m pg ky val rs pc code nx st en s) + imm)) k).size = 2)) ∧ PL3 cl cs lc ∧
        K [B (r79b fs (w (intO (rd53 n m pg ky val rs pc code nx st en s) + imm)) k)] (heapB G (mcK n cl rw pg ky cs (rs.set d (r80 (r79a fs (w (intO (rd53 n m pg ky val rs pc code nx st en s) + imm)) k))) pc m lc code val nx st en))
    else PL3 cl cs lc ∧ K [B (r79b fs (w (intO (rd53 n m pg ky val rs pc code nx st en s) + imm)) k)] (heapB G (mcK n cl rw pg ky cs rs pc m lc code val nx st en)) else False else False
def kyF (ky : ByteArray) : ByteArray := ⟨(ky.data.toList ++ (repS ⟨#[0]⟩ (w (16 - (ky.size : Int)))).data.toList).toArray⟩
theorem eval53 (d : Nat) (hd : d < 8) : evSeg Try.f33 [con78, con79, con80] ntM [PT G, AG [I op, I d, I s, I imm]] (mcK n cl rw pg ky cs [r0, r1, r2, r3, r4, r5, r6, r7] pc m lc code val nx st en) K
    = (bif op == 8 then tl53 n m pg ky val [r0, r1, r2, r3, r4, r5, r6, r7] pc code nx st en rw cl cs lc s imm K d pg 2 else
      bif op == 7 then tl53 n m pg ky val [r0, r1, r2, r3, r4, r5, r6, r7] pc code nx st en rw cl cs lc s imm K d pg 1 else
      bif op == 9 then (True ∧ True ∧ 0 ≤ w (16 - (ky.size : Int)) ∧ w (16 - (ky.size : Int)) ≤ 1000 ∧ 1 ≤ 1000) ∧ bif veq 4 (.string ky) (.string ky) && true then bif (ky.size + (repS ⟨#[0]⟩ (w (16 - (ky.size : Int)))).size).ble 1099511627776 then
        tl53 n m pg ky val [r0, r1, r2, r3, r4, r5, r6, r7] pc code nx st en rw cl cs lc s imm K d (kyF ky) 1 else False else False else
      bif op == 10 then bif Nat.ble 64 cs.length && true then bif Nat.ble 64 cs.length && ((cs.drop 0).take 64).all isU8 then
        tl53 n m pg ky val [r0, r1, r2, r3, r4, r5, r6, r7] pc code nx st en rw cl cs lc s imm K d ⟨(((cs.drop 0).take 64).map u8O).toArray⟩ 1 else False else False else
      tl53 n m pg ky val [r0, r1, r2, r3, r4, r5, r6, r7] pc code nx st en rw cl cs lc s imm K d pg 1) := by
  rcases d with _ | _ | _ | _ | _ | _ | _ | _ | d
  case succ.succ.succ.succ.succ.succ.succ.succ => exfalso; omega
  all_goals kernel_rfl
end
theorem r79_size {s : ByteArray} {a n : Int} (hs : s.size ≤ 1000000000) (h : r79b s a n = true) : (r79a s a n).size = n.toNat := by
  unfold r79a
  rw [h, cond_true]
  unfold r79b at h
  cases h1 : decide (a < 0) with
  | true => rw [h1] at h; simp at h
  | false =>
    cases h2 : decide (n < 0) with
    | true => rw [h1, h2] at h; simp at h
    | false =>
      cases h3 : decide (n > (s.size : Int)) with
      | true => rw [h1, h2, h3] at h; simp at h
      | false =>
        rw [h1, h2, h3] at h
        simp only [cond_false, Bool.not_eq_true', decide_eq_false_iff_not] at h h1 h2 h3
        rw [w_id (by omega) (by omega)] at h
        have e1 : w (a + n) = a + n := w_id (by omega) (by omega)
        rw [e1, ByteArray.size_extract]
        omega
theorem repS_len {c : Int} : (repS ⟨#[0]⟩ c).data.toList.length = c.toNat := by
  unfold repS
  simp [Lib.repeatL_length]
theorem kyF_size {ky : ByteArray} (h : ky.size ≤ 16) : (kyF ky).size = 16 := by
  have e1 : w (16 - (ky.size : Int)) = 16 - (ky.size : Int) := w_id (by omega) (by omega)
  have e2 : (kyF ky).size = ky.size + (repS ⟨#[0]⟩ (w (16 - (ky.size : Int)))).data.toList.length := by
    unfold kyF ByteArray.size
    simp
  rw [e2, repS_len, e1]
  omega
/-- What an instruction looks at. -/
def srcM (M : Mc) (op : Int) : ByteArray := bif op == 9 then kyF M.ky else bif op == 10 then ⟨M.sc.toArray⟩ else M.pg
def szM (op : Int) : Int := bif op == 8 then 2 else 1
def lookM (M : Mc) (op : Int) (d s : Nat) (imm : Int) : Bool × Mc := bif r79b (srcM M op) (w (rg M.rs s + imm)) (szM op) then (true, { M with rs := M.rs.set d (r80 (r79a (srcM M op) (w (rg M.rs s + imm)) (szM op))) }) else (false, M)
theorem lookM_alike (M : Mc) (op : Int) (d s : Nat) (imm : Int) : alike M (lookM M op d s imm).2 := alike_bif2 ⟨rfl, rfl, rfl⟩ ⟨rfl, rfl, rfl⟩
theorem u8O_bytC (sc : List UInt8) : (bytC sc).map u8O = sc ∧ (bytC sc).all isU8 = true := by
  constructor
  · exact unB_bytC sc
  · unfold bytC
    rw [List.all_map, List.all_eq_true]
    intro x _
    rfl
noncomputable def con53 : Con := gCon 33 insV (fun M xs => (0 ≤ ix4 xs 1 ∧ ix4 xs 1 < 8 ∧ 0 ≤ ix4 xs 2 ∧ ix4 xs 2 < 8) ∧ M.pg.size ≤ 1000000000 ∧ M.ky.size ≤ 16 ∧ M.sc.length = 64)
  (fun M xs => lookM M (ix4 xs 0) (ix4 xs 1).toNat (ix4 xs 2).toNat (ix4 xs 3))
set_option maxRecDepth 100000 in
set_option maxHeartbeats 4000000 in
theorem con53_ok : con53.ok Try.prog w0 := gCon_ok (fun M xs => lookM_alike M _ _ _ _) fun vs xs rw M e h8 ⟨⟨a1, a2, a3, a4⟩, b1, b2, b3⟩ => by
  obtain ⟨op, d, s, imm, rfl, rfl⟩ := insV_eq e
  simp only [ix4, List.getD_cons_zero, List.getD_cons_succ] at a1 a2 a3 a4 ⊢
  obtain ⟨l, pg, ky, sc, rs, pc, lo, code, val, nx, st, en⟩ := M
  obtain ⟨r0, r1, r2, r3, r4, r5, r6, r7, rfl⟩ := split8 h8
  obtain ⟨d, rfl⟩ := Int.eq_ofNat_of_zero_le a1
  obtain ⟨s, rfl⟩ := Int.eq_ofNat_of_zero_le a3
  simp only at b1 b2 b3
  obtain ⟨q1, q2⟩ := mc_rd (n := l.length) (m := lo.length) (pg := pg) (ky := ky) (val := val) (rs := [r0, r1, r2, r3, r4, r5, r6, r7]) (pc := pc) (code := code) (nx := nx) (st := st) (en := en) a3 a4
  rw [Int.toNat_natCast] at q1 q2
  have hp : PL3 (insC l) (bytC sc) (loC lo) := ⟨plain_insC _, plain_bytC _, plain_loC _, trivial⟩
  refine ev_mc (cs := [con78, con79, con80]) Try.func33 (by kernel_rfl) (fun c hc => by
    simp only [List.mem_cons, List.not_mem_nil, or_false] at hc
    rcases hc with rfl | rfl | rfl
    · exact con78_ok
    · exact con79_ok
    · exact con80_ok) ((eval53 l.length lo.length pg ky val r0 r1 r2 r3 r4 r5 r6 r7 pc code nx st en rw (insC l) (bytC sc) (loC lo) op s imm _ d (by omega)).mpr ?_)
  have tail : ∀ (fs : ByteArray) (k : Int), fs.size ≤ 1000000000 → (k = 1 ∨ k = 2) → srcM ⟨l, pg, ky, sc, [r0, r1, r2, r3, r4, r5, r6, r7], pc, lo, code, val, nx, st, en⟩ op = fs → szM op = k →
      tl53 l.length lo.length pg ky val [r0, r1, r2, r3, r4, r5, r6, r7] pc code nx st en rw (insC l) (bytC sc) (loC lo) s imm (fun rs' h' => rs' = [B (lookM ⟨l, pg, ky, sc, [r0, r1, r2, r3, r4, r5, r6, r7], pc, lo, code, val, nx, st, en⟩ op (d : Int).toNat (s : Int).toNat imm).1] ∧
        h' = heapB Try.prog.globals.size (mcB rw (lookM ⟨l, pg, ky, sc, [r0, r1, r2, r3, r4, r5, r6, r7], pc, lo, code, val, nx, st, en⟩ op (d : Int).toNat (s : Int).toNat imm).2)) d fs k := by
    intro fs k h1 h2 h3 h4
    unfold tl53 lookM
    rw [h3, h4, Int.toNat_natCast, Int.toNat_natCast]
    unfold rd53
    rw [Int.toNat_natCast, q1, q2, decide_eq_true a3, decide_eq_true a4]
    simp only [Bool.and_self, cond_true]
    refine ⟨⟨trivial, trivial, h1⟩, ?_⟩
    cases hb : r79b fs (w (rg [r0, r1, r2, r3, r4, r5, r6, r7] s + imm)) k with
    | false => exact ⟨hp, rfl, rfl⟩
    | true =>
      have hz := r79_size h1 hb
      refine ⟨⟨trivial, trivial, ?_⟩, hp, rfl, rfl⟩
      rw [hz]
      rcases h2 with rfl | rfl
      · exact .inl rfl
      · exact .inr rfl
  have w16 : w (16 - (ky.size : Int)) = 16 - (ky.size : Int) := w_id (by omega) (by omega)
  have hks := kyF_size b2
  refine bifP (fun h8 => ?_) (fun h8 => ?_)
  · have : op = 8 := by simpa using h8
    subst this
    exact tail pg 2 b1 (.inr rfl) rfl rfl
  refine bifP (fun h7 => ?_) (fun h7 => ?_)
  · have : op = 7 := by simpa using h7
    subst this
    exact tail pg 1 b1 (.inl rfl) rfl rfl
  refine bifP (fun h9 => ?_) (fun h9 => ?_)
  · have : op = 9 := by simpa using h9
    subst this
    have hv : veq 4 (.string ky) (.string ky) = true := by simp [veq]
    have hn : (ky.size + (repS ⟨#[0]⟩ (w (16 - (ky.size : Int)))).size).ble 1099511627776 = true := by
      have : (repS ⟨#[0]⟩ (w (16 - (ky.size : Int)))).size = (w (16 - (ky.size : Int))).toNat := repS_len
      rw [this, w16]
      exact Nat.ble_eq_true_of_le (by omega)
    rw [hv, hn]
    refine ⟨⟨trivial, trivial, by omega, by omega, by omega⟩, ?_⟩
    exact tail (kyF ky) 1 (by omega) (.inl rfl) rfl rfl
  refine bifP (fun h10 => ?_) (fun h10 => ?_)
  · have : op = 10 := by simpa using h10
    subst this
    have hl : Nat.ble 64 (bytC sc).length = true := Nat.ble_eq_true_of_le (by rw [bytC_len]; omega)
    have ht : ((bytC sc).drop 0).take 64 = bytC sc := by rw [List.drop_zero, List.take_of_length_le (by rw [bytC_len]; omega)]
    obtain ⟨u1, u2⟩ := u8O_bytC sc
    rw [hl, ht, u1, u2]
    refine tail ⟨sc.toArray⟩ 1 ?_ (.inl rfl) rfl rfl
    have : (ByteArray.mk sc.toArray).size = sc.length := by simp [ByteArray.size]
    omega
  · refine tail pg 1 b1 (.inl rfl) ?_ ?_
    · unfold srcM; rw [h9, h10]; rfl
    · unfold szM; rw [h8]; rfl

noncomputable def ft19 : FT := { loc := fun _ => false, mask := fun id => bif Nat.beq id 6 then live 113 [0, 4, 10, 11, 12, 13] else bif Nat.beq id 13 then live 113 [0, 4, 10, 11, 12, 13, 14] else [] }
noncomputable def todo19 : List Item := todoOf Try.f7 6
noncomputable def todo19b : List Item := todoOf Try.f7 13
abbrev pt19 : List Pth := [⟨10, [], true⟩, ⟨12, [], false⟩, ⟨12, [13], true⟩]
abbrev nt19 : Nt := { gh := [⟨12, some ([], 13), 2⟩], flags := [true, true], paths := pt19, tr := [(12, [13])] }
abbrev nt19b : Nt := { gh := [⟨12, some ([], 13), 2⟩], flags := [true, true], paths := pt19 ++ [⟨14, [], true⟩], tr := [(12, [13])] }
abbrev ntR2 : Nt := { gh := [], flags := [true, true], paths := [], tr := [] }
/-- Right, where the answer is known. -/
def con29k (b : Bool) : Con := { f := 14, gh := [], paths := [], spec := fun args bs => match bs with
  | [] => match args with
    | [v] => match aggV v with
      | some [o, d, s, i] => some (r29 o d s i = b, [B b], [])
      | _ => none
    | _ => none
  | _ => none }
noncomputable abbrev cs19 (b : Bool) : List Con := [con29k b, con30, con53, con54, con55, con56, con57]
abbrev seg19 (b : Bool) (K : List Value → AHeap → Prop) (L : List Item → List AV → AHeap → Prop) (t : List Item) (fr : List AV) (h : AHeap) : Prop :=
  segK3 Try.prog ft19 (semI Try.prog (fun _ => ft0) (callsOf G (cs19 b)) 400 20 (retT G ntR2 K)) Try.f7 [6, 13] 400 t fr (fun t fr h => match t with
  | .code (.region 6 _ _) :: _ => canonT G nt19 (L t) fr h
  | .code (.region 13 _ _) :: _ => canonT G nt19b (L t) fr h
  | _ => False) h
noncomputable abbrev mc19 (n : Nat) (pg ky : ByteArray) (rs : List Int) (pc : Int) (m : Nat) (code : Int) (val : ByteArray) (nx st : Int) (en : Bool) : List Value :=
  [SL G n 4, .string pg, .string ky, PT (G + 1), I (rg rs 0), I (rg rs 1), I (rg rs 2), I (rg rs 3), I (rg rs 4), I (rg rs 5), I (rg rs 6), I (rg rs 7), I pc, SL (G + 4) m 2, I code, .string val, I nx, I st, B en]
noncomputable def hp19 (n : Nat) (cl : List Value) (rw : Bool) (pg ky : ByteArray) (cs : List Value) (rs : List Int) (pc : Int) (m : Nat) (lc : List Value) (code : Int) (val : ByteArray) (nx st : Int) (en : Bool) : List (Option ABlk) :=
  [some (.cells cl rw), some (.cells cs true), some (.cells [I 0, .string ⟨#[]⟩, I 0, I 0] true), some (.cells (mc19 n pg ky rs pc m code val nx st en) true), some (.cells lc true)]
noncomputable def fr19 (n : Nat) (fuel steps : Int) : List AV := frm 113 [(0, .v (SL G n 4)), (4, .v (I fuel)), (10, .v (PT (G + 2))), (11, .v .nilIface), (12, .v (PT (G + 3))), (13, .v (I steps))]
noncomputable def fr19b (n : Nat) (fuel steps : Int) : List AV := frm 113 [(0, .v (SL G n 4)), (4, .v (I fuel)), (10, .v (PT (G + 2))), (11, .v .nilIface), (12, .v (PT (G + 3))), (13, .v (I steps)), (14, .v (PT (G + 5)))]
noncomputable def hp19b (n : Nat) (cl : List Value) (rw : Bool) (pg ky : ByteArray) (cs : List Value) (rs : List Int) (pc : Int) (m : Nat) (lc : List Value) (code : Int) (val : ByteArray) (nx st : Int) (en : Bool) (o d s i : Int) : List (Option ABlk) :=
  hp19 n cl rw pg ky cs rs pc m lc code val nx st en ++ [some (.cells [I o, I d, I s, I i] true)]

abbrev r8 (rs : List Int) : List Int := [rg rs 0, rg rs 1, rg rs 2, rg rs 3, rg rs 4, rg rs 5, rg rs 6, rg rs 7]
section
variable (n m : Nat) (pg ky val : ByteArray) (rs : List Int) (pc code nx st : Int) (en : Bool) (rw : Bool) (cl cs lc : List Value) (fuel steps o d s i : Int) (K : List Value → AHeap → Prop) (L : List Item → List AV → AHeap → Prop)
abbrev R19 (n m : Nat) (pg ky val : ByteArray) (rs : List Int) (pc code nx st : Int) (en : Bool) (rw : Bool) (cl cs lc : List Value) : Rw := ⟨n, m, rw, pg, ky, val, rs, pc, code, nx, st, en, cl, cs, lc⟩
abbrev Z4 : List Value := [I 0, .string ⟨#[]⟩, I 0, I 0]
abbrev PL2 (cl cs : List Value) : Prop := PlainL cl ∧ PlainL cs ∧ True
/-- It ends, with an error. -/
abbrev endP (cl : List Value) (rw : Bool) (K : List Value → AHeap → Prop) (cs : List Value) (steps e : Int) : Prop :=
  PL2 cl cs ∧ K [AG [I 0, .string ⟨#[]⟩, I 0, I steps], .iface 65 (I e)] (heapB G [some (.cells cl rw), some (.cells cs true)])
/-- It goes on. -/
abbrev contP (fuel steps : Int) (L : List Item → List AV → AHeap → Prop) (R : Rw) : Prop :=
  (PlainL R.cl ∧ PlainL R.cs ∧ PlainL Z4 ∧ PlainL (R.lc.take (R.m * 2)) ∧ True) ∧
    L todo19 (fr19 R.n fuel (w (steps + 1))) (heapB G (hp19 R.n R.cl R.wr R.pg R.ky R.cs R.rs (w (R.pc + 1)) R.m (R.lc.take (R.m * 2)) R.code R.val R.nx (w (steps + 1)) R.en))
abbrev okN (n m : Nat) (cl cs lc : List Value) (d s : Int) : Prop := PL3 cl cs lc ∧ PL3 cl cs lc ∧ Fit n m cl cs lc ∧ 0 ≤ d ∧ d < 8 ∧ 0 ≤ s ∧ s < 8
/-- A method is asked. -/
abbrev callP (fuel steps : Int) (K : List Value → AHeap → Prop) (L : List Item → List AV → AHeap → Prop) (R : Rw) (ok : Prop) (g : Bool × Mc) : Prop :=
  (PL3 R.cl R.cs R.lc ∧ PL3 R.cl (bytC g.2.sc) (loC g.2.lo) ∧ Fit R.n R.m R.cl R.cs R.lc ∧ ok) ∧ bif !g.1 then endP R.cl R.wr K (bytC g.2.sc) (w (steps + 1)) 15 else contP fuel steps L (outM R g.2)
abbrev right19 (o d s i : Int) : Prop := True ∧ True ∧ r29 o d s i = true
theorem start19 : seg19 true K L [.code (Try.f7.body.getD .skip)] (startF Try.f7 [SL G n 4, .string pg, .string ky, PT (G + 1), I fuel]) (heapB G [some (.cells cl rw), some (.cells cs true)])
    = (bif (pg.size : Int) != 512 then endP cl rw K cs 0 1 else bif ky.toList == [] then endP cl rw K cs 0 1 else bif decide ((ky.size : Int) > 16) then endP cl rw K cs 0 1 else
      (PlainL cl ∧ PlainL cs ∧ PlainL Z4 ∧ PlainL [] ∧ True) ∧ L todo19 (fr19 n fuel 0) (heapB G (hp19 n cl rw pg ky cs [0, (ky.size : Int), 0, 0, 0, 0, 0, 0] 0 0 [] 0 ⟨#[]⟩ 0 0 false))) := by kernel_rfl
abbrev I4 (cl : List Value) (pc : Int) : List Value := splice [I 0, I 0, I 0, I 0] 0 [I (ix cl pc 0), I (ix cl pc 1), I (ix cl pc 2), I (ix cl pc 3)]
theorem head19 : seg19 true K L todo19 (fr19 n fuel steps) (heapB G (hp19 n cl rw pg ky cs rs pc m lc code val nx st en))
    = (bif !en then bif decide (pc ≥ (n : Int)) then endP cl rw K cs steps 15 else bif decide (steps ≥ fuel) then endP cl rw K cs steps 12 else
      bif decide (0 ≤ pc) && decide (pc < (n : Int)) then bif (0 + pc.toNat * 4 + 4).ble cl.length && (ox cl pc 0 && (ox cl pc 1 && (ox cl pc 2 && (ox cl pc 3 && true)))) then
        (PlainL cl ∧ PlainL cs ∧ PlainL Z4 ∧ PlainL (lc.take (m * 2)) ∧ PlainL (I4 cl pc) ∧ True) ∧ L todo19b (fr19b n fuel steps) (heapB G (hp19b n cl rw pg ky cs rs pc m (lc.take (m * 2)) code val nx st en (ix cl pc 0) (ix cl pc 1) (ix cl pc 2) (ix cl pc 3))) else False else False
      else PL2 cl cs ∧ K [AG [I code, .string val, I nx, I st], .nilIface] (heapB G [some (.cells cl rw), some (.cells cs true)])) := by kernel_rfl
theorem bF : seg19 false K L todo19b (fr19b n fuel steps) (heapB G (hp19b n cl rw pg ky cs rs pc m lc code val nx st en o d s i))
    = ((True ∧ True ∧ r29 o d s i = false) ∧ endP cl rw K cs (w (steps + 1)) 15) := by kernel_rfl
/-- A register, read. -/
noncomputable abbrev rd19 (n m : Nat) (pg ky val : ByteArray) (rs : List Int) (pc code nx st : Int) (en : Bool) (d : Int) : Option Value := nth (mc19 n pg ky rs pc m code val nx st en) (4 + d.toNat * 1)
theorem b0 : seg19 true K L todo19b (fr19b n fuel steps) (heapB G (hp19b n cl rw pg ky cs rs pc m lc code val nx st en 0 d s i))
    = (right19 0 d s i ∧ okN n m cl cs lc d s ∧ contP fuel steps L (R19 n m pg ky val (numR (r8 rs) 0 d.toNat s.toNat i) pc code nx st en rw cl cs lc)) := by kernel_rfl
theorem b1 : seg19 true K L todo19b (fr19b n fuel steps) (heapB G (hp19b n cl rw pg ky cs rs pc m lc code val nx st en 1 d s i))
    = (right19 1 d s i ∧ okN n m cl cs lc d s ∧ contP fuel steps L (R19 n m pg ky val (numR (r8 rs) 1 d.toNat s.toNat i) pc code nx st en rw cl cs lc)) := by kernel_rfl
theorem b2 : seg19 true K L todo19b (fr19b n fuel steps) (heapB G (hp19b n cl rw pg ky cs rs pc m lc code val nx st en 2 d s i))
    = (right19 2 d s i ∧ okN n m cl cs lc d s ∧ contP fuel steps L (R19 n m pg ky val (numR (r8 rs) 2 d.toNat s.toNat i) pc code nx st en rw cl cs lc)) := by kernel_rfl
theorem b3 : seg19 true K L todo19b (fr19b n fuel steps) (heapB G (hp19b n cl rw pg ky cs rs pc m lc code val nx st en 3 d s i))
    = (right19 3 d s i ∧ okN n m cl cs lc d s ∧ contP fuel steps L (R19 n m pg ky val (numR (r8 rs) 3 d.toNat s.toNat i) pc code nx st en rw cl cs lc)) := by kernel_rfl
theorem b4 : seg19 true K L todo19b (fr19b n fuel steps) (heapB G (hp19b n cl rw pg ky cs rs pc m lc code val nx st en 4 d s i))
    = (right19 4 d s i ∧ okN n m cl cs lc d s ∧ contP fuel steps L (R19 n m pg ky val (numR (r8 rs) 4 d.toNat s.toNat i) pc code nx st en rw cl cs lc)) := by kernel_rfl
theorem b5 : seg19 true K L todo19b (fr19b n fuel steps) (heapB G (hp19b n cl rw pg ky cs rs pc m lc code val nx st en 5 d s i))
    = (right19 5 d s i ∧ okN n m cl cs lc d s ∧ contP fuel steps L (R19 n m pg ky val (numR (r8 rs) 5 d.toNat s.toNat i) pc code nx st en rw cl cs lc)) := by kernel_rfl
theorem b6 : seg19 true K L todo19b (fr19b n fuel steps) (heapB G (hp19b n cl rw pg ky cs rs pc m lc code val nx st en 6 d s i))
    = (right19 6 d s i ∧ okN n m cl cs lc d s ∧ contP fuel steps L (R19 n m pg ky val (numR (r8 rs) 6 d.toNat s.toNat i) pc code nx st en rw cl cs lc)) := by kernel_rfl
theorem b7 : seg19 true K L todo19b (fr19b n fuel steps) (heapB G (hp19b n cl rw pg ky cs rs pc m lc code val nx st en 7 d s i))
    = (right19 7 d s i ∧ okN n m cl cs lc d s ∧ callP fuel steps K L (R19 n m pg ky val (r8 rs) pc code nx st en rw cl cs lc)
        ((0 ≤ d ∧ d < 8 ∧ 0 ≤ s ∧ s < 8) ∧ pg.size ≤ 1000000000 ∧ ky.size ≤ 16 ∧ (unB cs).length = 64)
        (lookM (R19 n m pg ky val (r8 rs) pc code nx st en rw cl cs lc).mc 7 d.toNat s.toNat i)) := by kernel_rfl
theorem b8 : seg19 true K L todo19b (fr19b n fuel steps) (heapB G (hp19b n cl rw pg ky cs rs pc m lc code val nx st en 8 d s i))
    = (right19 8 d s i ∧ okN n m cl cs lc d s ∧ callP fuel steps K L (R19 n m pg ky val (r8 rs) pc code nx st en rw cl cs lc)
        ((0 ≤ d ∧ d < 8 ∧ 0 ≤ s ∧ s < 8) ∧ pg.size ≤ 1000000000 ∧ ky.size ≤ 16 ∧ (unB cs).length = 64)
        (lookM (R19 n m pg ky val (r8 rs) pc code nx st en rw cl cs lc).mc 8 d.toNat s.toNat i)) := by kernel_rfl
theorem b9 : seg19 true K L todo19b (fr19b n fuel steps) (heapB G (hp19b n cl rw pg ky cs rs pc m lc code val nx st en 9 d s i))
    = (right19 9 d s i ∧ okN n m cl cs lc d s ∧ callP fuel steps K L (R19 n m pg ky val (r8 rs) pc code nx st en rw cl cs lc)
        ((0 ≤ d ∧ d < 8 ∧ 0 ≤ s ∧ s < 8) ∧ pg.size ≤ 1000000000 ∧ ky.size ≤ 16 ∧ (unB cs).length = 64)
        (lookM (R19 n m pg ky val (r8 rs) pc code nx st en rw cl cs lc).mc 9 d.toNat s.toNat i)) := by kernel_rfl
theorem b10 : seg19 true K L todo19b (fr19b n fuel steps) (heapB G (hp19b n cl rw pg ky cs rs pc m lc code val nx st en 10 d s i))
    = (right19 10 d s i ∧ okN n m cl cs lc d s ∧ callP fuel steps K L (R19 n m pg ky val (r8 rs) pc code nx st en rw cl cs lc)
        ((0 ≤ d ∧ d < 8 ∧ 0 ≤ s ∧ s < 8) ∧ pg.size ≤ 1000000000 ∧ ky.size ≤ 16 ∧ (unB cs).length = 64)
        (lookM (R19 n m pg ky val (r8 rs) pc code nx st en rw cl cs lc).mc 10 d.toNat s.toNat i)) := by kernel_rfl
theorem b11 : seg19 true K L todo19b (fr19b n fuel steps) (heapB G (hp19b n cl rw pg ky cs rs pc m lc code val nx st en 11 d s i))
    = (right19 11 d s i ∧ okN n m cl cs lc d s ∧ bif decide (0 ≤ d) && decide (d < 8) then bif okI .i64 (rd19 n m pg ky val rs pc code nx st en d) then bif decide ((w (intO (rd19 n m pg ky val rs pc code nx st en d) + i)) < 0) then endP cl rw K cs (w (steps + 1)) 15 else
        bif decide ((w (intO (rd19 n m pg ky val rs pc code nx st en d) + i)) ≥ 64) then endP cl rw K cs (w (steps + 1)) 15 else bif decide (0 ≤ s) && decide (s < 8) then bif okI .i64 (rd19 n m pg ky val rs pc code nx st en s) then
        bif decide (0 ≤ (w (intO (rd19 n m pg ky val rs pc code nx st en d) + i))) && decide ((w (intO (rd19 n m pg ky val rs pc code nx st en d) + i)) < 64) then bif (1 : Nat) == 1 && (0 + (w (intO (rd19 n m pg ky val rs pc code nx st en d) + i)).toNat * 1 + 1).ble cs.length then
        contP fuel steps L (R19 n m pg ky val (r8 rs) pc code nx st en rw cl (splice cs (0 + (w (intO (rd19 n m pg ky val rs pc code nx st en d) + i)).toNat * 1) [.int .u8 (IntKind.u8.wrap (intO (rd19 n m pg ky val rs pc code nx st en s)))]) lc) else False else False else False else False else False else False) := by kernel_rfl
theorem b12 : seg19 true K L todo19b (fr19b n fuel steps) (heapB G (hp19b n cl rw pg ky cs rs pc m lc code val nx st en 12 d s i))
    = (right19 12 d s i ∧ okN n m cl cs lc d s ∧ bif decide (0 ≤ d) && decide (d < 8) then bif okI .i64 (rd19 n m pg ky val rs pc code nx st en d) then bif decide (0 ≤ s) && decide (s < 8) then bif okI .i64 (rd19 n m pg ky val rs pc code nx st en s) then
        TTT ∧ callP fuel steps K L (R19 n m pg ky val (r8 rs) pc code nx st en rw cl cs lc) ((unIns cl).length < 1000000000 ∧ (unL lc).length < 1000000000 ∧ (∀ o ∈ unL lc, 0 ≤ o.1 ∧ o.1 ≤ pc)) (jumpM (R19 n m pg ky val (r8 rs) pc code nx st en rw cl cs lc).mc i) else False else False else False else False) := by kernel_rfl
theorem b13 : seg19 true K L todo19b (fr19b n fuel steps) (heapB G (hp19b n cl rw pg ky cs rs pc m lc code val nx st en 13 d s i))
    = (right19 13 d s i ∧ okN n m cl cs lc d s ∧ bif decide (0 ≤ d) && decide (d < 8) then bif okI .i64 (rd19 n m pg ky val rs pc code nx st en d) then bif decide (0 ≤ s) && decide (s < 8) then bif okI .i64 (rd19 n m pg ky val rs pc code nx st en s) then
        TTT ∧ bif !r54 13 (intO (rd19 n m pg ky val rs pc code nx st en d)) (intO (rd19 n m pg ky val rs pc code nx st en s)) then contP fuel steps L (R19 n m pg ky val (r8 rs) pc code nx st en rw cl cs lc) else callP fuel steps K L (R19 n m pg ky val (r8 rs) pc code nx st en rw cl cs lc) ((unIns cl).length < 1000000000 ∧ (unL lc).length < 1000000000 ∧ (∀ o ∈ unL lc, 0 ≤ o.1 ∧ o.1 ≤ pc)) (jumpM (R19 n m pg ky val (r8 rs) pc code nx st en rw cl cs lc).mc i) else False else False else False else False) := by kernel_rfl
theorem b14 : seg19 true K L todo19b (fr19b n fuel steps) (heapB G (hp19b n cl rw pg ky cs rs pc m lc code val nx st en 14 d s i))
    = (right19 14 d s i ∧ okN n m cl cs lc d s ∧ bif decide (0 ≤ d) && decide (d < 8) then bif okI .i64 (rd19 n m pg ky val rs pc code nx st en d) then bif decide (0 ≤ s) && decide (s < 8) then bif okI .i64 (rd19 n m pg ky val rs pc code nx st en s) then
        TTT ∧ bif !r54 14 (intO (rd19 n m pg ky val rs pc code nx st en d)) (intO (rd19 n m pg ky val rs pc code nx st en s)) then contP fuel steps L (R19 n m pg ky val (r8 rs) pc code nx st en rw cl cs lc) else callP fuel steps K L (R19 n m pg ky val (r8 rs) pc code nx st en rw cl cs lc) ((unIns cl).length < 1000000000 ∧ (unL lc).length < 1000000000 ∧ (∀ o ∈ unL lc, 0 ≤ o.1 ∧ o.1 ≤ pc)) (jumpM (R19 n m pg ky val (r8 rs) pc code nx st en rw cl cs lc).mc i) else False else False else False else False) := by kernel_rfl
theorem b15 : seg19 true K L todo19b (fr19b n fuel steps) (heapB G (hp19b n cl rw pg ky cs rs pc m lc code val nx st en 15 d s i))
    = (right19 15 d s i ∧ okN n m cl cs lc d s ∧ bif decide (0 ≤ d) && decide (d < 8) then bif okI .i64 (rd19 n m pg ky val rs pc code nx st en d) then bif decide (0 ≤ s) && decide (s < 8) then bif okI .i64 (rd19 n m pg ky val rs pc code nx st en s) then
        TTT ∧ bif !r54 15 (intO (rd19 n m pg ky val rs pc code nx st en d)) (intO (rd19 n m pg ky val rs pc code nx st en s)) then contP fuel steps L (R19 n m pg ky val (r8 rs) pc code nx st en rw cl cs lc) else callP fuel steps K L (R19 n m pg ky val (r8 rs) pc code nx st en rw cl cs lc) ((unIns cl).length < 1000000000 ∧ (unL lc).length < 1000000000 ∧ (∀ o ∈ unL lc, 0 ≤ o.1 ∧ o.1 ≤ pc)) (jumpM (R19 n m pg ky val (r8 rs) pc code nx st en rw cl cs lc).mc i) else False else False else False else False) := by kernel_rfl
theorem b16 : seg19 true K L todo19b (fr19b n fuel steps) (heapB G (hp19b n cl rw pg ky cs rs pc m lc code val nx st en 16 d s i))
    = (right19 16 d s i ∧ okN n m cl cs lc d s ∧ bif decide (0 ≤ d) && decide (d < 8) then bif okI .i64 (rd19 n m pg ky val rs pc code nx st en d) then bif decide (0 ≤ s) && decide (s < 8) then bif okI .i64 (rd19 n m pg ky val rs pc code nx st en s) then
        TTT ∧ bif !r54 16 (intO (rd19 n m pg ky val rs pc code nx st en d)) (intO (rd19 n m pg ky val rs pc code nx st en s)) then contP fuel steps L (R19 n m pg ky val (r8 rs) pc code nx st en rw cl cs lc) else callP fuel steps K L (R19 n m pg ky val (r8 rs) pc code nx st en rw cl cs lc) ((unIns cl).length < 1000000000 ∧ (unL lc).length < 1000000000 ∧ (∀ o ∈ unL lc, 0 ≤ o.1 ∧ o.1 ≤ pc)) (jumpM (R19 n m pg ky val (r8 rs) pc code nx st en rw cl cs lc).mc i) else False else False else False else False) := by kernel_rfl
theorem b17 : seg19 true K L todo19b (fr19b n fuel steps) (heapB G (hp19b n cl rw pg ky cs rs pc m lc code val nx st en 17 d s i))
    = (right19 17 d s i ∧ okN n m cl cs lc d s ∧ bif (m : Int) == 3 then endP cl rw K cs (w (steps + 1)) 15 else bif veq 4 (SL (G + 4) m 2) (SL (G + 4) m 2) && true then bif room (m + 1) 16 then bif (0 + m * 2).ble lc.length then
        contP fuel steps L (R19 n (m + 1) pg ky val (r8 rs) pc code nx st en rw cl cs ((lc.drop 0).take (m * 2) ++ [I pc, I i])) else False else False else False) := by kernel_rfl
theorem b18 : seg19 true K L todo19b (fr19b n fuel steps) (heapB G (hp19b n cl rw pg ky cs rs pc m lc code val nx st en 18 d s i))
    = (right19 18 d s i ∧ okN n m cl cs lc d s ∧ callP fuel steps K L (R19 n m pg ky val (r8 rs) pc code nx st en rw cl cs lc) ((unL lc).length < 1000000000) (endM (R19 n m pg ky val (r8 rs) pc code nx st en rw cl cs lc).mc)) := by kernel_rfl
theorem b19 : seg19 true K L todo19b (fr19b n fuel steps) (heapB G (hp19b n cl rw pg ky cs rs pc m lc code val nx st en 19 d s i))
    = (right19 19 d s i ∧ okN n m cl cs lc d s ∧ callP fuel steps K L (R19 n m pg ky val (r8 rs) pc code nx st en rw cl cs lc) (pg.size ≤ 1000000000) (callM (R19 n m pg ky val (r8 rs) pc code nx st en rw cl cs lc).mc i)) := by kernel_rfl
theorem b20 : seg19 true K L todo19b (fr19b n fuel steps) (heapB G (hp19b n cl rw pg ky cs rs pc m lc code val nx st en 20 d s i))
    = (right19 20 d s i ∧ okN n m cl cs lc d s ∧ contP fuel steps L (R19 n m pg ky val (r8 rs) pc (rg rs 0) nx st true rw cl cs lc)) := by kernel_rfl
end

def insN (M : Mc) : Ins := M.l.getD M.pc.toNat insD
def storeM (M : Mc) (x : Ins) : Bool × Mc := bif decide (w (rg M.rs x.d.toNat + x.imm) < 0) then (false, M) else bif decide (w (rg M.rs x.d.toNat + x.imm) ≥ 64) then (false, M) else
  (true, { M with sc := M.sc.set (w (rg M.rs x.d.toNat + x.imm)).toNat (UInt8.ofNat (IntKind.u8.wrap (rg M.rs x.s.toNat)).toNat) })
def loopM (M : Mc) (x : Ins) : Bool × Mc := bif (M.lo.length : Int) == 3 then (false, M) else (true, { M with lo := M.lo ++ [(M.pc, x.imm)] })
/-- Instructions that do not reckon. -/
def doM (M : Mc) (x : Ins) : Bool × Mc :=
  bif x.op == 7 || x.op == 8 || x.op == 9 || x.op == 10 then lookM M x.op x.d.toNat x.s.toNat x.imm else
  bif x.op == 11 then storeM M x else bif x.op == 12 then jumpM M x.imm else
  bif x.op == 13 || x.op == 14 || x.op == 15 || x.op == 16 then (bif !r54 x.op (rg M.rs x.d.toNat) (rg M.rs x.s.toNat) then (true, M) else jumpM M x.imm) else
  bif x.op == 17 then loopM M x else bif x.op == 18 then endM M else bif x.op == 19 then callM M x.imm else (true, { M with code := rg M.rs 0, en := true })
def stepX (M : Mc) (x : Ins) : Bool × Mc := bif isNum x.op then (true, { M with rs := numR M.rs x.op x.d.toNat x.s.toNat x.imm }) else doM M x
/-- One instruction. -/
def stepM (M : Mc) : Bool × Mc := bif !right (insN M) then (false, M) else stepX M (insN M)
def nextM (M : Mc) (steps : Int) : Mc := { M with pc := w (M.pc + 1), st := w (steps + 1) }
/-- A run: the error's number, the machine, the steps. -/
def runF (fuel : Int) : Nat → Mc → Int → Int × Mc × Int
  | 0, M, steps => (12, M, steps)
  | f + 1, M, steps => bif M.en then (0, M, M.st) else bif decide (M.pc ≥ (M.l.length : Int)) then (15, M, steps) else bif decide (steps ≥ fuel) then (12, M, steps) else
    bif (stepM M).1 then runF fuel f (nextM (stepM M).2 steps) (w (steps + 1)) else (15, (stepM M).2, w (steps + 1))
def ansR (r : Int × Mc × Int) : List Value := bif r.1 == 0 then [AG [I r.2.1.code, .string r.2.1.val, I r.2.1.nx, I r.2.1.st], .nilIface] else [AG [I 0, .string ⟨#[]⟩, I 0, I r.2.2], .iface 65 (I r.1)]
noncomputable def hpM (rw : Bool) (M : Mc) : List (Option ABlk) := hp19 M.l.length (insC M.l) rw M.pg M.ky (bytC M.sc) M.rs M.pc M.lo.length (loC M.lo) M.code M.val M.nx M.st M.en
noncomputable def hpE (rw : Bool) (M : Mc) : List (Option ABlk) := [some (.cells (insC M.l) rw), some (.cells (bytC M.sc) true)]

/-- What holds of a machine at work. -/
structure Inv (M : Mc) : Prop where
  rs : M.rs.length = 8
  ky : M.ky.size ≤ 16
  pg : M.pg.size ≤ 1000000000
  sc : M.sc.length = 64
  n : M.l.length < 1000000000
  pc0 : 0 ≤ M.pc
  pcn : M.pc ≤ (M.l.length : Int)
  lo3 : M.lo.length ≤ 3
  los : ∀ o ∈ M.lo, 0 ≤ o.1 ∧ o.1 < M.pc
  srt : M.lo.Pairwise fun a b => a.1 < b.1

theorem right_op {x : Ins} (h : right x = true) : x.op = 0 ∨ x.op = 1 ∨ x.op = 2 ∨ x.op = 3 ∨ x.op = 4 ∨ x.op = 5 ∨ x.op = 6 ∨ x.op = 7 ∨ x.op = 8 ∨ x.op = 9 ∨ x.op = 10 ∨ x.op = 11 ∨ x.op = 12 ∨ x.op = 13 ∨ x.op = 14 ∨ x.op = 15 ∨ x.op = 16 ∨ x.op = 17 ∨ x.op = 18 ∨ x.op = 19 ∨ x.op = 20 := by
  refine Classical.byContradiction fun hn => ?_
  simp only [not_or] at hn
  have hk : ∀ k : Int, x.op ≠ k → (x.op == k) = false := fun k hk => beq_eq_false_iff_ne.mpr hk
  obtain ⟨a0, a1, a2, a3, a4, a5, a6, a7, a8, a9, a10, a11, a12, a13, a14, a15, a16, a17, a18, a19, a20⟩ := hn
  have q : right x = false := by
    unfold right r29
    simp only [hk _ a0, hk _ a1, hk _ a2, hk _ a3, hk _ a4, hk _ a5, hk _ a6, hk _ a7, hk _ a8, hk _ a9, hk _ a10, hk _ a11, hk _ a12, hk _ a13, hk _ a14, hk _ a15, hk _ a16, hk _ a17, hk _ a18, hk _ a19, hk _ a20, cond_false, Bool.cond_self]
  rw [q] at h
  cases h

theorem con29k_ok (b : Bool) : (con29k b).ok Try.prog w0 := by
  intro args bs p rs out e hp
  simp only [con29k] at e
  split at e <;> first | (simp at e; done) | skip
  split at e <;> first | (simp at e; done) | skip
  rename_i v
  split at e <;> first | (simp at e; done) | skip
  rename_i o d s i h0
  simp only [Option.some.injEq, Prod.mk.injEq] at e
  obtain ⟨rfl, rfl, rfl⟩ := e
  refine con29_ok [v] [] True [B b] [] ?_ trivial
  unfold con29 pureCon F29
  simp only [h0, hp]

abbrev SemR (w0 : World) (K : List Value → AHeap → Prop) (t : List Item) (fr : List AV) (h : AHeap) : Prop := Agm.Sem Try.prog w0 (Try.prog.globals.size + ntR2.flags.length) Try.f7 (retT G ntR2 K) t fr h
theorem leaf19 {K : List Value → AHeap → Prop} : ∀ t fr h, (match t with
    | .code (.region 6 _ _) :: _ => canonT G nt19 (SemR w0 K t) fr h
    | .code (.region 13 _ _) :: _ => canonT G nt19b (SemR w0 K t) fr h
    | _ => False) → SemR w0 K t fr h := by
  intro t fr h e
  split at e
  · exact canonT_semN (nt := nt19) rfl e
  · exact canonT_semN (nt := nt19b) rfl e
  · exact e.elim
theorem ok19 (b : Bool) : ∀ c ∈ cs19 b, c.ok Try.prog w0 := fun c hc => by
  simp only [List.mem_cons, List.not_mem_nil, or_false] at hc
  rcases hc with rfl | rfl | rfl | rfl | rfl | rfl | rfl
  · exact con29k_ok b
  · exact con30_ok
  · exact con53_ok
  · exact con54_ok
  · exact con55_ok
  · exact con56_ok
  · exact con57_ok

theorem bifB {α : Type} {P : α → Prop} {c : Bool} {x y : α} (h1 : c = true → P x) (h2 : c = false → P y) : P (bif c then x else y) := by
  cases c
  · exact h2 rfl
  · exact h1 rfl
theorem lookM_ok {M : Mc} {op : Int} {d s : Nat} {imm : Int} (h : (lookM M op d s imm).1 = true) : (lookM M op d s imm).2 = { M with rs := M.rs.set d (r80 (r79a (srcM M op) (w (rg M.rs s + imm)) (szM op))) } := by
  unfold lookM at h ⊢
  cases e : r79b (srcM M op) (w (rg M.rs s + imm)) (szM op) with
  | false => rw [e] at h; cases h
  | true => rfl
theorem leaveL_take (l : List Ins) (t : Int) : ∀ (f : Nat) (lo : List (Int × Int)), ∃ k, leaveL l t f lo = lo.take k := by
  intro f
  induction f with
  | zero => intro lo; exact ⟨lo.length, by rw [List.take_length]; rfl⟩
  | succ f ih =>
    intro lo
    rw [leaveL]
    refine bifB (P := fun r => ∃ k, r = lo.take k) (fun _ => ?_) (fun _ => ⟨lo.length, (List.take_length).symm⟩)
    refine bifB (P := fun r => ∃ k, r = lo.take k) (fun _ => ?_) (fun _ => ⟨lo.length, (List.take_length).symm⟩)
    obtain ⟨k, hk⟩ := ih (lo.take (lo.length - 1))
    exact ⟨min k (lo.length - 1), by rw [hk, List.take_take]⟩
/-- The loops' invariant. -/
def LoOk (lo : List (Int × Int)) (pc : Int) : Prop := lo.length ≤ 3 ∧ (∀ o ∈ lo, 0 ≤ o.1 ∧ o.1 < pc) ∧ lo.Pairwise fun a b => a.1 < b.1
theorem LoOk.take {lo : List (Int × Int)} {pc pc' : Int} (h : LoOk lo pc) (k : Nat) (hp : pc ≤ pc') : LoOk (lo.take k) pc' :=
  ⟨by rw [List.length_take]; have := h.1; omega, fun o ho => ⟨(h.2.1 o (List.mem_of_mem_take ho)).1, by have := (h.2.1 o (List.mem_of_mem_take ho)).2; omega⟩, h.2.2.sublist (List.take_sublist _ _)⟩
theorem LoOk.mono {lo : List (Int × Int)} {pc pc' : Int} (h : LoOk lo pc) (hp : pc ≤ pc') : LoOk lo pc' := ⟨h.1, fun o ho => ⟨(h.2.1 o ho).1, by have := (h.2.1 o ho).2; omega⟩, h.2.2⟩
theorem top_max {lo : List (Int × Int)} (h : lo.Pairwise fun a b => a.1 < b.1) (h0 : 0 < lo.length) : ∀ o ∈ lo, o.1 ≤ (topL lo).1 := by
  intro o ho
  obtain ⟨i, hi, rfl⟩ := List.getElem_of_mem ho
  have ht : topL lo = lo[lo.length - 1] := by
    unfold topL
    rw [List.getD_eq_getElem?_getD, List.getElem?_eq_getElem (by omega)]; rfl
  rw [ht]
  rcases Nat.lt_or_ge i (lo.length - 1) with hlt | hge
  · exact Int.le_of_lt (List.pairwise_iff_getElem.1 h i (lo.length - 1) hi (by omega) hlt)
  · have : i = lo.length - 1 := by omega
    subst this; exact Int.le_refl _
theorem set_fst {lo : List (Int × Int)} {k : Nat} {v : Int} (h : k < lo.length) : (lo.set k (lo[k].1, v)).map (·.1) = lo.map (·.1) := by
  rw [List.map_set]
  have h' : k < (lo.map (·.1)).length := by rw [List.length_map]; exact h
  have e : (lo.map (·.1))[k]'h' = lo[k].1 := List.getElem_map ..
  have := List.set_getElem_self (i := k) h'
  rw [e] at this
  exact this
theorem pw_fst {lo : List (Int × Int)} : (lo.Pairwise fun a b => a.1 < b.1) ↔ (lo.map (·.1)).Pairwise (· < ·) := by rw [List.pairwise_map]
theorem LoOk.back {lo : List (Int × Int)} {pc v : Int} (h : LoOk lo pc) (h0 : 0 < lo.length) : LoOk (lo.set (lo.length - 1) ((topL lo).1, v)) ((topL lo).1 + 1) := by
  have h' : lo.length - 1 < lo.length := by omega
  have ht : topL lo = lo[lo.length - 1] := by
    unfold topL
    rw [List.getD_eq_getElem?_getD, List.getElem?_eq_getElem h']; rfl
  have hs : (lo.set (lo.length - 1) ((topL lo).1, v)).map (·.1) = lo.map (·.1) := by rw [ht]; exact set_fst h'
  refine ⟨by rw [List.length_set]; exact h.1, fun o ho => ?_, ?_⟩
  · have : o.1 ∈ lo.map (·.1) := by rw [← hs]; exact List.mem_map.2 ⟨o, ho, rfl⟩
    obtain ⟨q, hq, e⟩ := List.mem_map.1 this
    have := h.2.1 q hq
    have := top_max h.2.2 h0 q hq
    omega
  · rw [pw_fst, hs, ← pw_fst]; exact h.2.2
theorem LoOk.push {lo : List (Int × Int)} {pc v : Int} (h : LoOk lo pc) (h3 : lo.length ≠ 3) (h0 : 0 ≤ pc) : LoOk (lo ++ [(pc, v)]) (pc + 1) := by
  refine ⟨by rw [List.length_append]; have := h.1; simp; omega, fun o ho => ?_, ?_⟩
  · rcases List.mem_append.1 ho with ho | ho
    · have := h.2.1 o ho; omega
    · simp only [List.mem_singleton] at ho; subst ho; exact ⟨h0, by simp only; omega⟩
  · rw [List.pairwise_append]
    refine ⟨h.2.2, List.pairwise_singleton .., fun a ha b hb => ?_⟩
    simp only [List.mem_singleton] at hb; subst hb
    exact (h.2.1 a ha).2
theorem Inv.lo {M : Mc} (h : Inv M) : LoOk M.lo M.pc := ⟨h.lo3, h.los, h.srt⟩
/-- What a step leaves. -/
structure Kept (M M' : Mc) : Prop where
  al : alike M M'
  rs : M'.rs.length = 8
  sc : M'.sc.length = 64
  pc : 0 ≤ M'.pc + 1 ∧ M'.pc + 1 ≤ (M.l.length : Int)
  lo : LoOk M'.lo (M'.pc + 1)
theorem Kept.inv {M M' : Mc} (hI : Inv M) (h : Kept M M') (steps : Int) : Inv (nextM M' steps) ∧ (nextM M' steps).pc = M'.pc + 1 := by
  obtain ⟨h1, h2, h3⟩ := h.al
  have hn := hI.n
  have hw : w (M'.pc + 1) = M'.pc + 1 := w_id (by have := h.pc.1; omega) (by have := h.pc.2; omega)
  have e : (nextM M' steps).pc = M'.pc + 1 := hw
  refine ⟨⟨h.rs, ?_, ?_, h.sc, ?_, ?_, ?_, h.lo.1, ?_, h.lo.2.2⟩, e⟩
  · show M'.ky.size ≤ 16; rw [h3]; exact hI.ky
  · show M'.pg.size ≤ _; rw [h2]; exact hI.pg
  · show M'.l.length < _; rw [h1]; exact hI.n
  · rw [e]; exact h.pc.1
  · rw [e]; show _ ≤ (M'.l.length : Int); rw [h1]; exact h.pc.2
  · rw [e]; exact h.lo.2.1
theorem Inv.kept {M : Mc} (h : Inv M) (hlt : M.pc < (M.l.length : Int)) : Kept M M := ⟨⟨rfl, rfl, rfl⟩, h.rs, h.sc, ⟨by have := h.pc0; omega, by omega⟩, h.lo.mono (by omega)⟩
theorem jump_kept {M : Mc} (h : Inv M) {t : Int} (hj : (jumpM M t).1 = true) : Kept M (jumpM M t).2 := by
  unfold jumpM at hj ⊢
  cases h1 : decide (t ≤ M.pc) with
  | true => rw [h1] at hj; cases hj
  | false =>
    cases h2 : decide (t ≥ (M.l.length : Int)) with
    | true => rw [h1, h2] at hj; cases hj
    | false =>
      simp only [decide_eq_false_iff_not] at h1 h2
      have hn := h.n
      have := h.pc0
      have hw : w (t - 1) = t - 1 := w_id (by omega) (by omega)
      obtain ⟨k, hk⟩ := leaveL_take M.l t (M.lo.length + 1) M.lo
      simp only [cond_false]
      refine ⟨⟨rfl, rfl, rfl⟩, h.rs, h.sc, ?_, ?_⟩
      · show 0 ≤ w (t - 1) + 1 ∧ w (t - 1) + 1 ≤ _; rw [hw]; omega
      · show LoOk (leaveM M.l t M.lo) (w (t - 1) + 1)
        unfold leaveM
        rw [hw, hk]; exact h.lo.take k (by omega)
theorem end_kept {M : Mc} (h : Inv M) (hlt : M.pc < (M.l.length : Int)) (hj : (endM M).1 = true) : Kept M (endM M).2 := by
  unfold endM at hj ⊢
  cases h1 : (M.lo.length : Int) == 0 with
  | true => rw [h1] at hj; cases hj
  | false =>
    have h0 : 0 < M.lo.length := by have := beq_eq_false_iff_ne.mp h1; omega
    have hp := h.pc0
    obtain ⟨t0, t1⟩ := h.los _ (topL_mem h0)
    simp only [cond_false]
    refine bifB (P := fun r : Bool × Mc => Kept M r.2) (fun _ => ?_) (fun _ => ?_)
    · exact ⟨⟨rfl, rfl, rfl⟩, h.rs, h.sc, ⟨by show 0 ≤ (topL M.lo).1 + 1; omega, by show (topL M.lo).1 + 1 ≤ _; omega⟩, h.lo.back h0⟩
    · exact ⟨⟨rfl, rfl, rfl⟩, h.rs, h.sc, ⟨by show 0 ≤ M.pc + 1; omega, by show M.pc + 1 ≤ _; omega⟩, h.lo.take _ (by show M.pc ≤ M.pc + 1; omega)⟩
theorem rs_kept {M : Mc} (h : Inv M) (hlt : M.pc < (M.l.length : Int)) {rs : List Int} (hr : rs.length = 8) : Kept M { M with rs := rs } :=
  let k := h.kept hlt
  ⟨⟨rfl, rfl, rfl⟩, hr, k.sc, k.pc, k.lo⟩
theorem numR_len {rs : List Int} {op : Int} {d s : Nat} {imm : Int} : (numR rs op d s imm).length = rs.length := by
  unfold numR
  exact bifB (P := fun r : List Int => r.length = rs.length) (fun _ => List.length_set ..) fun _ => rfl
theorem call_kept {M : Mc} (h : Inv M) (hlt : M.pc < (M.l.length : Int)) (t : Int) : Kept M (callM M t).2 := by
  have k := h.kept hlt
  unfold callM
  repeat' refine bifB (P := fun r : Bool × Mc => Kept M r.2) (fun _ => ?_) (fun _ => ?_)
  · exact ⟨⟨rfl, rfl, rfl⟩, k.rs, k.sc, k.pc, k.lo⟩
  · exact k
  · exact k
  · exact ⟨⟨rfl, rfl, rfl⟩, k.rs, k.sc, k.pc, k.lo⟩
  · exact rs_kept h hlt (by rw [List.length_set]; exact h.rs)
theorem do_kept {M : Mc} (h : Inv M) (hlt : M.pc < (M.l.length : Int)) {x : Ins} (hj : (doM M x).1 = true) : Kept M (doM M x).2 := by
  have k := h.kept hlt
  unfold doM at hj ⊢
  cases c1 : (x.op == 7 || x.op == 8 || x.op == 9 || x.op == 10) with
  | true =>
    rw [c1, cond_true] at hj
    rw [cond_true, lookM_ok hj]
    exact rs_kept h hlt (by rw [List.length_set]; exact h.rs)
  | false =>
    rw [c1, cond_false] at hj
    rw [cond_false]
    cases c2 : (x.op == 11) with
    | true =>
      rw [cond_true]
      unfold storeM
      refine bifB (P := fun r : Bool × Mc => Kept M r.2) (fun _ => k) (fun _ => ?_)
      refine bifB (P := fun r : Bool × Mc => Kept M r.2) (fun _ => k) (fun _ => ?_)
      exact ⟨⟨rfl, rfl, rfl⟩, k.rs, by show (M.sc.set _ _).length = 64; rw [List.length_set]; exact h.sc, k.pc, k.lo⟩
    | false =>
      rw [c2, cond_false] at hj
      rw [cond_false]
      cases c3 : (x.op == 12) with
      | true => rw [c3, cond_true] at hj; rw [cond_true]; exact jump_kept h hj
      | false =>
        rw [c3, cond_false] at hj
        rw [cond_false]
        cases c4 : (x.op == 13 || x.op == 14 || x.op == 15 || x.op == 16) with
        | true =>
          rw [c4, cond_true] at hj
          rw [cond_true]
          cases c5 : !r54 x.op (rg M.rs x.d.toNat) (rg M.rs x.s.toNat) with
          | true => exact k
          | false => rw [c5, cond_false] at hj; rw [cond_false]; exact jump_kept h hj
        | false =>
          rw [c4, cond_false] at hj
          rw [cond_false]
          cases c5 : (x.op == 17) with
          | true =>
            rw [c5, cond_true] at hj
            rw [cond_true]
            unfold loopM at hj ⊢
            cases c6 : (M.lo.length : Int) == 3 with
            | true => rw [c6] at hj; cases hj
            | false =>
              have h3 : M.lo.length ≠ 3 := by have := beq_eq_false_iff_ne.mp c6; omega
              exact ⟨⟨rfl, rfl, rfl⟩, k.rs, k.sc, k.pc, h.lo.push h3 h.pc0⟩
          | false =>
            rw [c5, cond_false] at hj
            rw [cond_false]
            cases c6 : (x.op == 18) with
            | true => rw [c6, cond_true] at hj; rw [cond_true]; exact end_kept h hlt hj
            | false =>
              rw [cond_false]
              refine bifB (P := fun r : Bool × Mc => Kept M r.2) (fun _ => call_kept h hlt _) (fun _ => ?_)
              exact ⟨⟨rfl, rfl, rfl⟩, k.rs, k.sc, k.pc, k.lo⟩
theorem stepX_kept {M : Mc} (h : Inv M) (hlt : M.pc < (M.l.length : Int)) {x : Ins} (hj : (stepX M x).1 = true) : Kept M (stepX M x).2 := by
  unfold stepX at hj ⊢
  cases c : isNum x.op with
  | true => exact rs_kept h hlt (by rw [numR_len]; exact h.rs)
  | false => rw [c] at hj; exact do_kept h hlt hj

abbrev errA (steps e : Int) : List Value := [AG [I 0, .string ⟨#[]⟩, I 0, I steps], .iface 65 (I e)]
theorem rd19_eq {n m : Nat} {pg ky val : ByteArray} {rs : List Int} {pc code nx st : Int} {en : Bool} {d : Int} (h1 : 0 ≤ d) (h2 : d < 8) :
    okI .i64 (rd19 n m pg ky val rs pc code nx st en d) = true ∧ intO (rd19 n m pg ky val rs pc code nx st en d) = rg rs d.toNat := by
  obtain ⟨k, rfl⟩ := Int.eq_ofNat_of_zero_le h1
  unfold rd19
  rw [Int.toNat_natCast]
  have hk : k < 8 := by omega
  rcases k with _ | _ | _ | _ | _ | _ | _ | _ | k <;> first | exact ⟨rfl, rfl⟩ | (exfalso; omega)
section
variable {K : List Value → AHeap → Prop} {wr : Bool} {M : Mc} {fuel steps : Int}
abbrev goOn (w0 : World) (K : List Value → AHeap → Prop) (wr : Bool) (fuel steps : Int) (M : Mc) : Prop := SemR w0 K todo19 (fr19 M.l.length fuel steps) (heapB G (hpM wr M))
theorem plainZ4 : PlainL Z4 := by
  intro x hx
  simp only [List.mem_cons, List.not_mem_nil, or_false] at hx
  rcases hx with rfl | rfl | rfl | rfl <;> rfl
theorem cont_ok {M' : Mc} (ha : alike M M') (h : goOn w0 K wr fuel (w (steps + 1)) (nextM M' steps)) : contP fuel steps (SemR w0 K) (outM (rawM wr M) M') := by
  obtain ⟨h1, h2, h3⟩ := ha
  have e : ((outM (rawM wr M) M').lc.take ((outM (rawM wr M) M').m * 2)) = loC M'.lo := loC_all M'.lo
  refine ⟨⟨plain_insC M.l, plain_bytC M'.sc, plainZ4, ?_, trivial⟩, ?_⟩
  · rw [e]; exact plain_loC _
  · rw [e]
    obtain ⟨l, pg, ky, sc, rs, pc, lo, code, val, nx, st, en⟩ := M'
    simp only at h1 h2 h3
    subst h1 h2 h3
    exact h
theorem end_ok {M' : Mc} (hl : M'.l = M.l) {e : Int} (h : K (errA steps e) (heapB G (hpE wr M'))) : endP (insC M.l) wr K (bytC M'.sc) steps e := by
  refine ⟨⟨plain_insC _, plain_bytC _, trivial⟩, ?_⟩
  unfold hpE at h
  rw [hl] at h
  exact h
theorem call_ok {ok : Prop} {g : Bool × Mc} (ha : alike M g.2) (hok : ok) (h1 : g.1 = true → goOn w0 K wr fuel (w (steps + 1)) (nextM g.2 steps)) (h2 : g.1 = false → K (errA (w (steps + 1)) 15) (heapB G (hpE wr g.2))) :
    callP fuel steps K (SemR w0 K) (rawM wr M) ok g := by
  refine ⟨⟨plain_mc M, ⟨plain_insC _, plain_bytC _, plain_loC _, trivial⟩, mc_fit M, hok⟩, ?_⟩
  cases hg : g.1 with
  | true => exact cont_ok ha (h1 hg)
  | false => exact end_ok ha.1 (h2 hg)
theorem u8_cell (v : Int) : (Value.int .u8 (IntKind.u8.wrap v)) = .int .u8 ((UInt8.ofNat (IntKind.u8.wrap v).toNat).toNat : Int) := by
  have e : IntKind.u8.wrap v = v % 256 := by simp [IntKind.wrap, IntKind.bits, IntKind.signed]
  rw [e]
  have h1 := Int.emod_nonneg v (show (256 : Int) ≠ 0 by omega)
  have h2 := Int.emod_lt_of_pos v (show (0 : Int) < 256 by omega)
  congr 1
  rw [UInt8.toNat_ofNat']
  omega
theorem bytC_set (sc : List UInt8) (k : Nat) (b : UInt8) (h : k < sc.length) : splice (bytC sc) k [.int .u8 (b.toNat : Int)] = bytC (sc.set k b) := by
  rw [splice_set (by rw [bytC_len]; exact h)]
  unfold bytC
  rw [List.map_set]

set_option maxRecDepth 100000 in
set_option maxHeartbeats 2000000 in
theorem stageB (hI : Inv M) {x : Ins} (hx : right x = true) (h1 : (stepX M x).1 = true → goOn w0 K wr fuel (w (steps + 1)) (nextM (stepX M x).2 steps)) (h2 : (stepX M x).1 = false → K (errA (w (steps + 1)) 15) (heapB G (hpE wr (stepX M x).2))) :
    SemR w0 K todo19b (fr19b M.l.length fuel steps) (heapB G (hpM wr M ++ [some (.cells [I x.op, I x.d, I x.s, I x.imm] true)])) := by
  obtain ⟨⟨d1, d2⟩, s1, s2⟩ := right_regs hx
  have ho := right_op hx
  obtain ⟨op, d, s, i⟩ := x
  simp only at d1 d2 s1 s2 ho
  have hR : right19 op d s i := ⟨trivial, trivial, hx⟩
  have hN : okN M.l.length M.lo.length (insC M.l) (bytC M.sc) (loC M.lo) d s := ⟨plain_mc M, plain_mc M, mc_fit M, d1, d2, s1, s2⟩
  have h8 : r8 M.rs = M.rs := (rs8 hI.rs).symm
  obtain ⟨qd1, qd2⟩ := rd19_eq (n := M.l.length) (m := M.lo.length) (pg := M.pg) (ky := M.ky) (val := M.val) (rs := M.rs) (pc := M.pc) (code := M.code) (nx := M.nx) (st := M.st) (en := M.en) d1 d2
  obtain ⟨qs1, qs2⟩ := rd19_eq (n := M.l.length) (m := M.lo.length) (pg := M.pg) (ky := M.ky) (val := M.val) (rs := M.rs) (pc := M.pc) (code := M.code) (nx := M.nx) (st := M.st) (en := M.en) s1 s2
  have hjmp : (unIns (insC M.l)).length < 1000000000 ∧ (unL (loC M.lo)).length < 1000000000 ∧ ∀ o ∈ unL (loC M.lo), 0 ≤ o.1 ∧ o.1 ≤ M.pc := by
    rw [unIns_insC, unL_loC]
    exact ⟨hI.n, by have := hI.lo3; omega, fun o ho => ⟨(hI.los o ho).1, by have := (hI.los o ho).2; omega⟩⟩
  rcases ho with rfl | rfl | rfl | rfl | rfl | rfl | rfl | rfl | rfl | rfl | rfl | rfl | rfl | rfl | rfl | rfl | rfl | rfl | rfl | rfl | rfl
  · refine seg_semI3 (F := ft19) mixed (callsOf_ok (ok19 true)) leaf19 [6, 13] 20 400 ((b0 M.l.length M.lo.length M.pg M.ky M.val M.rs M.pc M.code M.nx M.st M.en wr (insC M.l) (bytC M.sc) (loC M.lo) fuel steps d s i K _).mpr ?_)
    rw [h8]
    have e : stepX M ⟨0, d, s, i⟩ = (true, { M with rs := numR M.rs 0 d.toNat s.toNat i }) := rfl
    rw [e] at h1
    exact ⟨hR, hN, cont_ok (M' := { M with rs := numR M.rs 0 d.toNat s.toNat i }) ⟨rfl, rfl, rfl⟩ (h1 rfl)⟩
  · refine seg_semI3 (F := ft19) mixed (callsOf_ok (ok19 true)) leaf19 [6, 13] 20 400 ((b1 M.l.length M.lo.length M.pg M.ky M.val M.rs M.pc M.code M.nx M.st M.en wr (insC M.l) (bytC M.sc) (loC M.lo) fuel steps d s i K _).mpr ?_)
    rw [h8]
    have e : stepX M ⟨1, d, s, i⟩ = (true, { M with rs := numR M.rs 1 d.toNat s.toNat i }) := rfl
    rw [e] at h1
    exact ⟨hR, hN, cont_ok (M' := { M with rs := numR M.rs 1 d.toNat s.toNat i }) ⟨rfl, rfl, rfl⟩ (h1 rfl)⟩
  · refine seg_semI3 (F := ft19) mixed (callsOf_ok (ok19 true)) leaf19 [6, 13] 20 400 ((b2 M.l.length M.lo.length M.pg M.ky M.val M.rs M.pc M.code M.nx M.st M.en wr (insC M.l) (bytC M.sc) (loC M.lo) fuel steps d s i K _).mpr ?_)
    rw [h8]
    have e : stepX M ⟨2, d, s, i⟩ = (true, { M with rs := numR M.rs 2 d.toNat s.toNat i }) := rfl
    rw [e] at h1
    exact ⟨hR, hN, cont_ok (M' := { M with rs := numR M.rs 2 d.toNat s.toNat i }) ⟨rfl, rfl, rfl⟩ (h1 rfl)⟩
  · refine seg_semI3 (F := ft19) mixed (callsOf_ok (ok19 true)) leaf19 [6, 13] 20 400 ((b3 M.l.length M.lo.length M.pg M.ky M.val M.rs M.pc M.code M.nx M.st M.en wr (insC M.l) (bytC M.sc) (loC M.lo) fuel steps d s i K _).mpr ?_)
    rw [h8]
    have e : stepX M ⟨3, d, s, i⟩ = (true, { M with rs := numR M.rs 3 d.toNat s.toNat i }) := rfl
    rw [e] at h1
    exact ⟨hR, hN, cont_ok (M' := { M with rs := numR M.rs 3 d.toNat s.toNat i }) ⟨rfl, rfl, rfl⟩ (h1 rfl)⟩
  · refine seg_semI3 (F := ft19) mixed (callsOf_ok (ok19 true)) leaf19 [6, 13] 20 400 ((b4 M.l.length M.lo.length M.pg M.ky M.val M.rs M.pc M.code M.nx M.st M.en wr (insC M.l) (bytC M.sc) (loC M.lo) fuel steps d s i K _).mpr ?_)
    rw [h8]
    have e : stepX M ⟨4, d, s, i⟩ = (true, { M with rs := numR M.rs 4 d.toNat s.toNat i }) := rfl
    rw [e] at h1
    exact ⟨hR, hN, cont_ok (M' := { M with rs := numR M.rs 4 d.toNat s.toNat i }) ⟨rfl, rfl, rfl⟩ (h1 rfl)⟩
  · refine seg_semI3 (F := ft19) mixed (callsOf_ok (ok19 true)) leaf19 [6, 13] 20 400 ((b5 M.l.length M.lo.length M.pg M.ky M.val M.rs M.pc M.code M.nx M.st M.en wr (insC M.l) (bytC M.sc) (loC M.lo) fuel steps d s i K _).mpr ?_)
    rw [h8]
    have e : stepX M ⟨5, d, s, i⟩ = (true, { M with rs := numR M.rs 5 d.toNat s.toNat i }) := rfl
    rw [e] at h1
    exact ⟨hR, hN, cont_ok (M' := { M with rs := numR M.rs 5 d.toNat s.toNat i }) ⟨rfl, rfl, rfl⟩ (h1 rfl)⟩
  · refine seg_semI3 (F := ft19) mixed (callsOf_ok (ok19 true)) leaf19 [6, 13] 20 400 ((b6 M.l.length M.lo.length M.pg M.ky M.val M.rs M.pc M.code M.nx M.st M.en wr (insC M.l) (bytC M.sc) (loC M.lo) fuel steps d s i K _).mpr ?_)
    rw [h8]
    have e : stepX M ⟨6, d, s, i⟩ = (true, { M with rs := numR M.rs 6 d.toNat s.toNat i }) := rfl
    rw [e] at h1
    exact ⟨hR, hN, cont_ok (M' := { M with rs := numR M.rs 6 d.toNat s.toNat i }) ⟨rfl, rfl, rfl⟩ (h1 rfl)⟩
  · refine seg_semI3 (F := ft19) mixed (callsOf_ok (ok19 true)) leaf19 [6, 13] 20 400 ((b7 M.l.length M.lo.length M.pg M.ky M.val M.rs M.pc M.code M.nx M.st M.en wr (insC M.l) (bytC M.sc) (loC M.lo) fuel steps d s i K _).mpr ?_)
    rw [h8]
    have e : stepX M ⟨7, d, s, i⟩ = lookM M 7 d.toNat s.toNat i := rfl
    rw [e] at h1 h2
    refine ⟨hR, hN, ?_⟩
    show callP fuel steps K (SemR w0 K) (rawM wr M) _ (lookM (rawM wr M).mc 7 d.toNat s.toNat i)
    rw [raw_mc]
    exact call_ok (lookM_alike ..) ⟨⟨d1, d2, s1, s2⟩, hI.pg, hI.ky, by rw [unB_bytC]; exact hI.sc⟩ h1 h2
  · refine seg_semI3 (F := ft19) mixed (callsOf_ok (ok19 true)) leaf19 [6, 13] 20 400 ((b8 M.l.length M.lo.length M.pg M.ky M.val M.rs M.pc M.code M.nx M.st M.en wr (insC M.l) (bytC M.sc) (loC M.lo) fuel steps d s i K _).mpr ?_)
    rw [h8]
    have e : stepX M ⟨8, d, s, i⟩ = lookM M 8 d.toNat s.toNat i := rfl
    rw [e] at h1 h2
    refine ⟨hR, hN, ?_⟩
    show callP fuel steps K (SemR w0 K) (rawM wr M) _ (lookM (rawM wr M).mc 8 d.toNat s.toNat i)
    rw [raw_mc]
    exact call_ok (lookM_alike ..) ⟨⟨d1, d2, s1, s2⟩, hI.pg, hI.ky, by rw [unB_bytC]; exact hI.sc⟩ h1 h2
  · refine seg_semI3 (F := ft19) mixed (callsOf_ok (ok19 true)) leaf19 [6, 13] 20 400 ((b9 M.l.length M.lo.length M.pg M.ky M.val M.rs M.pc M.code M.nx M.st M.en wr (insC M.l) (bytC M.sc) (loC M.lo) fuel steps d s i K _).mpr ?_)
    rw [h8]
    have e : stepX M ⟨9, d, s, i⟩ = lookM M 9 d.toNat s.toNat i := rfl
    rw [e] at h1 h2
    refine ⟨hR, hN, ?_⟩
    show callP fuel steps K (SemR w0 K) (rawM wr M) _ (lookM (rawM wr M).mc 9 d.toNat s.toNat i)
    rw [raw_mc]
    exact call_ok (lookM_alike ..) ⟨⟨d1, d2, s1, s2⟩, hI.pg, hI.ky, by rw [unB_bytC]; exact hI.sc⟩ h1 h2
  · refine seg_semI3 (F := ft19) mixed (callsOf_ok (ok19 true)) leaf19 [6, 13] 20 400 ((b10 M.l.length M.lo.length M.pg M.ky M.val M.rs M.pc M.code M.nx M.st M.en wr (insC M.l) (bytC M.sc) (loC M.lo) fuel steps d s i K _).mpr ?_)
    rw [h8]
    have e : stepX M ⟨10, d, s, i⟩ = lookM M 10 d.toNat s.toNat i := rfl
    rw [e] at h1 h2
    refine ⟨hR, hN, ?_⟩
    show callP fuel steps K (SemR w0 K) (rawM wr M) _ (lookM (rawM wr M).mc 10 d.toNat s.toNat i)
    rw [raw_mc]
    exact call_ok (lookM_alike ..) ⟨⟨d1, d2, s1, s2⟩, hI.pg, hI.ky, by rw [unB_bytC]; exact hI.sc⟩ h1 h2
  · refine seg_semI3 (F := ft19) mixed (callsOf_ok (ok19 true)) leaf19 [6, 13] 20 400 ((b11 M.l.length M.lo.length M.pg M.ky M.val M.rs M.pc M.code M.nx M.st M.en wr (insC M.l) (bytC M.sc) (loC M.lo) fuel steps d s i K _).mpr ?_)
    rw [h8]
    have e : stepX M ⟨11, d, s, i⟩ = storeM M ⟨11, d, s, i⟩ := rfl
    rw [e] at h1 h2
    unfold storeM at h1 h2
    refine ⟨hR, hN, ?_⟩
    rw [decide_eq_true d1, decide_eq_true d2, decide_eq_true s1, decide_eq_true s2, qd1, qd2, qs1, qs2]
    simp only [Bool.and_self, cond_true]
    simp only at h1 h2
    cases a1 : decide (w (rg M.rs d.toNat + i) < 0) with
    | true => rw [a1] at h2; exact end_ok (M' := M) rfl (h2 rfl)
    | false =>
      cases a2 : decide (w (rg M.rs d.toNat + i) ≥ 64) with
      | true => rw [a1, a2] at h2; exact end_ok (M' := M) rfl (h2 rfl)
      | false =>
        rw [a1, a2] at h1
        simp only [decide_eq_false_iff_not] at a1 a2
        have hk : (w (rg M.rs d.toNat + i)).toNat < M.sc.length := by rw [hI.sc]; omega
        have hb : ((1 : Nat) == 1 && (0 + (w (rg M.rs d.toNat + i)).toNat * 1 + 1).ble (bytC M.sc).length) = true := by
          rw [bytC_len]; exact Nat.ble_eq_true_of_le (by omega)
        rw [decide_eq_true (show 0 ≤ w (rg M.rs d.toNat + i) by omega), decide_eq_true (show w (rg M.rs d.toNat + i) < 64 by omega), hb, u8_cell, show 0 + (w (rg M.rs d.toNat + i)).toNat * 1 = (w (rg M.rs d.toNat + i)).toNat by omega, bytC_set _ _ _ hk]
        exact cont_ok (M := M) (M' := { M with sc := M.sc.set (w (rg M.rs d.toNat + i)).toNat (UInt8.ofNat (IntKind.u8.wrap (rg M.rs s.toNat)).toNat) }) ⟨rfl, rfl, rfl⟩ (h1 rfl)
  · refine seg_semI3 (F := ft19) mixed (callsOf_ok (ok19 true)) leaf19 [6, 13] 20 400 ((b12 M.l.length M.lo.length M.pg M.ky M.val M.rs M.pc M.code M.nx M.st M.en wr (insC M.l) (bytC M.sc) (loC M.lo) fuel steps d s i K _).mpr ?_)
    rw [h8]
    have e : stepX M ⟨12, d, s, i⟩ = jumpM M i := rfl
    rw [e] at h1 h2
    refine ⟨hR, hN, ?_⟩
    rw [decide_eq_true d1, decide_eq_true d2, decide_eq_true s1, decide_eq_true s2, qd1, qs1]
    refine ⟨⟨trivial, trivial, trivial⟩, ?_⟩
    show callP fuel steps K (SemR w0 K) (rawM wr M) _ (jumpM (rawM wr M).mc i)
    rw [raw_mc]
    exact call_ok (jumpM_alike ..) hjmp h1 h2
  · refine seg_semI3 (F := ft19) mixed (callsOf_ok (ok19 true)) leaf19 [6, 13] 20 400 ((b13 M.l.length M.lo.length M.pg M.ky M.val M.rs M.pc M.code M.nx M.st M.en wr (insC M.l) (bytC M.sc) (loC M.lo) fuel steps d s i K _).mpr ?_)
    rw [h8]
    have e : stepX M ⟨13, d, s, i⟩ = bif !r54 13 (rg M.rs d.toNat) (rg M.rs s.toNat) then (true, M) else jumpM M i := rfl
    rw [e] at h1 h2
    refine ⟨hR, hN, ?_⟩
    rw [decide_eq_true d1, decide_eq_true d2, decide_eq_true s1, decide_eq_true s2, qd1, qs1]
    refine ⟨⟨trivial, trivial, trivial⟩, ?_⟩
    rw [qd2, qs2]
    cases c : !r54 13 (rg M.rs d.toNat) (rg M.rs s.toNat) with
    | true => rw [c] at h1; exact cont_ok (M := M) (M' := M) ⟨rfl, rfl, rfl⟩ (h1 rfl)
    | false =>
      rw [c] at h1 h2
      show callP fuel steps K (SemR w0 K) (rawM wr M) _ (jumpM (rawM wr M).mc i)
      rw [raw_mc]
      exact call_ok (jumpM_alike ..) hjmp h1 h2
  · refine seg_semI3 (F := ft19) mixed (callsOf_ok (ok19 true)) leaf19 [6, 13] 20 400 ((b14 M.l.length M.lo.length M.pg M.ky M.val M.rs M.pc M.code M.nx M.st M.en wr (insC M.l) (bytC M.sc) (loC M.lo) fuel steps d s i K _).mpr ?_)
    rw [h8]
    have e : stepX M ⟨14, d, s, i⟩ = bif !r54 14 (rg M.rs d.toNat) (rg M.rs s.toNat) then (true, M) else jumpM M i := rfl
    rw [e] at h1 h2
    refine ⟨hR, hN, ?_⟩
    rw [decide_eq_true d1, decide_eq_true d2, decide_eq_true s1, decide_eq_true s2, qd1, qs1]
    refine ⟨⟨trivial, trivial, trivial⟩, ?_⟩
    rw [qd2, qs2]
    cases c : !r54 14 (rg M.rs d.toNat) (rg M.rs s.toNat) with
    | true => rw [c] at h1; exact cont_ok (M := M) (M' := M) ⟨rfl, rfl, rfl⟩ (h1 rfl)
    | false =>
      rw [c] at h1 h2
      show callP fuel steps K (SemR w0 K) (rawM wr M) _ (jumpM (rawM wr M).mc i)
      rw [raw_mc]
      exact call_ok (jumpM_alike ..) hjmp h1 h2
  · refine seg_semI3 (F := ft19) mixed (callsOf_ok (ok19 true)) leaf19 [6, 13] 20 400 ((b15 M.l.length M.lo.length M.pg M.ky M.val M.rs M.pc M.code M.nx M.st M.en wr (insC M.l) (bytC M.sc) (loC M.lo) fuel steps d s i K _).mpr ?_)
    rw [h8]
    have e : stepX M ⟨15, d, s, i⟩ = bif !r54 15 (rg M.rs d.toNat) (rg M.rs s.toNat) then (true, M) else jumpM M i := rfl
    rw [e] at h1 h2
    refine ⟨hR, hN, ?_⟩
    rw [decide_eq_true d1, decide_eq_true d2, decide_eq_true s1, decide_eq_true s2, qd1, qs1]
    refine ⟨⟨trivial, trivial, trivial⟩, ?_⟩
    rw [qd2, qs2]
    cases c : !r54 15 (rg M.rs d.toNat) (rg M.rs s.toNat) with
    | true => rw [c] at h1; exact cont_ok (M := M) (M' := M) ⟨rfl, rfl, rfl⟩ (h1 rfl)
    | false =>
      rw [c] at h1 h2
      show callP fuel steps K (SemR w0 K) (rawM wr M) _ (jumpM (rawM wr M).mc i)
      rw [raw_mc]
      exact call_ok (jumpM_alike ..) hjmp h1 h2
  · refine seg_semI3 (F := ft19) mixed (callsOf_ok (ok19 true)) leaf19 [6, 13] 20 400 ((b16 M.l.length M.lo.length M.pg M.ky M.val M.rs M.pc M.code M.nx M.st M.en wr (insC M.l) (bytC M.sc) (loC M.lo) fuel steps d s i K _).mpr ?_)
    rw [h8]
    have e : stepX M ⟨16, d, s, i⟩ = bif !r54 16 (rg M.rs d.toNat) (rg M.rs s.toNat) then (true, M) else jumpM M i := rfl
    rw [e] at h1 h2
    refine ⟨hR, hN, ?_⟩
    rw [decide_eq_true d1, decide_eq_true d2, decide_eq_true s1, decide_eq_true s2, qd1, qs1]
    refine ⟨⟨trivial, trivial, trivial⟩, ?_⟩
    rw [qd2, qs2]
    cases c : !r54 16 (rg M.rs d.toNat) (rg M.rs s.toNat) with
    | true => rw [c] at h1; exact cont_ok (M := M) (M' := M) ⟨rfl, rfl, rfl⟩ (h1 rfl)
    | false =>
      rw [c] at h1 h2
      show callP fuel steps K (SemR w0 K) (rawM wr M) _ (jumpM (rawM wr M).mc i)
      rw [raw_mc]
      exact call_ok (jumpM_alike ..) hjmp h1 h2
  · refine seg_semI3 (F := ft19) mixed (callsOf_ok (ok19 true)) leaf19 [6, 13] 20 400 ((b17 M.l.length M.lo.length M.pg M.ky M.val M.rs M.pc M.code M.nx M.st M.en wr (insC M.l) (bytC M.sc) (loC M.lo) fuel steps d s i K _).mpr ?_)
    rw [h8]
    have e : stepX M ⟨17, d, s, i⟩ = loopM M ⟨17, d, s, i⟩ := rfl
    rw [e] at h1 h2
    unfold loopM at h1 h2
    refine ⟨hR, hN, ?_⟩
    cases c : (M.lo.length : Int) == 3 with
    | true => rw [c] at h2; exact end_ok (M' := M) rfl (h2 rfl)
    | false =>
      rw [c] at h1
      have hl := hI.lo3
      have hv : veq 4 (SL (G + 4) M.lo.length 2) (SL (G + 4) M.lo.length 2) = true := by simp [veq]
      have hr : room (M.lo.length + 1) 16 = true := Nat.ble_eq_true_of_le (by omega)
      have hb : (0 + M.lo.length * 2).ble (loC M.lo).length = true := Nat.ble_eq_true_of_le (by rw [loC_len]; omega)
      have hc : ((loC M.lo).drop 0).take (M.lo.length * 2) ++ [I M.pc, I i] = loC (M.lo ++ [(M.pc, i)]) := by
        rw [List.drop_zero, loC_all]
        generalize M.lo = lo
        induction lo with
        | nil => rfl
        | cons a r ih =>
          obtain ⟨a, b⟩ := a
          show I a :: I b :: (loC r ++ _) = I a :: I b :: loC (r ++ _)
          rw [ih]
      have hm : M.lo.length + 1 = (M.lo ++ [(M.pc, i)]).length := by simp
      rw [hv, hr, hb, hc, hm]
      exact cont_ok (M := M) (M' := { M with lo := M.lo ++ [(M.pc, i)] }) ⟨rfl, rfl, rfl⟩ (h1 rfl)
  · refine seg_semI3 (F := ft19) mixed (callsOf_ok (ok19 true)) leaf19 [6, 13] 20 400 ((b18 M.l.length M.lo.length M.pg M.ky M.val M.rs M.pc M.code M.nx M.st M.en wr (insC M.l) (bytC M.sc) (loC M.lo) fuel steps d s i K _).mpr ?_)
    rw [h8]
    have e : stepX M ⟨18, d, s, i⟩ = endM M := rfl
    rw [e] at h1 h2
    refine ⟨hR, hN, ?_⟩
    show callP fuel steps K (SemR w0 K) (rawM wr M) _ (endM (rawM wr M).mc)
    rw [raw_mc]
    exact call_ok (endM_alike M) hjmp.2.1 h1 h2
  · refine seg_semI3 (F := ft19) mixed (callsOf_ok (ok19 true)) leaf19 [6, 13] 20 400 ((b19 M.l.length M.lo.length M.pg M.ky M.val M.rs M.pc M.code M.nx M.st M.en wr (insC M.l) (bytC M.sc) (loC M.lo) fuel steps d s i K _).mpr ?_)
    rw [h8]
    have e : stepX M ⟨19, d, s, i⟩ = callM M i := rfl
    rw [e] at h1 h2
    refine ⟨hR, hN, ?_⟩
    show callP fuel steps K (SemR w0 K) (rawM wr M) _ (callM (rawM wr M).mc i)
    rw [raw_mc]
    exact call_ok (callM_alike M i) hI.pg h1 h2
  · refine seg_semI3 (F := ft19) mixed (callsOf_ok (ok19 true)) leaf19 [6, 13] 20 400 ((b20 M.l.length M.lo.length M.pg M.ky M.val M.rs M.pc M.code M.nx M.st M.en wr (insC M.l) (bytC M.sc) (loC M.lo) fuel steps d s i K _).mpr ?_)
    rw [h8]
    have e : stepX M ⟨20, d, s, i⟩ = (true, { M with code := rg M.rs 0, en := true }) := rfl
    rw [e] at h1
    exact ⟨hR, hN, cont_ok (M' := { M with code := rg M.rs 0, en := true }) ⟨rfl, rfl, rfl⟩ (h1 rfl)⟩
end

theorem insN_eq {M : Mc} (h0 : 0 ≤ M.pc) (h : M.pc < (M.l.length : Int)) : ∃ k : Nat, M.pc = (k : Int) ∧ ∃ hk : k < M.l.length, insN M = M.l[k] := by
  obtain ⟨k, hk⟩ := Int.eq_ofNat_of_zero_le h0
  have hk' : k < M.l.length := by omega
  refine ⟨k, hk, hk', ?_⟩
  unfold insN
  rw [hk, Int.toNat_natCast, List.getD_eq_getElem?_getD, List.getElem?_eq_getElem hk']; rfl
theorem plain_ins1 (x : Ins) : PlainL [I x.op, I x.d, I x.s, I x.imm] := plain_ins4 _ _ _ _

set_option maxRecDepth 100000 in
theorem loop19 {K : List Value → AHeap → Prop} {wr : Bool} {fuel : Int} (hf : fuel < 1000000000) : ∀ (f : Nat) (M : Mc) (steps : Int), Inv M → 0 ≤ steps → (fuel - steps).toNat < f →
    K (ansR (runF fuel f M steps)) (heapB G (hpE wr (runF fuel f M steps).2.1)) → goOn w0 K wr fuel steps M := by
  intro f
  induction f with
  | zero => intro M steps _ _ h; omega
  | succ f ih =>
    intro M steps hI hs hlt hK
    refine seg_semI3 (F := ft19) mixed (callsOf_ok (ok19 true)) leaf19 [6, 13] 20 400 ((head19 M.l.length M.lo.length M.pg M.ky M.val M.rs M.pc M.code M.nx M.st M.en wr (insC M.l) (bytC M.sc) (loC M.lo) fuel steps K _).mpr ?_)
    rw [runF] at hK
    cases he : M.en with
    | true =>
      rw [he, cond_true] at hK
      exact ⟨⟨plain_insC _, plain_bytC _, trivial⟩, hK⟩
    | false =>
      rw [he, cond_false] at hK
      simp only [Bool.not_false, cond_true]
      cases h1 : decide (M.pc ≥ (M.l.length : Int)) with
      | true => rw [h1, cond_true] at hK; exact end_ok (M := M) (M' := M) rfl hK
      | false =>
        rw [h1, cond_false] at hK
        cases h2 : decide (steps ≥ fuel) with
        | true => rw [h2, cond_true] at hK; exact end_ok (M := M) (M' := M) rfl hK
        | false =>
          rw [h2, cond_false] at hK
          simp only [decide_eq_false_iff_not] at h1 h2
          have hlt' : M.pc < (M.l.length : Int) := by omega
          obtain ⟨k, hk, hk', hx⟩ := insN_eq hI.pc0 hlt'
          obtain ⟨e1, ⟨e2, e3, e4, e5⟩, e6, e7, e8, e9⟩ := at_insC hk'
          rw [decide_eq_true hI.pc0, decide_eq_true hlt', loC_all, hk, e1, e2, e3, e4, e5, e6, e7, e8, e9]
          have h4 : I4 (insC M.l) (k : Int) = [I M.l[k].op, I M.l[k].d, I M.l[k].s, I M.l[k].imm] := by
            unfold I4
            rw [e6, e7, e8, e9]; rfl
          rw [h4]
          refine ⟨⟨plain_insC _, plain_bytC _, plainZ4, plain_loC _, plain_ins1 _, trivial⟩, ?_⟩
          have hw : w (steps + 1) = steps + 1 := w_id (by omega) (by omega)
          cases hr : right M.l[k] with
          | false =>
            have hst : stepM M = (false, M) := by unfold stepM; rw [hx, hr]; rfl
            rw [hst] at hK
            have hq := seg_semI3 (F := ft19) (Q := retT G ntR2 K) mixed (callsOf_ok (ok19 (w0 := w0) false)) leaf19 [6, 13] 20 400 ((bF M.l.length M.lo.length M.pg M.ky M.val M.rs M.pc M.code M.nx M.st M.en wr (insC M.l) (bytC M.sc) (loC M.lo) fuel steps M.l[k].op M.l[k].d M.l[k].s M.l[k].imm K _).mpr ⟨⟨trivial, trivial, hr⟩, end_ok (M := M) (M' := M) rfl hK⟩)
            rw [hk, he] at hq
            exact hq
          | true =>
            have hst : stepM M = stepX M M.l[k] := by unfold stepM; rw [hx, hr]; rfl
            rw [hst] at hK
            have hq := stageB (w0 := w0) (K := K) (wr := wr) (fuel := fuel) (steps := steps) hI hr (fun hok => by
              rw [hok, cond_true] at hK
              obtain ⟨hI', _⟩ := (stepX_kept hI hlt' hok).inv hI steps
              have hal := (stepX_kept hI hlt' hok).al.1
              have := ih (nextM (stepX M M.l[k]).2 steps) (w (steps + 1)) hI' (by omega) (by omega) hK
              exact this) (fun hno => by
              rw [hno, cond_false] at hK
              exact hK)
            unfold hpM at hq
            rw [hk, he] at hq
            exact hq

/-- The machine ahead of a run. -/
def mc0 (l : List Ins) (pg ky : ByteArray) (sc : List UInt8) : Mc := { l := l, pg := pg, ky := ky, sc := sc, rs := [0, (ky.size : Int), 0, 0, 0, 0, 0, 0], pc := 0, lo := [], code := 0, val := ⟨#[]⟩, nx := 0, st := 0, en := false }
def runP (l : List Ins) (pg ky : ByteArray) (sc : List UInt8) (fuel : Int) : Int × Mc × Int := runF fuel (fuel.toNat + 1) (mc0 l pg ky sc) 0
theorem inv0 {l : List Ins} {pg ky : ByteArray} {sc : List UInt8} (h1 : l.length < 1000000000) (h2 : pg.size = 512) (h3 : ky.size ≤ 16) (h4 : sc.length = 64) : Inv (mc0 l pg ky sc) :=
  ⟨rfl, h3, by show pg.size ≤ _; omega, h4, h1, Int.le_refl 0, by show (0 : Int) ≤ (l.length : Int); omega, by show (0 : Nat) ≤ 3; omega, fun o ho => by simp [mc0] at ho, List.Pairwise.nil⟩
theorem loop_len (b : ByteArray) : ∀ (k i : Nat) (r : List UInt8), b.size - i = k → (ByteArray.toList.loop b i r).length = k + r.length := by
  intro k
  induction k with
  | zero =>
    intro i r h
    unfold ByteArray.toList.loop
    rw [if_neg (by omega)]
    simp
  | succ k ih =>
    intro i r h
    unfold ByteArray.toList.loop
    rw [if_pos (by omega), ih _ _ (by omega)]
    simp; omega
theorem toList_ne {b : ByteArray} (h : 0 < b.size) : (b.toList == []) = false := by
  have h1 : b.toList.length = b.size := by
    unfold ByteArray.toList
    rw [loop_len b b.size 0 [] (by omega)]; rfl
  cases e : b.toList with
  | nil => rw [e] at h1; simp at h1; omega
  | cons a l => rfl
set_option maxRecDepth 100000 in
theorem run_callS {l : List Ins} {pg ky : ByteArray} {sc : List UInt8} {fuel : Int} {wr : Bool} {K : List Value → AHeap → Prop} (h1 : l.length < 1000000000) (h2 : pg.size = 512) (h3 : 0 < ky.size) (h3' : ky.size ≤ 16) (h4 : sc.length = 64) (h5 : fuel < 1000000000)
    (hK : K (ansR (runP l pg ky sc fuel)) (heapB G (hpE wr (runP l pg ky sc fuel).2.1))) :
    CallS Try.prog w0 7 [SL G l.length 4, .string pg, .string ky, PT (G + 1), I fuel] (heapB Try.prog.globals.size [some (.cells (insC l) wr), some (.cells (bytC sc) true)]) K := by
  have hn : (heapB Try.prog.globals.size [some (.cells (insC l) wr), some (.cells (bytC sc) true)]).next = Try.prog.globals.size + ntR2.flags.length := by rw [heapB_next]; rfl
  refine retT_call (nt := ntR2) hn (call_sem (cd := Try.f7.body.getD .skip) Try.func7 (by kernel_rfl) ?_)
  rw [hn]
  refine seg_semI3 (F := ft19) mixed (callsOf_ok (ok19 true)) leaf19 [6, 13] 20 400 ((start19 l.length pg ky wr (insC l) (bytC sc) fuel K _).mpr ?_)
  have c1 : ((pg.size : Int) != 512) = false := by rw [h2]; rfl
  rw [c1, toList_ne h3, decide_eq_false (show ¬ (ky.size : Int) > 16 by omega)]
  refine ⟨⟨plain_insC _, plain_bytC _, plainZ4, fun x hx => by simp at hx, trivial⟩, ?_⟩
  exact loop19 h5 (fuel.toNat + 1) (mc0 l pg ky sc) 0 (inv0 h1 h2 h3' h4) (Int.le_refl 0) (by rw [Int.sub_zero]; omega) hK

/-- A scratch's cells, one by one. -/
def lit64 (sc : List UInt8) : List Value := (List.range 64).map fun i => .int .u8 ((sc.getD i 0).toNat : Int)
theorem lit64_eq {sc : List UInt8} (h : sc.length = 64) : lit64 sc = bytC sc := by
  unfold lit64 bytC
  apply List.ext_getElem
  · simp [h]
  · intro i h1 h2
    rw [List.getElem_map, List.getElem_map, List.getElem_range]
    have : i < sc.length := by simpa using h2
    rw [List.getD_eq_getElem?_getD, List.getElem?_eq_getElem this]; rfl
/-- How a run ends: the error's number (none: it ends well), what it answers, the scratch. -/
structure End where
  e : Option Int
  code : Int
  val : ByteArray
  nx : Int
  st : Int
  sc : List UInt8
def endOf (r : Int × Mc × Int) : End := bif r.1 == 0 then { e := none, code := r.2.1.code, val := r.2.1.val, nx := r.2.1.nx, st := r.2.1.st, sc := r.2.1.sc } else { e := some r.1, code := 0, val := ⟨#[]⟩, nx := 0, st := r.2.2, sc := r.2.1.sc }
def errV (e : Option Int) : Value := match e with
  | none => .nilIface
  | some e => .iface 65 (I e)
theorem ansR_end (r : Int × Mc × Int) : ansR r = [AG [I (endOf r).code, .string (endOf r).val, I (endOf r).nx, I (endOf r).st], errV (endOf r).e] := by
  unfold ansR endOf
  cases r.1 == 0 <;> rfl
theorem end_sc (r : Int × Mc × Int) : (endOf r).sc = r.2.1.sc := by
  unfold endOf
  cases r.1 == 0 <;> rfl
/-- run.Program, where it ends as told. -/
noncomputable def con19 (E : End) : Con := { f := 7, gh := [⟨0, none, 4⟩], paths := [⟨0, [], true⟩, ⟨3, [], true⟩], spec := fun args bs => match args, bs with
  | [s, .string pg, .string ky, p, vf], [some (.cells cl rw), some (.cells cs true)] => match slN s 0 4, intV vf with
    | some n, some fuel => bif isPtr p 1 then some ((cl = insC (unIns cl) ∧ (unIns cl).length = n ∧ n < 1000000000 ∧ pg.size = 512 ∧ 0 < ky.size ∧ ky.size ≤ 16 ∧ fuel < 1000000000) ∧ (cs = bytC (unB cs) ∧ (unB cs).length = 64) ∧ endOf (runP (unIns cl) pg ky (unB cs) fuel) = E,
        [AG [I E.code, .string E.val, I E.nx, I E.st], errV E.e], [(true, some (.cells cl rw)), (true, some (.cells (lit64 E.sc) true))]) else none
    | _, _ => none
  | _, _ => none }
theorem runF_sc {fuel : Int} : ∀ (f : Nat) (M : Mc) (steps : Int), Inv M → (runF fuel f M steps).2.1.sc.length = 64 ∧ (runF fuel f M steps).2.1.l = M.l := by
  intro f
  induction f with
  | zero => intro M steps hI; exact ⟨hI.sc, rfl⟩
  | succ f ih =>
    intro M steps hI
    rw [runF]
    refine bifB (P := fun r : Int × Mc × Int => r.2.1.sc.length = 64 ∧ r.2.1.l = M.l) (fun _ => ⟨hI.sc, rfl⟩) (fun _ => ?_)
    cases h1 : decide (M.pc ≥ (M.l.length : Int)) with
    | true => exact ⟨hI.sc, rfl⟩
    | false =>
      rw [cond_false]
      refine bifB (P := fun r : Int × Mc × Int => r.2.1.sc.length = 64 ∧ r.2.1.l = M.l) (fun _ => ⟨hI.sc, rfl⟩) (fun _ => ?_)
      have hlt : M.pc < (M.l.length : Int) := by simp only [decide_eq_false_iff_not] at h1; omega
      have hk : (stepM M).1 = true → Kept M (stepM M).2 := by
        unfold stepM
        cases hr : right (insN M) with
        | false => intro h; cases h
        | true => intro h; exact stepX_kept hI hlt h
      cases hs : (stepM M).1 with
      | true =>
        obtain ⟨hI', _⟩ := (hk hs).inv hI steps
        have := ih (nextM (stepM M).2 steps) (w (steps + 1)) hI'
        exact ⟨this.1, this.2.trans (hk hs).al.1⟩
      | false =>
        rw [cond_false]
        have hsc : (stepM M).2.sc.length = 64 ∧ (stepM M).2.l = M.l := by
          unfold stepM
          refine bifB (P := fun r : Bool × Mc => r.2.sc.length = 64 ∧ r.2.l = M.l) (fun _ => ⟨hI.sc, rfl⟩) (fun _ => ?_)
          unfold stepX
          refine bifB (P := fun r : Bool × Mc => r.2.sc.length = 64 ∧ r.2.l = M.l) (fun _ => ⟨hI.sc, rfl⟩) (fun _ => ?_)
          have hb : ∀ {c : Bool} {x y : Bool × Mc}, (x.2.sc.length = 64 ∧ x.2.l = M.l) → (y.2.sc.length = 64 ∧ y.2.l = M.l) → ((bif c then x else y).2.sc.length = 64 ∧ (bif c then x else y).2.l = M.l) := by
            intro c x y h1 h2; cases c
            · exact h2
            · exact h1
          have h0 : M.sc.length = 64 ∧ M.l = M.l := ⟨hI.sc, rfl⟩
          have hjm : ∀ t, (jumpM M t).2.sc.length = 64 ∧ (jumpM M t).2.l = M.l := fun t => hb h0 (hb h0 h0)
          unfold doM
          refine hb (hb h0 h0) (hb (hb h0 (hb h0 ⟨by show (M.sc.set _ _).length = 64; rw [List.length_set]; exact hI.sc, rfl⟩)) (hb (hjm _) (hb (hb h0 (hjm _)) (hb (hb h0 h0) (hb (hb h0 (hb h0 h0)) (hb (hb h0 (hb h0 (hb h0 (hb h0 h0)))) h0))))))
        exact hsc
set_option maxRecDepth 100000 in
theorem con19_ok {E : End} : (con19 E).ok Try.prog w0 := by
  intro args bs p rs out e hp
  simp only [con19] at e
  split at e <;> first | (simp at e; done) | skip
  split at e <;> first | (simp at e; done) | skip
  rename_i s pg ky pp vf cl rw cs _ _ n fuel hs hf
  cases hq : isPtr pp 1 with
  | false => rw [hq] at e; simp at e
  | true =>
    rw [hq] at e
    simp only [cond_true, Option.some.injEq, Prod.mk.injEq] at e
    obtain ⟨rfl, rfl, rfl⟩ := e
    obtain ⟨⟨a1, a2, a3, a4, a5, a6, a7⟩, ⟨b1, b2⟩, rfl⟩ := hp
    rw [slN_eq hs, intV_eq hf, isPtr_eq hq]
    generalize unIns cl = l at a1 a2 ⊢
    generalize unB cs = sc at b1 b2 ⊢
    subst a1 a2 b1
    have hE := end_sc (runP l pg ky sc fuel)
    obtain ⟨q1, q2⟩ := runF_sc (fuel := fuel) (fuel.toNat + 1) (mc0 l pg ky sc) 0 (inv0 a3 a4 a6 b2)
    change (runP l pg ky sc fuel).2.1.sc.length = 64 at q1
    change (runP l pg ky sc fuel).2.1.l = l at q2
    refine (run_callS (wr := rw) a3 a4 a5 a6 b2 a7 (K := fun rs' h' => rs' = ansR (runP l pg ky sc fuel) ∧ h' = heapB G (hpE rw (runP l pg ky sc fuel).2.1)) ⟨rfl, rfl⟩).mono ?_
    rintro rs' h' ⟨rfl, rfl⟩
    refine ⟨ansR_end _, ?_⟩
    unfold hpE
    rw [hE, lit64_eq q1, q2]
    rfl
end Go.Proofs.Ytadaindmgmielaa
