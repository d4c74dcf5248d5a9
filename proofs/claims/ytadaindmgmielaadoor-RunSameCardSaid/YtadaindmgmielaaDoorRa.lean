/- Words for the contracts of the machine's functions. No condition. -/
import Derived.Test.YtadaindmgmielaaDoorKb
import Derived.Shelf.Strings.Repeat
import Derived.Shelf.Small.Strs
namespace Go.Proofs.YtadaindmgmielaaDoor
open Go.Agm
variable {w0 : World}

def rg (rs : List Int) (i : Nat) : Int := rs.getD i 0
/-- A machine of a run. -/
structure Mc where
  l : List Ins
  pg : ByteArray
  ky : ByteArray
  sc : List UInt8
  rs : List Int
  pc : Int
  lo : List (Int × Int)
  code : Int
  val : ByteArray
  nx : Int
  st : Int
  en : Bool
def bytC (l : List UInt8) : List Value := l.map fun b => .int .u8 b.toNat
def byt1 (v : Value) : UInt8 := match v with
  | .int _ n => UInt8.ofNat n.toNat
  | _ => 0
def unB (cs : List Value) : List UInt8 := cs.map byt1
theorem unB_bytC (l : List UInt8) : unB (bytC l) = l := by
  unfold unB bytC
  rw [List.map_map]
  conv => rhs; rw [← List.map_id l]
  refine List.map_congr_left fun b _ => ?_
  simp [byt1, Function.comp]
def loC : List (Int × Int) → List Value
  | [] => []
  | (a, b) :: r => I a :: I b :: loC r
def unL : List Value → List (Int × Int)
  | a :: b :: r => (int1 a, int1 b) :: unL r
  | _ => []
theorem unL_loC : ∀ l : List (Int × Int), unL (loC l) = l
  | [] => rfl
  | (a, b) :: r => by simp only [loC, unL, unL_loC r, int1]
theorem loC_len : ∀ l : List (Int × Int), (loC l).length = 2 * l.length
  | [] => rfl
  | (a, b) :: r => by simp only [loC, List.length_cons, loC_len r]; omega
theorem bytC_len (l : List UInt8) : (bytC l).length = l.length := List.length_map _
theorem plain_bytC (l : List UInt8) : PlainL (bytC l) := by
  intro x hx
  obtain ⟨b, _, rfl⟩ := List.mem_map.1 hx
  rfl
theorem plain_loC : ∀ l : List (Int × Int), PlainL (loC l)
  | [] => by intro x hx; simp [loC] at hx
  | (a, b) :: r => by
    intro x hx
    simp only [loC, List.mem_cons] at hx
    rcases hx with rfl | rfl | hx
    · rfl
    · rfl
    · exact plain_loC r x hx

/-- A machine's cells. -/
noncomputable abbrev mcR (n : Nat) (pg ky : ByteArray) (rs : List Int) (pc : Int) (m : Nat) (code : Int) (val : ByteArray) (nx st : Int) (en : Bool) : List Value :=
  [SL (G + 1) n 4, .string pg, .string ky, PT (G + 2), I (rg rs 0), I (rg rs 1), I (rg rs 2), I (rg rs 3), I (rg rs 4), I (rg rs 5), I (rg rs 6), I (rg rs 7), I pc, SL (G + 3) m 2, I code, .string val, I nx, I st, B en]
/-- Its blocks: itself, the program, the scratch, the loops that are under way. -/
noncomputable def mcK (n : Nat) (cl : List Value) (rw : Bool) (pg ky : ByteArray) (cs : List Value) (rs : List Int) (pc : Int) (m : Nat) (lc : List Value) (code : Int) (val : ByteArray) (nx st : Int) (en : Bool) : List (Option ABlk) :=
  [some (.cells (mcR n pg ky rs pc m code val nx st en) true), some (.cells cl rw), some (.cells cs true), some (.cells lc true)]
noncomputable def mcB (rw : Bool) (M : Mc) : List (Option ABlk) := mcK M.l.length (insC M.l) rw M.pg M.ky (bytC M.sc) M.rs M.pc M.lo.length (loC M.lo) M.code M.val M.nx M.st M.en
/-- A machine's blocks, as they lie. -/
structure Rw where
  n : Nat
  m : Nat
  wr : Bool
  pg : ByteArray
  ky : ByteArray
  val : ByteArray
  rs : List Int
  pc : Int
  code : Int
  nx : Int
  st : Int
  en : Bool
  cl : List Value
  cs : List Value
  lc : List Value
noncomputable def Rw.bs (R : Rw) : List (Option ABlk) := mcK R.n R.cl R.wr R.pg R.ky R.cs R.rs R.pc R.m R.lc R.code R.val R.nx R.st R.en
def Rw.mc (R : Rw) : Mc := { l := unIns R.cl, pg := R.pg, ky := R.ky, sc := unB R.cs, rs := R.rs, pc := R.pc, lo := unL R.lc, code := R.code, val := R.val, nx := R.nx, st := R.st, en := R.en }
def Rw.fit (R : Rw) : Prop := R.cl = insC (unIns R.cl) ∧ (unIns R.cl).length = R.n ∧ R.cs = bytC (unB R.cs) ∧ R.lc = loC (unL R.lc) ∧ (unL R.lc).length = R.m
def rawM (wr : Bool) (M : Mc) : Rw := { n := M.l.length, m := M.lo.length, wr := wr, pg := M.pg, ky := M.ky, val := M.val, rs := M.rs, pc := M.pc, code := M.code, nx := M.nx, st := M.st, en := M.en, cl := insC M.l, cs := bytC M.sc, lc := loC M.lo }
theorem raw_mc (wr : Bool) (M : Mc) : (rawM wr M).mc = M := by
  unfold rawM Rw.mc
  simp only [unIns_insC, unB_bytC, unL_loC]
theorem raw_bs (wr : Bool) (M : Mc) : (rawM wr M).bs = mcB wr M := rfl
theorem fit_raw {R : Rw} (h : R.fit) : R = rawM R.wr R.mc := by
  obtain ⟨h1, h2, h3, h4, h5⟩ := h
  unfold rawM Rw.mc
  simp only
  rw [← h1, ← h3, ← h4, h2, h5]
theorem raw_fit (wr : Bool) (M : Mc) : (rawM wr M).fit := by
  unfold rawM Rw.fit
  simp only [unIns_insC, unB_bytC, unL_loC, and_self]
noncomputable def mcP (bs : List (Option ABlk)) : Option Rw := match bs with
  | [some (.cells [a, .string pg, .string ky, p, c0, c1, c2, c3, c4, c5, c6, c7, pc, lo, cd, .string val, nx, st, .bool en] true), some (.cells cl rw), some (.cells cs true), some (.cells lc true)] =>
    match slN a 1 4, slN lo 3 2, intsV [c0, c1, c2, c3, c4, c5, c6, c7], intV pc, intV cd, intV nx, intV st with
    | some n, some m, some rs, some pc, some cd, some nx, some st => bif isPtr p 2 then
        some { n := n, m := m, wr := rw, pg := pg, ky := ky, val := val, rs := rs, pc := pc, code := cd, nx := nx, st := st, en := en, cl := cl, cs := cs, lc := lc } else none
    | _, _, _, _, _, _, _ => none
  | _ => none
theorem intsV_len : ∀ {vs : List Value} {l : List Int}, intsV vs = some l → l.length = vs.length
  | vs, l, e => by rw [intsV_eq e, List.length_map]
theorem rs8 {rs : List Int} (h : rs.length = 8) : rs = [rg rs 0, rg rs 1, rg rs 2, rg rs 3, rg rs 4, rg rs 5, rg rs 6, rg rs 7] := by
  match rs, h with
  | [a, b, c, d, e, f, g, i], _ => rfl
theorem mcP_eq {bs : List (Option ABlk)} {R : Rw} (e : mcP bs = some R) : bs = R.bs ∧ R.rs.length = 8 := by
  unfold mcP at e
  split at e
  · rename_i a pg ky pp c0 c1 c2 c3 c4 c5 c6 c7 pc lo cd val nx st en cl rw' cs lc
    split at e
    · rename_i n m rs pc' cd' nx' st' h1 h2 h3 h4 h5 h6 h7
      cases hq : isPtr pp 2 with
      | false => rw [hq] at e; simp at e
      | true =>
        rw [hq] at e
        simp only [cond_true, Option.some.injEq] at e
        subst e
        have hl := intsV_len h3
        have he := intsV_eq h3
        have h8 := rs8 hl
        rw [h8] at he
        simp only [List.map_cons, List.map_nil, List.cons.injEq, and_true] at he
        obtain ⟨rfl, rfl, rfl, rfl, rfl, rfl, rfl, rfl⟩ := he
        refine ⟨?_, hl⟩
        unfold Rw.bs mcK
        simp only
        rw [slN_eq h1, slN_eq h2, isPtr_eq hq, intV_eq h4, intV_eq h5, intV_eq h6, intV_eq h7]
    · simp at e
  · simp at e
abbrev ptM : List Pth := [⟨0, [], false⟩, ⟨0, [0], true⟩, ⟨0, [3], true⟩, ⟨0, [13], true⟩]
abbrev ghM : List Gh := [⟨0, some ([], 13), 2⟩]
abbrev flM : List Bool := [false, true, true, true]
abbrev ntM : Nt := { gh := [], flags := flM, paths := [], tr := [] }
abbrev evM (fn : Func) (cs : List Con) (args : List Value) (bs : List (Option ABlk)) (K : List Value → AHeap → Prop) : Prop := evSeg fn cs ntM args bs K
/-- A method of the machine's: what it answers, what the machine is behind it. -/
noncomputable def mCon (f : Nat) (args : List Value → Option (List Int)) (ok : Rw → List Int → Prop) (ans : Rw → List Int → List Value) (out : Rw → List Int → Rw) : Con :=
  { f := f, gh := ghM, paths := ptM, spec := fun vs bs => match vs with
    | p :: vs => match args vs, mcP bs with
      | some xs, some R => bif isPtr p 0 then some (R.fit ∧ ok R xs, ans R xs, flM.zip (out R xs).bs) else none
      | _, _ => none
    | _ => none }
theorem zip_snd {α β : Type} : ∀ {a : List α} {b : List β}, a.length = b.length → (a.zip b).map (·.2) = b
  | [], [], _ => rfl
  | _ :: a, _ :: b, h => by
    rw [List.zip_cons_cons, List.map_cons, zip_snd (by simpa using h)]
theorem mCon_ok {f : Nat} {args : List Value → Option (List Int)} {ok : Rw → List Int → Prop} {ans : Rw → List Int → List Value} {out : Rw → List Int → Rw}
    (h : ∀ (vs : List Value) (xs : List Int) (wr : Bool) (M : Mc), args vs = some xs → M.rs.length = 8 → ok (rawM wr M) xs →
      CallS Tryd.prog w0 f (PT G :: vs) (heapB Tryd.prog.globals.size (mcB wr M)) fun rs' h' => rs' = ans (rawM wr M) xs ∧ h' = heapB Tryd.prog.globals.size (out (rawM wr M) xs).bs) :
    (mCon f args ok ans out).ok Tryd.prog w0 := by
  intro vs bs p rs o e hp
  simp only [mCon] at e
  split at e <;> first | (simp at e; done) | skip
  rename_i p0 vs1
  split at e <;> first | (simp at e; done) | skip
  rename_i xs R hx hm
  cases hq : isPtr p0 0 with
  | false => rw [hq] at e; simp at e
  | true =>
    rw [hq] at e
    simp only [cond_true, Option.some.injEq, Prod.mk.injEq] at e
    obtain ⟨rfl, rfl, rfl⟩ := e
    obtain ⟨hp1, hp2⟩ := hp
    obtain ⟨rfl, h8⟩ := mcP_eq hm
    rw [isPtr_eq hq]
    have hr := fit_raw hp1
    have hz : ∀ R : Rw, (flM.zip R.bs).map (·.2) = R.bs := fun R => zip_snd rfl
    rw [hz]
    have := h vs1 xs R.wr R.mc hx (by exact h8) (by rw [← hr]; exact hp2)
    rw [← hr, ← raw_bs, ← hr] at this
    exact this

theorem ev_mc {f : Nat} {fn : Func} {cs : List Con} {args : List Value} {rw : Bool} {M : Mc} {K : List Value → AHeap → Prop} (hfn : Tryd.prog.funcs[f]? = some fn) (hcd : fn.body = some (fn.body.getD .skip)) (hcs : ∀ c ∈ cs, c.ok Tryd.prog w0)
    (h : evM fn cs args (mcB rw M) K) : CallS Tryd.prog w0 f args (heapB Tryd.prog.globals.size (mcB rw M)) K :=
  ev_callS (nt := ntM) hfn hcd hcs rfl h

/-! Registers. -/
variable {n m : Nat} {pg ky val : ByteArray} {rs : List Int} {pc code nx st : Int} {en : Bool}
theorem mc_rd {d : Int} (h1 : 0 ≤ d) (h2 : d < 8) : okI .i64 (nth (mcR n pg ky rs pc m code val nx st en) (4 + d.toNat * 1)) = true ∧ intO (nth (mcR n pg ky rs pc m code val nx st en) (4 + d.toNat * 1)) = rg rs d.toNat := by
  obtain ⟨k, rfl⟩ := Int.eq_ofNat_of_zero_le h1
  rw [Int.toNat_natCast]
  have hk : k < 8 := by omega
  rcases k with _ | _ | _ | _ | _ | _ | _ | _ | k <;> first | exact ⟨rfl, rfl⟩ | (exfalso; omega)
theorem mc_wr {d v : Int} (h1 : 0 ≤ d) (h2 : d < 8) (h8 : rs.length = 8) : splice (mcR n pg ky rs pc m code val nx st en) (4 + d.toNat * 1) [I v] = mcR n pg ky (rs.set d.toNat v) pc m code val nx st en := by
  obtain ⟨k, rfl⟩ := Int.eq_ofNat_of_zero_le h1
  rw [Int.toNat_natCast]
  have hk : k < 8 := by omega
  match rs, h8 with
  | [a, b, c, d, e, f, g, i], _ =>
    rcases k with _ | _ | _ | _ | _ | _ | _ | _ | k <;> first | rfl | (exfalso; omega)

section
variable (n m : Nat) (pg ky val : ByteArray) (r0 r1 r2 r3 r4 r5 r6 r7 pc code nx st : Int) (en : Bool) (rw : Bool) (cl cs lc : List Value) (op s imm : Int) (K : List Value → AHeap → Prop)
abbrev PL3 (cl cs lc : List Value) : Prop := PlainL cl ∧ PlainL cs ∧ PlainL lc ∧ True
abbrev TTT : Prop := True ∧ True ∧ True
theorem eval30 (d : Nat) (hd : d < 8) : evM Tryd.f30 [con28, con14, con52] [PT G, AG [I op, I d, I s, I imm]] (mcK n cl rw pg ky cs [r0, r1, r2, r3, r4, r5, r6, r7] pc m lc code val nx st en) K
    = (bif op == 0 then PL3 cl cs lc ∧ K [B true] (heapB G (mcK n cl rw pg ky cs ([r0, r1, r2, r3, r4, r5, r6, r7].set d imm) pc m lc code val nx st en)) else
      bif op == 1 then bif decide (0 ≤ s) && decide (s < 8) then bif okI .i64 (nth (mcR n pg ky [r0, r1, r2, r3, r4, r5, r6, r7] pc m code val nx st en) (4 + s.toNat * 1)) then
        PL3 cl cs lc ∧ K [B true] (heapB G (mcK n cl rw pg ky cs ([r0, r1, r2, r3, r4, r5, r6, r7].set d (intO (nth (mcR n pg ky [r0, r1, r2, r3, r4, r5, r6, r7] pc m code val nx st en) (4 + s.toNat * 1)))) pc m lc code val nx st en)) else False else False else
      bif op == 2 then bif decide (0 ≤ s) && decide (s < 8) then bif okI .i64 (nth (mcR n pg ky [r0, r1, r2, r3, r4, r5, r6, r7] pc m code val nx st en) (4 + s.toNat * 1)) then
        TTT ∧ PL3 cl cs lc ∧ K [B true] (heapB G (mcK n cl rw pg ky cs ([r0, r1, r2, r3, r4, r5, r6, r7].set d (r28 (w (rg [r0, r1, r2, r3, r4, r5, r6, r7] d + intO (nth (mcR n pg ky [r0, r1, r2, r3, r4, r5, r6, r7] pc m code val nx st en) (4 + s.toNat * 1)))))) pc m lc code val nx st en)) else False else False else
      bif op == 3 then bif decide (0 ≤ s) && decide (s < 8) then bif okI .i64 (nth (mcR n pg ky [r0, r1, r2, r3, r4, r5, r6, r7] pc m code val nx st en) (4 + s.toNat * 1)) then
        TTT ∧ PL3 cl cs lc ∧ K [B true] (heapB G (mcK n cl rw pg ky cs ([r0, r1, r2, r3, r4, r5, r6, r7].set d (r28 (w (rg [r0, r1, r2, r3, r4, r5, r6, r7] d - intO (nth (mcR n pg ky [r0, r1, r2, r3, r4, r5, r6, r7] pc m code val nx st en) (4 + s.toNat * 1)))))) pc m lc code val nx st en)) else False else False else
      bif op == 4 then TTT ∧ PL3 cl cs lc ∧ K [B true] (heapB G (mcK n cl rw pg ky cs ([r0, r1, r2, r3, r4, r5, r6, r7].set d (r28 (w (rg [r0, r1, r2, r3, r4, r5, r6, r7] d + imm)))) pc m lc code val nx st en)) else
      bif op == 5 then TTT ∧ bif imm == imm && true then TTT ∧ PL3 cl cs lc ∧ K [B true] (heapB G (mcK n cl rw pg ky cs ([r0, r1, r2, r3, r4, r5, r6, r7].set d (r52b (r14b (rg [r0, r1, r2, r3, r4, r5, r6, r7] d)) (r14c (rg [r0, r1, r2, r3, r4, r5, r6, r7] d)) imm)) pc m lc code val nx st en)) else False else
      bif op == 6 then PL3 cl cs lc ∧ K [B true] (heapB G (mcK n cl rw pg ky cs ([r0, r1, r2, r3, r4, r5, r6, r7].set d (r69b (rg [r0, r1, r2, r3, r4, r5, r6, r7] d) 0 imm)) pc m lc code val nx st en)) else
      PL3 cl cs lc ∧ K [B false] (heapB G (mcK n cl rw pg ky cs [r0, r1, r2, r3, r4, r5, r6, r7] pc m lc code val nx st en))) := by
  rcases d with _ | _ | _ | _ | _ | _ | _ | _ | d
  case succ.succ.succ.succ.succ.succ.succ.succ => exfalso; omega
  all_goals kernel_rfl
end
/-- What an instruction that reckons writes. -/
def numV (rs : List Int) (op : Int) (d s : Nat) (imm : Int) : Int :=
  bif op == 0 then imm else bif op == 1 then rg rs s else bif op == 2 then r28 (w (rg rs d + rg rs s)) else bif op == 3 then r28 (w (rg rs d - rg rs s)) else
  bif op == 4 then r28 (w (rg rs d + imm)) else bif op == 5 then r52b (r14b (rg rs d)) (r14c (rg rs d)) imm else r69b (rg rs d) 0 imm
def isNum (op : Int) : Bool := op == 0 || op == 1 || op == 2 || op == 3 || op == 4 || op == 5 || op == 6
def numR (rs : List Int) (op : Int) (d s : Nat) (imm : Int) : List Int := bif isNum op then rs.set d (numV rs op d s imm) else rs
def insV : List Value → Option (List Int)
  | [v] => match aggV v with
    | some [a, b, c, d] => some [a, b, c, d]
    | _ => none
  | _ => none
theorem insV_eq {vs : List Value} {xs : List Int} (e : insV vs = some xs) : ∃ a b c d, vs = [AG [I a, I b, I c, I d]] ∧ xs = [a, b, c, d] := by
  unfold insV at e
  split at e
  · rename_i v
    split at e
    · rename_i a b c d h
      simp only [Option.some.injEq] at e
      exact ⟨a, b, c, d, by rw [aggV_eq h]; rfl, e.symm⟩
    · simp at e
  · simp at e
def ix4 (xs : List Int) (i : Nat) : Int := xs.getD i 0
noncomputable def con30 : Con := mCon 30 insV (fun _ xs => 0 ≤ ix4 xs 1 ∧ ix4 xs 1 < 8 ∧ 0 ≤ ix4 xs 2 ∧ ix4 xs 2 < 8) (fun _ xs => [B (isNum (ix4 xs 0))])
  (fun R xs => { R with rs := numR R.rs (ix4 xs 0) (ix4 xs 1).toNat (ix4 xs 2).toNat (ix4 xs 3) })
theorem plain_mc (M : Mc) : PL3 (insC M.l) (bytC M.sc) (loC M.lo) := ⟨plain_insC _, plain_bytC _, plain_loC _, trivial⟩
theorem split8 {rs : List Int} (h : rs.length = 8) : ∃ r0 r1 r2 r3 r4 r5 r6 r7, rs = [r0, r1, r2, r3, r4, r5, r6, r7] := ⟨_, _, _, _, _, _, _, _, rs8 h⟩
set_option maxRecDepth 100000 in
set_option maxHeartbeats 4000000 in
theorem con30_ok : con30.ok Tryd.prog w0 := mCon_ok fun vs xs rw M e h8 ⟨a1, a2, a3, a4⟩ => by
  obtain ⟨op, d, s, imm, rfl, rfl⟩ := insV_eq e
  simp only [ix4, List.getD_cons_zero, List.getD_cons_succ] at a1 a2 a3 a4 ⊢
  obtain ⟨l, pg, ky, sc, rs, pc, lo, code, val, nx, st, en⟩ := M
  obtain ⟨r0, r1, r2, r3, r4, r5, r6, r7, rfl⟩ := split8 h8
  obtain ⟨d, rfl⟩ := Int.eq_ofNat_of_zero_le a1
  obtain ⟨s, rfl⟩ := Int.eq_ofNat_of_zero_le a3
  obtain ⟨q1, q2⟩ := mc_rd (n := l.length) (m := lo.length) (pg := pg) (ky := ky) (val := val) (rs := [r0, r1, r2, r3, r4, r5, r6, r7]) (pc := pc) (code := code) (nx := nx) (st := st) (en := en) a3 a4
  rw [Int.toNat_natCast] at q1 q2
  have hp : PL3 (insC l) (bytC sc) (loC lo) := ⟨plain_insC _, plain_bytC _, plain_loC _, trivial⟩
  refine ev_mc (cs := [con28, con14, con52]) Tryd.func30 (by kernel_rfl) (fun c hc => by
    simp only [List.mem_cons, List.not_mem_nil, or_false] at hc
    rcases hc with rfl | rfl | rfl
    · exact con28_ok
    · exact con14_ok
    · exact con52_ok) ((eval30 l.length lo.length pg ky val r0 r1 r2 r3 r4 r5 r6 r7 pc code nx st en rw (insC l) (bytC sc) (loC lo) op s imm _ d (by omega)).mpr ?_)
  simp only [a3, a4, q1, q2, decide_true, Bool.and_self, cond_true, Int.toNat_natCast, beq_self_eq_true]
  unfold numR isNum numV
  refine bifP (fun h => ?_) (fun h0 => ?_)
  · simp only [h, Bool.true_or, cond_true]; exact ⟨hp, by trivial, rfl⟩
  refine bifP (fun h => ?_) (fun h1 => ?_)
  · simp only [h, h0, Bool.true_or, Bool.or_true, cond_true, cond_false]; exact ⟨hp, by trivial, rfl⟩
  refine bifP (fun h => ?_) (fun h2 => ?_)
  · simp only [h, h0, h1, Bool.true_or, Bool.or_true, cond_true, cond_false]; exact ⟨⟨trivial, trivial, trivial⟩, hp, by trivial, rfl⟩
  refine bifP (fun h => ?_) (fun h3 => ?_)
  · simp only [h, h0, h1, h2, Bool.true_or, Bool.or_true, cond_true, cond_false]; exact ⟨⟨trivial, trivial, trivial⟩, hp, by trivial, rfl⟩
  refine bifP (fun h => ?_) (fun h4 => ?_)
  · simp only [h, h0, h1, h2, h3, Bool.true_or, Bool.or_true, cond_true, cond_false]; exact ⟨⟨trivial, trivial, trivial⟩, hp, by trivial, rfl⟩
  refine bifP (fun h => ?_) (fun h5 => ?_)
  · simp only [h, h0, h1, h2, h3, h4, Bool.true_or, Bool.or_true, cond_true, cond_false]; exact ⟨⟨trivial, trivial, trivial⟩, ⟨trivial, trivial, trivial⟩, hp, by trivial, rfl⟩
  refine bifP (fun h => ?_) (fun h6 => ?_)
  · simp only [h, h0, h1, h2, h3, h4, h5, Bool.or_true, cond_true, cond_false]; exact ⟨hp, by trivial, rfl⟩
  simp only [h0, h1, h2, h3, h4, h5, h6, Bool.or_self, cond_false]; exact ⟨hp, by trivial, rfl⟩

open Go.Agm Go.Shelf
/-- The numbers. -/
def ren105 : Ren where
  f
    | 105 => 78
    | 212 => 89
    | 99 => 90
    | 165 => 91
    | 166 => 41
    | 170 => 92
    | 169 => 43
    | 263 => 96
    | 264 => 97
    | 206 => 98
    | 240 => 66
    | 241 => 99
    | 276 => 83
    | 277 => 101
    | n => n
  t
    | 9 => 9
    | 3 => 3
    | 4 => 4
    | 20 => 20
    | 0 => 0
    | 46 => 167
    | 109 => 168
    | 5 => 5
    | 72 => 109
    | 76 => 110
    | 51 => 171
    | 146 => 172
    | 53 => 174
    | 148 => 175
    | 70 => 107
    | 37 => 91
    | 75 => 38
    | 127 => 129
    | 164 => 132
    | 80 => 113
    | n => n
  g n := n

theorem lays105 : Lays.n105 Tryd.prog ren105 where
  mixed := mixed
  f99 := by kernel_rfl
  f105 := by kernel_rfl
  f165 := by kernel_rfl
  f166 := by kernel_rfl
  f169 := by kernel_rfl
  f170 := by kernel_rfl
  f206 := by kernel_rfl
  f212 := by kernel_rfl
  f240 := by kernel_rfl
  f241 := by kernel_rfl
  f263 := by kernel_rfl
  f264 := by kernel_rfl
  f276 := by kernel_rfl
  f277 := by kernel_rfl
  t0 := Tryd.underlying0
  a0 := Tryd.isAgg0
  z0 := Tryd.sizeOf0
  v0 := Tryd.zeroValue0
  t3 := Tryd.underlying3
  a3 := Tryd.isAgg3
  z3 := Tryd.sizeOf3
  v3 := Tryd.zeroValue3
  t4 := Tryd.underlying4
  a4 := Tryd.isAgg4
  z4 := Tryd.sizeOf4
  v4 := Tryd.zeroValue4
  t5 := Tryd.underlying5
  a5 := Tryd.isAgg5
  z5 := Tryd.sizeOf5
  v5 := Tryd.zeroValue5
  t9 := Tryd.underlying9
  a9 := Tryd.isAgg9
  z9 := Tryd.sizeOf9
  v9 := Tryd.zeroValue9
  t20 := Tryd.underlying20
  a20 := Tryd.isAgg20
  z20 := Tryd.sizeOf20
  v20 := Tryd.zeroValue20
  t37 := Tryd.underlying91
  a37 := Tryd.isAgg91
  z37 := Tryd.sizeOf91
  v37 := Tryd.zeroValue91
  t46 := Tryd.underlying167
  a46 := Tryd.isAgg167
  z46 := Tryd.sizeOf167
  v46 := Tryd.zeroValue167
  t51 := Tryd.underlying171
  a51 := Tryd.isAgg171
  z51 := Tryd.sizeOf171
  v51 := Tryd.zeroValue171
  t53 := Tryd.underlying174
  a53 := Tryd.isAgg174
  z53 := Tryd.sizeOf174
  v53 := Tryd.zeroValue174
  t70 := Tryd.underlying107
  a70 := Tryd.isAgg107
  z70 := Tryd.sizeOf107
  v70 := Tryd.zeroValue107
  t72 := Tryd.underlying109
  a72 := Tryd.isAgg109
  z72 := Tryd.sizeOf109
  v72 := Tryd.zeroValue109
  t75 := Tryd.underlying38
  a75 := Tryd.isAgg38
  z75 := Tryd.sizeOf38
  v75 := Tryd.zeroValue38
  t76 := Tryd.underlying110
  a76 := Tryd.isAgg110
  z76 := Tryd.sizeOf110
  v76 := Tryd.zeroValue110
  t109 := Tryd.underlying168
  a109 := Tryd.isAgg168
  z109 := Tryd.sizeOf168
  v109 := Tryd.zeroValue168
  t127 := Tryd.underlying129
  a127 := Tryd.isAgg129
  z127 := Tryd.sizeOf129
  v127 := Tryd.zeroValue129
  t146 := Tryd.underlying172
  a146 := Tryd.isAgg172
  z146 := Tryd.sizeOf172
  v146 := Tryd.zeroValue172
  t148 := Tryd.underlying175
  a148 := Tryd.isAgg175
  z148 := Tryd.sizeOf175
  v148 := Tryd.zeroValue175
  t164 := Tryd.underlying132
  a164 := Tryd.isAgg132
  z164 := Tryd.sizeOf132
  v164 := Tryd.zeroValue132

theorem extra105 : Builder.Extra Tryd.prog ren105 where
  sizeBuilder := by kernel_rfl
  liesBuilder := by kernel_rfl
  t5 := Tryd.underlying5
  a5 := Tryd.isAgg5
  z5 := Tryd.sizeOf5
  v5 := Tryd.zeroValue5
  infoByte := by kernel_rfl
  cellsByte := by kernel_rfl
  sizeByte := by kernel_rfl
  neB5 := by decide

/-- The numbers. -/
def ren106 : Ren where
  f
    | 106 => 82
    | 213 => 94
    | 265 => 100
    | n => n
  t
    | 9 => 9
    | 3 => 3
    | n => n
  g n := n

theorem lays106 : Lays.n106 Tryd.prog ren106 where
  mixed := mixed
  f106 := by kernel_rfl
  f213 := by kernel_rfl
  f265 := by kernel_rfl
  t3 := Tryd.underlying3
  a3 := Tryd.isAgg3
  z3 := Tryd.sizeOf3
  v3 := Tryd.zeroValue3
  t9 := Tryd.underlying9
  a9 := Tryd.isAgg9
  z9 := Tryd.sizeOf9
  v9 := Tryd.zeroValue9

/-! Functions of the library's, as contracts. -/
theorem ext_callS {f : Nat} {args : List Value} {v : Value} {h : AHeap} (ha : ∀ x ∈ args, plainD 5 x = true) (hv : plainD 5 v = true)
    (hc : ∀ w : World, Calls Tryd.prog f args.toArray w fun e w' => e = .returned v ∧ RowKit.Below w.heap.size w w') :
    CallS Tryd.prog w0 f args h fun rs h' => rs = [v] ∧ h' = h := by
  intro m E w args' hr hl _
  rw [hl.plain 5 ha]
  refine (hc w).mono ?_
  rintro e w' ⟨rfl, hb⟩
  have he : Ext w w' := ⟨hb.os, hb.tape, hb.output, hb.size, hb.block⟩
  exact ⟨[v], h, v, m, ⟨rfl, rfl⟩, rfl, fun _ _ hx => hx, hr.grow he, he.keep hr.ext, V.of_plain 5 hv⟩
/-- strings.Compare. -/
def cmpS (a b : ByteArray) : Int := Lib.compareBytes a.data.toList b.data.toList
noncomputable def con82 : Con := { f := 82, gh := [], paths := [], spec := fun args bs => match args, bs with
  | [.string a, .string b], [] => some (True, [I (cmpS a b)], [])
  | _, _ => none }
theorem con82_ok : con82.ok Tryd.prog w0 := by
  intro args bs p rs out e _
  simp only [con82] at e
  split at e <;> first | (simp at e; done) | skip
  rename_i a b
  simp only [Option.some.injEq, Prod.mk.injEq] at e
  obtain ⟨rfl, rfl, rfl⟩ := e
  refine ext_callS (fun x hx => ?_) rfl fun w => (Any.strings_Compare lays106 a b w).mono ?_
  · simp only [List.mem_cons, List.not_mem_nil, or_false] at hx
    rcases hx with rfl | rfl <;> rfl
  · rintro e w' ⟨rfl, rfl⟩
    exact ⟨rfl, RowKit.Below.refl _ _⟩
/-- strings.Repeat, few times. -/
def repS (s : ByteArray) (c : Int) : ByteArray := ⟨(Lib.repeatL s.data.toList c.toNat).toArray⟩
noncomputable def con78 : Con := { f := 78, gh := [], paths := [], spec := fun args bs => match args, bs with
  | [.string s, n], [] => match intV n with
    | some c => some (0 ≤ c ∧ c ≤ 1000 ∧ s.size ≤ 1000, [.string (repS s c)], [])
    | none => none
  | _, _ => none }
theorem con78_ok : con78.ok Tryd.prog w0 := by
  intro args bs p rs out e hp
  simp only [con78] at e
  split at e <;> first | (simp at e; done) | skip
  split at e <;> first | (simp at e; done) | skip
  rename_i s n _ c hn
  simp only [Option.some.injEq, Prod.mk.injEq] at e
  obtain ⟨rfl, rfl, rfl⟩ := e
  obtain ⟨h1, h2, h3⟩ := hp
  rw [intV_eq hn]
  obtain ⟨k, rfl⟩ := Int.eq_ofNat_of_zero_le h1
  refine ext_callS (fun x hx => ?_) rfl fun w => (Any.strings_Repeat lays105 extra105 s k w (by omega) ?_).mono ?_
  · simp only [List.mem_cons, List.not_mem_nil, or_false] at hx
    rcases hx with rfl | rfl <;> rfl
  · have := Nat.mul_le_mul h3 (show k ≤ 1000 by omega)
    omega
  · rintro e w' ⟨rfl, hb⟩
    exact ⟨rfl, hb⟩
/-- Bytes of a text from a place on. -/
def r79b (s : ByteArray) (a n : Int) : Bool := bif decide (a < 0) then false else bif decide (n < 0) then false else bif decide (n > (s.size : Int)) then false else !decide (a > w ((s.size : Int) - n))
def r79a (s : ByteArray) (a n : Int) : ByteArray := bif r79b s a n then s.extract a.toNat (w (a + n)).toNat else ⟨#[]⟩
theorem eval79 (s : ByteArray) (a n : Int) (r : List Value) : pureSeg [] Tryd.f79 [.string s, I a, I n] r
    = (bif decide (a < 0) then True ∧ [.string ⟨#[]⟩, B false] = r else bif decide (n < 0) then True ∧ [.string ⟨#[]⟩, B false] = r else bif decide (n > (s.size : Int)) then True ∧ [.string ⟨#[]⟩, B false] = r else
      bif decide (a > w ((s.size : Int) - n)) then True ∧ [.string ⟨#[]⟩, B false] = r else
      bif decide (0 ≤ w (a + n)) && decide (w (a + n) ≤ (s.size : Int)) && decide (0 ≤ a) && decide (a ≤ w (a + n)) then True ∧ [.string (s.extract a.toNat (w (a + n)).toNat), B true] = r else False) := by kernel_rfl
noncomputable def con79 : Con := { f := 79, gh := [], paths := [], spec := fun args bs => match args, bs with
  | [.string s, va, vn], [] => match intV va, intV vn with
    | some a, some n => some (s.size ≤ 1000000000, [.string (r79a s a n), B (r79b s a n)], [])
    | _, _ => none
  | _, _ => none }
theorem con79_ok : con79.ok Tryd.prog w0 := by
  intro args bs p rs out e hp
  simp only [con79] at e
  split at e <;> first | (simp at e; done) | skip
  split at e <;> first | (simp at e; done) | skip
  rename_i s va vn _ _ a n ha hn
  simp only [Option.some.injEq, Prod.mk.injEq] at e
  obtain ⟨rfl, rfl, rfl⟩ := e
  rw [intV_eq ha, intV_eq hn]
  refine pureS (cs := []) Tryd.func79 (by kernel_rfl) (fun c hc => by simp at hc) ?_
  rw [eval79]
  unfold r79a r79b
  refine bifP (fun h1 => ?_) (fun h1 => ?_)
  · simp only [h1, cond_true, cond_false]; exact ⟨trivial, by trivial⟩
  refine bifP (fun h2 => ?_) (fun h2 => ?_)
  · simp only [h1, h2, cond_true, cond_false]; exact ⟨trivial, by trivial⟩
  refine bifP (fun h3 => ?_) (fun h3 => ?_)
  · simp only [h1, h2, h3, cond_true, cond_false]; exact ⟨trivial, by trivial⟩
  refine bifP (fun h4 => ?_) (fun h4 => ?_)
  · simp only [h1, h2, h3, h4, Bool.not_true, cond_false]; exact ⟨trivial, by trivial⟩
  simp only [h1, h2, h3, h4, Bool.not_false, cond_true, cond_false]
  simp only [decide_eq_false_iff_not] at h1 h2 h3 h4
  rw [w_id (by omega) (by omega)] at h4
  have e1 : w (a + n) = a + n := w_id (by omega) (by omega)
  rw [e1, decide_eq_true (show 0 ≤ a + n by omega), decide_eq_true (show a + n ≤ (s.size : Int) by omega), decide_eq_true (show 0 ≤ a by omega), decide_eq_true (show a ≤ a + n by omega)]
  exact ⟨trivial, by trivial⟩
/-- A number of bytes, the lowest first. -/
def raw1 (a : UInt8) : Int := w (((BitVec.ofInt 64 0).or (BitVec.ofInt 64 (w (a.toNat : Int)))).toNat : Int)
def raw2 (a b : UInt8) : Int := w (((BitVec.ofInt 64 (w (raw1 b * 256))).or (BitVec.ofInt 64 (w (a.toNat : Int)))).toNat : Int)
def r80 (s : ByteArray) : Int := match s.data.toList with
  | [a] => raw1 a
  | [a, b] => raw2 a b
  | _ => 0
theorem eval80a (a : UInt8) (r : List Value) : pureSeg [] Tryd.f80 [.string ⟨#[a]⟩] r = (True ∧ [I (raw1 a)] = r) := by kernel_rfl
theorem eval80b (a b : UInt8) (r : List Value) : pureSeg [] Tryd.f80 [.string ⟨#[a, b]⟩] r = (True ∧ [I (raw2 a b)] = r) := by kernel_rfl
noncomputable def con80 : Con := { f := 80, gh := [], paths := [], spec := fun args bs => match args, bs with
  | [.string s], [] => some (s.size = 1 ∨ s.size = 2, [I (r80 s)], [])
  | _, _ => none }
set_option maxRecDepth 100000 in
theorem con80_ok : con80.ok Tryd.prog w0 := by
  intro args bs p rs out e hp
  simp only [con80] at e
  split at e <;> first | (simp at e; done) | skip
  rename_i s
  simp only [Option.some.injEq, Prod.mk.injEq] at e
  obtain ⟨rfl, rfl, rfl⟩ := e
  refine pureS (cs := []) Tryd.func80 (by kernel_rfl) (fun c hc => by simp at hc) ?_
  have key : ∀ (s : ByteArray), s.size = 1 ∨ s.size = 2 → (∃ a, s = ⟨#[a]⟩) ∨ ∃ a b, s = ⟨#[a, b]⟩ := by
    rintro ⟨⟨l⟩⟩ h
    match l, h with
    | [a], _ => exact .inl ⟨a, rfl⟩
    | [a, b], _ => exact .inr ⟨a, b, rfl⟩
    | [], h => simp [ByteArray.size] at h
    | _ :: _ :: _ :: _, h => simp [ByteArray.size] at h
  rcases key s hp with ⟨a, rfl⟩ | ⟨a, b, rfl⟩
  · rw [show r80 ⟨#[a]⟩ = raw1 a from rfl, eval80a]; exact ⟨trivial, rfl⟩
  · rw [show r80 ⟨#[a, b]⟩ = raw2 a b from rfl, eval80b]; exact ⟨trivial, rfl⟩
end Go.Proofs.YtadaindmgmielaaDoor
