/- The document's Step: what its pieces come to. No condition. -/
import Derived.Test.YtadaindmgmielaaPh
import Derived.Test.YtadaindmgmielaaPg
namespace Go.Proofs.Ytadaindmgmielaa
open Go.Agm
variable {w0 : World}
/-! Step. -/
noncomputable def ft13 : FT := { loc := fun _ => false, mask := fun id => bif Nat.beq id 6 then live 353 [0, 3, 4, 5, 6] else bif Nat.beq id 33 then live 353 [0, 5, 6, 7] else bif Nat.beq id 43 then live 353 [0, 3, 6] else [] }
noncomputable def todo13 : List Item := todoOf Try.f13 6
noncomputable def todo33 : List Item := todoOf Try.f13 33
noncomputable def todo43 : List Item := todoOf Try.f13 43
noncomputable def fr43 (b : Bool) : List AV := frm 353 [(0, .v (PT G)), (3, .v (PT (G + 4))), (6, .v (B b))]
noncomputable def fr33 (s a : Int) (b : Bool) : List AV := frm 353 [(0, .v (PT G)), (5, .v (I s)), (6, .v (B b)), (7, .v (I a))]
abbrev nt13 : Nt := { gh := [], flags := flD, paths := [⟨3, [], true⟩], tr := [] }
noncomputable def fr13 (d s : Int) : List AV := frm 353 [(0, .v (PT G)), (3, .v (PT (G + 4))), (4, .v (I d)), (5, .v (I s)), (6, .v (B true))]
abbrev leaf13 (L : List Item → List AV → AHeap → Prop) : List Item → List AV → AHeap → Prop := fun t fr h => match t with
  | .code (.region 6 _ _) :: _ => canonT G nt13 (L t) fr h
  | .code (.region 33 _ _) :: _ => canonT G ntF (L t) fr h
  | .code (.region 43 _ _) :: _ => canonT G nt13 (L t) fr h
  | _ => False
noncomputable abbrev M13 (cs : List Con) (nt : Nt) (K : List Value → AHeap → Prop) : Mach Prop := semI Try.prog (fun _ => ft0) (callsOf G cs) 400 20 (retT G nt K)
abbrev seg13 (cs : List Con) (nt : Nt) (K : List Value → AHeap → Prop) (L : List Item → List AV → AHeap → Prop) (t : List Item) (fr : List AV) (h : AHeap) : Prop :=
  segK3 Try.prog ft13 (M13 cs nt K) Try.f13 [6, 33, 43] 400 t fr (leaf13 L) h
noncomputable abbrev cs13 : List Con := [conR, conU23, conT24, con25d, con26d, con27d]
abbrev kR (K : List Value → AHeap → Prop) (b : Bool) (R : Dw) : Prop := kD R.n R.cl R.wr R.pg R.ky R.f R.g R.pc R.m R.lc R.ld R.val R.nx R.code R.en K b
def nrm (k : Nat) (f : Nat → Int) : Nat → Int := fun i => ((List.range k).map f).getD i 0
abbrev nextD (r : Bool × Dw) : Dw := { r.2 with pc := w (r.2.pc + 1) }
section
variable (n m : Nat) (pg ky val : ByteArray) (f g : Nat → Int) (pc nx code : Int) (en rw : Bool) (cl lc ld : List Value) (dv sv i : Int) (K : List Value → AHeap → Prop) (L : List Item → List AV → AHeap → Prop)
abbrev okX (cl : List Value) (i : Int) : Bool := (0 + i.toNat * 4 + 4).ble cl.length && (ox cl i 0 && (ox cl i 1 && (ox cl i 2 && (ox cl i 3 && true))))
abbrev agX (cl : List Value) (i : Int) : Value := AG [I (ix cl i 0), I (ix cl i 1), I (ix cl i 2), I (ix cl i 3)]
theorem start13 : seg13 cs13 ntE K L [.code (Try.f13.body.getD .skip)] (startF Try.f13 [PT G]) (heapB G (dK n cl rw pg ky f g pc m lc ld val nx code en))
    = (bif decide (pc ≥ (n : Int)) then kD n cl rw pg ky f g pc m lc ld val nx code en K false else
      bif decide (0 ≤ pc) && decide (pc < (n : Int)) then bif okX cl pc then
        (True ∧ True ∧ right ⟨ix cl pc 0, ix cl pc 1, ix cl pc 2, ix cl pc 3⟩ = true) ∧
        bif decide (0 ≤ pc) && decide (pc < (n : Int)) then bif okX cl pc then bif okX cl pc && veq 4 (agX cl pc) (agX cl pc) && (pc == pc && (veq 4 (SL (G + 1) n 4) (SL (G + 1) n 4) && true)) then
        bif decide (0 ≤ ix cl pc 1) && decide (ix cl pc 1 < 8) then bif okI .i64 (dRd n m pg ky val f g pc nx code en (ix cl pc 1)) then
        bif decide (0 ≤ ix cl pc 2) && decide (ix cl pc 2 < 8) then bif okI .i64 (dRd n m pg ky val f g pc nx code en (ix cl pc 2)) then
          PL4 cl lc ld (I4 cl pc) ∧ L todo13 (fr13 (intO (dRd n m pg ky val f g pc nx code en (ix cl pc 1))) (intO (dRd n m pg ky val f g pc nx code en (ix cl pc 2)))) (heapB G (dK n cl rw pg ky f g pc m lc ld val nx code en ++ [some (.cells (I4 cl pc) true)]))
        else False else False else False else False else False else False else False else False else False) := by kernel_rfl
end

section
variable (n m : Nat) (pg ky val : ByteArray) (f g : Nat → Int) (pc nx code : Int) (en rw : Bool) (cl lc ld : List Value) (dv sv s i : Int) (K : List Value → AHeap → Prop) (L : List Item → List AV → AHeap → Prop)
/-- An instruction that writes a register. -/
abbrev gD (n : Nat) (cl : List Value) (rw : Bool) (pg ky : ByteArray) (f : Nat → Int) (pc : Int) (m : Nat) (lc ld : List Value) (val : ByteArray) (nx code : Int) (en : Bool) (K : List Value → AHeap → Prop) (g : Nat → Int) : Prop :=
  kD n cl rw pg ky f g (w (pc + 1)) m lc ld val nx code en K true
theorem d0 (d : Nat) (hd : d < 8) : seg13 cs13 ntE K L todo13 (fr13 dv sv) (heapB G (hpX n cl rw pg ky f g pc m lc ld val nx code en 0 d s i)) = (gD n cl rw pg ky f pc m lc ld val nx code en K (upd g d i)) := by
  rcases d with _ | _ | _ | _ | _ | _ | _ | _ | d
  case succ.succ.succ.succ.succ.succ.succ.succ => exfalso; omega
  all_goals kernel_rfl
theorem d1 (d : Nat) (hd : d < 8) : seg13 cs13 ntE K L todo13 (fr13 dv sv) (heapB G (hpX n cl rw pg ky f g pc m lc ld val nx code en 1 d s i)) = (gD n cl rw pg ky f pc m lc ld val nx code en K (upd g d sv)) := by
  rcases d with _ | _ | _ | _ | _ | _ | _ | _ | d
  case succ.succ.succ.succ.succ.succ.succ.succ => exfalso; omega
  all_goals kernel_rfl
theorem d2 (d : Nat) (hd : d < 8) : seg13 cs13 ntE K L todo13 (fr13 dv sv) (heapB G (hpX n cl rw pg ky f g pc m lc ld val nx code en 2 d s i)) = (TTT ∧ gD n cl rw pg ky f pc m lc ld val nx code en K (upd g d (rU23 (w (dv + sv))))) := by
  rcases d with _ | _ | _ | _ | _ | _ | _ | _ | d
  case succ.succ.succ.succ.succ.succ.succ.succ => exfalso; omega
  all_goals kernel_rfl
theorem d3 (d : Nat) (hd : d < 8) : seg13 cs13 ntE K L todo13 (fr13 dv sv) (heapB G (hpX n cl rw pg ky f g pc m lc ld val nx code en 3 d s i)) = (TTT ∧ gD n cl rw pg ky f pc m lc ld val nx code en K (upd g d (rU23 (w (dv - sv))))) := by
  rcases d with _ | _ | _ | _ | _ | _ | _ | _ | d
  case succ.succ.succ.succ.succ.succ.succ.succ => exfalso; omega
  all_goals kernel_rfl
theorem d4 (d : Nat) (hd : d < 8) : seg13 cs13 ntE K L todo13 (fr13 dv sv) (heapB G (hpX n cl rw pg ky f g pc m lc ld val nx code en 4 d s i)) = (TTT ∧ gD n cl rw pg ky f pc m lc ld val nx code en K (upd g d (rU23 (w (dv + i))))) := by
  rcases d with _ | _ | _ | _ | _ | _ | _ | _ | d
  case succ.succ.succ.succ.succ.succ.succ.succ => exfalso; omega
  all_goals kernel_rfl
theorem d5 (d : Nat) (hd : d < 8) : seg13 cs13 ntE K L todo13 (fr13 dv sv) (heapB G (hpX n cl rw pg ky f g pc m lc ld val nx code en 5 d s i)) = ((True ∧ True ∧ In40 dv ∧ -2147483648 ≤ i ∧ i < 2147483648) ∧ gD n cl rw pg ky f pc m lc ld val nx code en K (upd g d (r77 dv i))) := by
  rcases d with _ | _ | _ | _ | _ | _ | _ | _ | d
  case succ.succ.succ.succ.succ.succ.succ.succ => exfalso; omega
  all_goals kernel_rfl
theorem d6 (d : Nat) (hd : d < 8) : seg13 cs13 ntE K L todo13 (fr13 dv sv) (heapB G (hpX n cl rw pg ky f g pc m lc ld val nx code en 6 d s i)) = (bif decide (dv > i) then bif decide (dv < 0) then gD n cl rw pg ky f pc m lc ld val nx code en K (upd g d 0) else gD n cl rw pg ky f pc m lc ld val nx code en K (upd g d i) else bif decide (dv < 0) then gD n cl rw pg ky f pc m lc ld val nx code en K (upd g d 0) else gD n cl rw pg ky f pc m lc ld val nx code en K g) := by
  rcases d with _ | _ | _ | _ | _ | _ | _ | _ | d
  case succ.succ.succ.succ.succ.succ.succ.succ => exfalso; omega
  all_goals kernel_rfl
end

section
variable (n m : Nat) (pg ky val : ByteArray) (f g : Nat → Int) (pc nx code : Int) (en rw : Bool) (cl lc ld : List Value) (dv sv d s i a b c a' b' c' : Int) (K : List Value → AHeap → Prop) (L : List Item → List AV → AHeap → Prop)
abbrev Rn (n m : Nat) (pg ky val : ByteArray) (f g : Nat → Int) (pc nx code : Int) (en rw : Bool) (cl lc ld : List Value) : Dw := ⟨n, m, rw, pg, ky, val, nrm 64 f, nrm 8 g, pc, nx, code, en, cl, lc, ld⟩
/-- A function of the machine's is asked. -/
abbrev askD (K : List Value → AHeap → Prop) (R : Dw) (ok : Prop) (r : Bool × Dw) : Prop :=
  (PL3 R.cl R.lc R.ld ∧ PL3 r.2.cl r.2.lc r.2.ld ∧ (R.fit ∧ R.m = R.m) ∧ ok) ∧ kR K r.1 (nextD r)
theorem d7 : seg13 cs13 ntE K L todo13 (fr13 dv sv) (heapB G (hpX n cl rw pg ky f g pc m lc ld val nx code en 7 d s i))
    = askD K (Rn n m pg ky val f g pc nx code en rw cl lc ld) (((7 : Int) = 7 ∨ (7 : Int) = 8 ∨ (7 : Int) = 9 ∨ (7 : Int) = 10) ∧ (0 ≤ d ∧ d < 8 ∧ 0 ≤ s ∧ s < 8) ∧ pg.size ≤ 1000000000 ∧ ky.size ≤ 16) (lookD (Rn n m pg ky val f g pc nx code en rw cl lc ld) 7 d.toNat s.toNat i) := by kernel_rfl
theorem d8 : seg13 cs13 ntE K L todo13 (fr13 dv sv) (heapB G (hpX n cl rw pg ky f g pc m lc ld val nx code en 8 d s i))
    = askD K (Rn n m pg ky val f g pc nx code en rw cl lc ld) (((8 : Int) = 7 ∨ (8 : Int) = 8 ∨ (8 : Int) = 9 ∨ (8 : Int) = 10) ∧ (0 ≤ d ∧ d < 8 ∧ 0 ≤ s ∧ s < 8) ∧ pg.size ≤ 1000000000 ∧ ky.size ≤ 16) (lookD (Rn n m pg ky val f g pc nx code en rw cl lc ld) 8 d.toNat s.toNat i) := by kernel_rfl
theorem d9 : seg13 cs13 ntE K L todo13 (fr13 dv sv) (heapB G (hpX n cl rw pg ky f g pc m lc ld val nx code en 9 d s i))
    = askD K (Rn n m pg ky val f g pc nx code en rw cl lc ld) (((9 : Int) = 7 ∨ (9 : Int) = 8 ∨ (9 : Int) = 9 ∨ (9 : Int) = 10) ∧ (0 ≤ d ∧ d < 8 ∧ 0 ≤ s ∧ s < 8) ∧ pg.size ≤ 1000000000 ∧ ky.size ≤ 16) (lookD (Rn n m pg ky val f g pc nx code en rw cl lc ld) 9 d.toNat s.toNat i) := by kernel_rfl
theorem d10 : seg13 cs13 ntE K L todo13 (fr13 dv sv) (heapB G (hpX n cl rw pg ky f g pc m lc ld val nx code en 10 d s i))
    = askD K (Rn n m pg ky val f g pc nx code en rw cl lc ld) (((10 : Int) = 7 ∨ (10 : Int) = 8 ∨ (10 : Int) = 9 ∨ (10 : Int) = 10) ∧ (0 ≤ d ∧ d < 8 ∧ 0 ≤ s ∧ s < 8) ∧ pg.size ≤ 1000000000 ∧ ky.size ≤ 16) (lookD (Rn n m pg ky val f g pc nx code en rw cl lc ld) 10 d.toNat s.toNat i) := by kernel_rfl
theorem d11 : seg13 cs13 ntE K L todo13 (fr13 dv sv) (heapB G (hpX n cl rw pg ky f g pc m lc ld val nx code en 11 d s i))
    = (bif decide (w (dv + i) ≥ 0) then bif decide (w (dv + i) < 64) then PL3 cl lc ld ∧ L todo33 (fr33 sv (w (dv + i)) (decide (w (dv + i) < 64))) (heapB G (dK n cl rw pg ky f g pc m lc ld val nx code en))
      else kD n cl rw pg ky f g (w (pc + 1)) m lc ld val nx code en K (decide (w (dv + i) < 64)) else kD n cl rw pg ky f g (w (pc + 1)) m lc ld val nx code en K false) := by kernel_rfl
abbrev okJ (n m : Nat) (pc : Int) (R : Dw) : Prop := m ≤ 3 ∧ n < 1000000000 ∧ ∀ o ∈ loD R, 0 ≤ o.1 ∧ o.1 ≤ pc
theorem d12 : seg13 cs13 ntE K L todo13 (fr13 dv sv) (heapB G (hpX n cl rw pg ky f g pc m lc ld val nx code en 12 d s i))
    = askD K (Rn n m pg ky val f g pc nx code en rw cl lc ld) (okJ n m pc (Rn n m pg ky val f g pc nx code en rw cl lc ld)) (jumpD (Rn n m pg ky val f g pc nx code en rw cl lc ld) i) := by kernel_rfl
theorem d13 : seg13 cs13 ntE K L todo13 (fr13 dv sv) (heapB G (hpX n cl rw pg ky f g pc m lc ld val nx code en 13 d s i))
    = (bif dv == sv then askD K (Rn n m pg ky val f g pc nx code en rw cl lc ld) (okJ n m pc (Rn n m pg ky val f g pc nx code en rw cl lc ld)) (jumpD (Rn n m pg ky val f g pc nx code en rw cl lc ld) i)
      else kD n cl rw pg ky f g (w (pc + 1)) m lc ld val nx code en K true) := by kernel_rfl
theorem d14 : seg13 cs13 ntE K L todo13 (fr13 dv sv) (heapB G (hpX n cl rw pg ky f g pc m lc ld val nx code en 14 d s i))
    = (bif dv != sv then askD K (Rn n m pg ky val f g pc nx code en rw cl lc ld) (okJ n m pc (Rn n m pg ky val f g pc nx code en rw cl lc ld)) (jumpD (Rn n m pg ky val f g pc nx code en rw cl lc ld) i)
      else kD n cl rw pg ky f g (w (pc + 1)) m lc ld val nx code en K true) := by kernel_rfl
theorem d15 : seg13 cs13 ntE K L todo13 (fr13 dv sv) (heapB G (hpX n cl rw pg ky f g pc m lc ld val nx code en 15 d s i))
    = (bif decide (dv < sv) then askD K (Rn n m pg ky val f g pc nx code en rw cl lc ld) (okJ n m pc (Rn n m pg ky val f g pc nx code en rw cl lc ld)) (jumpD (Rn n m pg ky val f g pc nx code en rw cl lc ld) i)
      else kD n cl rw pg ky f g (w (pc + 1)) m lc ld val nx code en K true) := by kernel_rfl
theorem d16 : seg13 cs13 ntE K L todo13 (fr13 dv sv) (heapB G (hpX n cl rw pg ky f g pc m lc ld val nx code en 16 d s i))
    = (bif decide (dv ≤ sv) then askD K (Rn n m pg ky val f g pc nx code en rw cl lc ld) (okJ n m pc (Rn n m pg ky val f g pc nx code en rw cl lc ld)) (jumpD (Rn n m pg ky val f g pc nx code en rw cl lc ld) i)
      else kD n cl rw pg ky f g (w (pc + 1)) m lc ld val nx code en K true) := by kernel_rfl
theorem d17 (nt : Nt) (hnt : nt = ntE6) : seg13 cs13 nt K L todo13 (fr13 dv sv) (heapB G (hpX n cl rw pg ky f g pc m lc ld val nx code en 17 d s i))
    = (PL4 cl lc ld [I 17, I d, I s, I i] ∧ L todo43 (fr43 (decide ((m : Int) < 3))) (heapB G (hpX n cl rw pg ky f g pc m lc ld val nx code en 17 d s i))) := by subst hnt; kernel_rfl
theorem d18_1 : seg13 cs13 ntE K L todo13 (fr13 dv sv) (heapB G (hpX n cl rw pg ky f g pc 1 [I a] [I a'] val nx code en 18 d s i))
    = (bif decide (w (a' - 1) > 0) then kD n cl rw pg ky f g (w (a + 1)) 1 [I a] [I (w (a' - 1))] val nx code en K true else kD n cl rw pg ky f g (w (pc + 1)) 0 [] [] val nx code en K true) := by kernel_rfl
theorem d18_2 : seg13 cs13 ntE K L todo13 (fr13 dv sv) (heapB G (hpX n cl rw pg ky f g pc 2 [I a, I b] [I a', I b'] val nx code en 18 d s i))
    = (bif decide (w (b' - 1) > 0) then kD n cl rw pg ky f g (w (b + 1)) 2 [I a, I b] [I a', I (w (b' - 1))] val nx code en K true else kD n cl rw pg ky f g (w (pc + 1)) 1 [I a] [I a'] val nx code en K true) := by kernel_rfl
theorem d18_3 : seg13 cs13 ntE K L todo13 (fr13 dv sv) (heapB G (hpX n cl rw pg ky f g pc 3 [I a, I b, I c] [I a', I b', I c'] val nx code en 18 d s i))
    = (bif decide (w (c' - 1) > 0) then kD n cl rw pg ky f g (w (c + 1)) 3 [I a, I b, I c] [I a', I b', I (w (c' - 1))] val nx code en K true else kD n cl rw pg ky f g (w (pc + 1)) 2 [I a, I b] [I a', I b'] val nx code en K true) := by kernel_rfl
theorem d19 : seg13 cs13 ntE K L todo13 (fr13 dv sv) (heapB G (hpX n cl rw pg ky f g pc m lc ld val nx code en 19 d s i))
    = askD K (Rn n m pg ky val f g pc nx code en rw cl lc ld) (pg.size ≤ 1000000000 ∧ (i = 1 ∨ i = 2 ∨ i = 3)) (callD (Rn n m pg ky val f g pc nx code en rw cl lc ld) i) := by kernel_rfl
theorem d20 : seg13 cs13 ntE K L todo13 (fr13 dv sv) (heapB G (hpX n cl rw pg ky f g pc m lc ld val nx code en 20 d s i))
    = kD n cl rw pg ky f g (w (pc + 1)) m lc ld val nx (g 0) true K true := by kernel_rfl
end

set_option maxRecDepth 100000 in
theorem d33 (n m : Nat) (pg ky val : ByteArray) (f g : Nat → Int) (pc nx code : Int) (en rw : Bool) (cl lc ld : List Value) (sv : Int) (b : Bool) (K : List Value → AHeap → Prop) (L : List Item → List AV → AHeap → Prop) (k : Nat) (hk : k < 64) : seg13 cs13 ntE K L todo33 (fr33 sv k b) (heapB G (dK n cl rw pg ky f g pc m lc ld val nx code en))
    = kD n cl rw pg ky (upd f k (IntKind.u8.wrap sv)) g (w (pc + 1)) m lc ld val nx code en K b := by
  obtain ⟨q, r, rfl, hq, hr⟩ : ∃ q r, k = 8 * q + r ∧ q < 8 ∧ r < 8 := ⟨k / 8, k % 8, by omega, by omega, by omega⟩
  rcases q with _ | _ | _ | _ | _ | _ | _ | _ | q
  case succ.succ.succ.succ.succ.succ.succ.succ => exfalso; omega
  all_goals
    rcases r with _ | _ | _ | _ | _ | _ | _ | _ | r
    case succ.succ.succ.succ.succ.succ.succ.succ => exfalso; omega
    all_goals kernel_rfl

/-- The operations of a region. -/
noncomputable def opsOf (t : List Item) : Array Oper := match t with
  | .code (.region _ ops _) :: _ => ops
  | _ => #[]
noncomputable def ops43 : Array Oper := opsOf todo43
noncomputable def ord43 : List (List Nat) := linA (Region.before ops43) ops43.size (actsA Try.prog ft13.loc ops43)
/-- What comes behind a region. -/
def afterK (P : Program) (F : FT) (M : Mach Prop) (fn : Func) (cuts : List Nat) (n : Nat) (leaf : List Item → List AV → AHeap → Prop) (t : List Item) (fr : List AV) (h : AHeap) : Prop := match t with
  | .code (.region id ops d) :: t => bif cuts.contains id then leaf (.code (.region id ops d) :: t) (maskF (F.mask id) fr) h else segK3 P F M fn cuts n (.code (.region id ops d) :: t) fr leaf h
  | t => segK3 P F M fn cuts n t fr leaf h
theorem segK3_region {P : Program} {F : FT} {M : Mach Prop} {fn : Func} {cuts : List Nat} {n : Nat} {leaf : List Item → List AV → AHeap → Prop} {id : Nat} {ops : Array Oper} {r : List Item} {fr : List AV} {h : AHeap} :
    segK3 P F M fn cuts (n + 1) (.code (.region id ops true) :: r) fr leaf h = drawK3 P F.loc M ops (maskF (F.mask id) fr) (afterK P F M fn cuts n leaf r) h := rfl
theorem segK3_400 {P : Program} {F : FT} {M : Mach Prop} {fn : Func} {cuts : List Nat} {leaf : List Item → List AV → AHeap → Prop} {id : Nat} {ops : Array Oper} {t r : List Item} {fr : List AV} {h : AHeap} (e : t = .code (.region id ops true) :: r) :
    segK3 P F M fn cuts 400 t fr leaf h = drawK3 P F.loc M ops (maskF (F.mask id) fr) (afterK P F M fn cuts 399 leaf r) h := by
  subst e
  exact segK3_region (n := 399)
noncomputable def kc43 (K : List Value → AHeap → Prop) (L : List Item → List AV → AHeap → Prop) : List AV → AHeap → Prop := afterK Try.prog ft13 (M13 cs13 ntE6 K) Try.f13 [6, 33, 43] 399 (leaf13 L) todo43.tail
theorem ord43_def : ord43 = linA (Region.before ops43) ops43.size (actsA Try.prog ft13.loc ops43) := rfl
theorem kc43_def (K : List Value → AHeap → Prop) (L : List Item → List AV → AHeap → Prop) : kc43 K L = afterK Try.prog ft13 (M13 cs13 ntE6 K) Try.f13 [6, 33, 43] 399 (leaf13 L) todo43.tail := rfl
noncomputable def P43 (K : List Value → AHeap → Prop) (L : List Item → List AV → AHeap → Prop) (fr : List AV) (h : AHeap) (σ : List Nat) : Prop :=
  bif memOk Try.prog ft13.loc ops43 σ then opsC2 Try.prog ft13.loc (M13 cs13 ntE6 K) ops43 (preS Try.prog ft13.loc ops43 σ) [] (orderS Try.prog ft13.loc ops43 σ) fr (kc43 K L) h else False
theorem drawL_of {P : Program} {loc : Nat → Bool} {M : Mach Prop} {ops : Array Oper} {fr : List AV} {k : List AV → AHeap → Prop} {h : AHeap} : ∀ {l : List (List Nat)}, (∀ σ ∈ l, bif memOk P loc ops σ then opsC2 P loc M ops (preS P loc ops σ) [] (orderS P loc ops σ) fr k h else False) → drawL P loc M ops fr k h l
  | [], _ => trivial
  | σ :: r, e => by
    cases r with
    | nil => exact e σ (List.mem_singleton.2 rfl)
    | cons τ r => exact ⟨e σ List.mem_cons_self, drawL_of fun q hq => e q (List.mem_cons_of_mem _ hq)⟩
theorem todo43_eq : todo43 = .code (.region 43 ops43 true) :: todo43.tail := by kernel_rfl
theorem ok43 (b : Bool) :
    (regionOk Try.prog ft13.loc ops43 (Region.before ops43) (orderA Try.prog ft13.loc ops43) && ops43.toList.all (freshA (fr43 b))) = false ∧
    (noBB (fr43 b) && ops43.toList.all (nlA ft13.loc) && ops43.toList.all (freshA (fr43 b)) && !(linA (Region.before ops43) ops43.size (actsA Try.prog ft13.loc ops43)).isEmpty) = true := ⟨by kernel_rfl, by kernel_rfl⟩
theorem mask43 (b : Bool) : maskF (ft13.mask 43) (fr43 b) = fr43 b := by kernel_rfl
set_option maxRecDepth 100000 in
theorem seg43 {K : List Value → AHeap → Prop} {L : List Item → List AV → AHeap → Prop} {b : Bool} {h : AHeap} (hp : ∀ σ ∈ ord43, P43 K L (fr43 b) h σ) :
    seg13 cs13 ntE6 K L todo43 (fr43 b) h := by
  have e := segK3_400 (P := Try.prog) (F := ft13) (M := M13 cs13 ntE6 K) (fn := Try.f13) (cuts := [6, 33, 43]) (leaf := leaf13 L) (fr := fr43 b) (h := h) todo43_eq
  unfold seg13
  rw [e, mask43, ← kc43_def]
  have c1 := (ok43 b).1
  have c2 := (ok43 b).2
  unfold drawK3
  rw [c1, cond_false]
  rw [c2, cond_true]
  rw [← ord43_def]
  exact drawL_of hp
def cnd43 (ci cp : Bool) (p : Nat) : Bool := (p.testBit 21 || ci) && ((p.testBit 11 || cp) && true)
/-- What one order comes to. -/
def one43 (ci cp : Bool) (Q : Prop) (pre : Array Nat) : List Nat → Prop
  | [] => Q
  | i :: r => bif cnd43 ci cp (pre.getD i 0) then one43 ci cp Q pre r else False
theorem one43_ok {Q : Prop} (hq : Q) (pre : Array Nat) : ∀ σ, one43 true true Q pre σ
  | [] => hq
  | i :: r => by
    have hc : cnd43 true true (pre.getD i 0) = true := by unfold cnd43; simp
    have := one43_ok hq pre r
    unfold one43
    rw [hc]
    exact this
/-- For all of a list. -/
def allP (P : List Nat → Prop) : List (List Nat) → Prop
  | [] => True
  | σ :: r => P σ ∧ allP P r
theorem allP_mem {P : List Nat → Prop} : ∀ {l : List (List Nat)}, allP P l → ∀ σ ∈ l, P σ
  | [], _, σ, h => by simp at h
  | τ :: r, e, σ, h => by
    rcases List.mem_cons.1 h with rfl | h
    · exact e.1
    · exact allP_mem e.2 σ h
theorem allP_of {P : List Nat → Prop} (h : ∀ σ, P σ) : ∀ l, allP P l
  | [] => trivial
  | σ :: r => ⟨h σ, allP_of h r⟩

section
variable (n : Nat) (pg ky val : ByteArray) (f g : Nat → Int) (pc nx code : Int) (en rw ok : Bool) (cl : List Value) (a b a' b' d s i : Int) (K : List Value → AHeap → Prop) (L : List Item → List AV → AHeap → Prop)
/-- The machine behind a Loop's head. -/
noncomputable abbrev dR6 (n : Nat) (pg ky : ByteArray) (f g : Nat → Int) (pc : Int) (m : Nat) (val : ByteArray) (nx code : Int) (en : Bool) : List Value :=
  SL (G + 1) n 4 :: .string pg :: .string ky :: (((List.range 64).map fun i => .int .u8 (f i)) ++ (((List.range 8).map fun i => I (g i)) ++ [I pc, SL (G + 4) m 1, SL (G + 5) m 1, .string val, I nx, I code, B en]))
abbrev Q43 (n : Nat) (cl : List Value) (rw : Bool) (pg ky : ByteArray) (f g : Nat → Int) (pc : Int) (m : Nat) (lc ld lc' ld' : List Value) (val : ByteArray) (nx code : Int) (en : Bool) (K : List Value → AHeap → Prop) (ok : Bool) : Prop :=
  (PlainL cl ∧ PlainL lc ∧ PlainL ld ∧ PlainL lc' ∧ PlainL ld' ∧ True) ∧ K [B ok] (heapB G [some (.cells (dR6 n pg ky f g (w (pc + 1)) m val nx code en) true), some (.cells cl rw), some (.cells lc true), some (.cells ld true), some (.cells lc' true), some (.cells ld' true)])
theorem c43_0 : allP (P43 K L (fr43 ok) (heapB G (hpX n cl rw pg ky f g pc 0 [] [] val nx code en 17 d s i))) ord43
    = allP (fun σ => one43 (i == i) (pc == pc) (Q43 n cl rw pg ky f g pc 1 [] [] [I pc] [I i] val nx code en K ok) (preS Try.prog ft13.loc ops43 σ) σ) ord43 := by kernel_rfl
theorem c43_1 : allP (P43 K L (fr43 ok) (heapB G (hpX n cl rw pg ky f g pc 1 [I a] [I a'] val nx code en 17 d s i))) ord43
    = allP (fun σ => one43 (i == i) (pc == pc) (Q43 n cl rw pg ky f g pc 2 [I a] [I a'] [I a, I pc] [I a', I i] val nx code en K ok) (preS Try.prog ft13.loc ops43 σ) σ) ord43 := by kernel_rfl
theorem c43_2 : allP (P43 K L (fr43 ok) (heapB G (hpX n cl rw pg ky f g pc 2 [I a, I b] [I a', I b'] val nx code en 17 d s i))) ord43
    = allP (fun σ => one43 (i == i) (pc == pc) (Q43 n cl rw pg ky f g pc 3 [I a, I b] [I a', I b'] [I a, I b, I pc] [I a', I b', I i] val nx code en K ok) (preS Try.prog ft13.loc ops43 σ) σ) ord43 := by kernel_rfl
end

theorem or_chain {a b c d q : Prop} (f : b → a) (m : c → b) (e : c = d) (g : q → d) : a = (q ∨ a) := propext ⟨.inr, fun h => h.elim (fun x => f (m (e.mpr (g x)))) id⟩
theorem g43 {Q : Prop} (i pc : Int) (pre : List Nat → Array Nat) (l : List (List Nat)) (h : Q) : allP (fun σ => one43 (i == i) (pc == pc) Q (pre σ) σ) l := by
  have e1 : (i == i) = true := beq_self_eq_true i
  have e2 : (pc == pc) = true := beq_self_eq_true pc
  rw [e1, e2]
  exact allP_of (fun σ => one43_ok h _ σ) _
section
variable (n : Nat) (pg ky val : ByteArray) (f g : Nat → Int) (pc nx code : Int) (en rw ok : Bool) (cl : List Value) (a b a' b' d s i : Int) (K : List Value → AHeap → Prop) (L : List Item → List AV → AHeap → Prop)
set_option maxRecDepth 100000 in
theorem seg43_0 : seg13 cs13 ntE6 K L todo43 (fr43 ok) (heapB G (hpX n cl rw pg ky f g pc 0 [] [] val nx code en 17 d s i)) = (Q43 n cl rw pg ky f g pc 1 [] [] [I pc] [I i] val nx code en K ok ∨ seg13 cs13 ntE6 K L todo43 (fr43 ok) (heapB G (hpX n cl rw pg ky f g pc 0 [] [] val nx code en 17 d s i))) :=
  or_chain (@seg43 K L ok (heapB G (hpX n cl rw pg ky f g pc 0 [] [] val nx code en 17 d s i))) (@allP_mem (P43 K L (fr43 ok) (heapB G (hpX n cl rw pg ky f g pc 0 [] [] val nx code en 17 d s i))) ord43) (c43_0 n pg ky val f g pc nx code en rw ok cl  d s i K L) (g43 i pc (preS Try.prog ft13.loc ops43) ord43)
set_option maxRecDepth 100000 in
theorem seg43_1 : seg13 cs13 ntE6 K L todo43 (fr43 ok) (heapB G (hpX n cl rw pg ky f g pc 1 [I a] [I a'] val nx code en 17 d s i)) = (Q43 n cl rw pg ky f g pc 2 [I a] [I a'] [I a, I pc] [I a', I i] val nx code en K ok ∨ seg13 cs13 ntE6 K L todo43 (fr43 ok) (heapB G (hpX n cl rw pg ky f g pc 1 [I a] [I a'] val nx code en 17 d s i))) :=
  or_chain (@seg43 K L ok (heapB G (hpX n cl rw pg ky f g pc 1 [I a] [I a'] val nx code en 17 d s i))) (@allP_mem (P43 K L (fr43 ok) (heapB G (hpX n cl rw pg ky f g pc 1 [I a] [I a'] val nx code en 17 d s i))) ord43) (c43_1 n pg ky val f g pc nx code en rw ok cl a a' d s i K L) (g43 i pc (preS Try.prog ft13.loc ops43) ord43)
set_option maxRecDepth 100000 in
theorem seg43_2 : seg13 cs13 ntE6 K L todo43 (fr43 ok) (heapB G (hpX n cl rw pg ky f g pc 2 [I a, I b] [I a', I b'] val nx code en 17 d s i)) = (Q43 n cl rw pg ky f g pc 3 [I a, I b] [I a', I b'] [I a, I b, I pc] [I a', I b', I i] val nx code en K ok ∨ seg13 cs13 ntE6 K L todo43 (fr43 ok) (heapB G (hpX n cl rw pg ky f g pc 2 [I a, I b] [I a', I b'] val nx code en 17 d s i))) :=
  or_chain (@seg43 K L ok (heapB G (hpX n cl rw pg ky f g pc 2 [I a, I b] [I a', I b'] val nx code en 17 d s i))) (@allP_mem (P43 K L (fr43 ok) (heapB G (hpX n cl rw pg ky f g pc 2 [I a, I b] [I a', I b'] val nx code en 17 d s i))) ord43) (c43_2 n pg ky val f g pc nx code en rw ok cl a b a' b' d s i K L) (g43 i pc (preS Try.prog ft13.loc ops43) ord43)
end
end Go.Proofs.Ytadaindmgmielaa
