/- The law RunSafe: words. No condition. -/
import Derived.Test.YtadaindmgmielaaPj
import Derived.Test.YtadaindmgmielaaPg
namespace Go.Proofs.Ytadaindmgmielaa
open Go.Agm
variable {w0 : World}
noncomputable def ft4 : FT := { loc := fun _ => false, mask := fun id => bif Nat.beq id 4 then live 129 [3, 5, 6] else bif Nat.beq id 9 then live 129 [3, 5, 6, 7, 10, 11, 12] else bif Nat.beq id 14 then live 129 [6, 7, 15, 16] else bif Nat.beq id 19 then live 129 [6, 7, 15, 16, 17] else bif Nat.beq id 23 then live 129 [6, 7, 15, 16] else [] }
noncomputable def todo4a : List Item := todoOf Try.f4 4
noncomputable def todo4b : List Item := todoOf Try.f4 9
noncomputable def todo4c : List Item := todoOf Try.f4 14
noncomputable def todo4d : List Item := todoOf Try.f4 19
noncomputable def todo4e : List Item := todoOf Try.f4 23
abbrev nt4a : Nt := { gh := [⟨5, none, 4⟩, ⟨6, none, 4⟩], flags := [true], paths := [⟨3, [], true⟩, ⟨5, [], true⟩, ⟨6, [], true⟩], tr := [(5, []), (6, [])] }
abbrev nt4b : Nt := { gh := [], flags := [true], paths := [⟨3, [], true⟩, ⟨5, [], true⟩, ⟨6, [], true⟩, ⟨7, [], false⟩, ⟨7, [1], true⟩, ⟨7, [2], true⟩, ⟨12, [], true⟩], tr := [] }
abbrev nt4c : Nt := { gh := [⟨15, some ([], 76), 1⟩, ⟨15, some ([], 77), 1⟩], flags := [true], paths := [⟨6, [], true⟩, ⟨7, [], false⟩, ⟨7, [1], true⟩, ⟨7, [2], true⟩, ⟨15, [], false⟩, ⟨15, [76], true⟩, ⟨15, [77], true⟩], tr := [] }
noncomputable def fr4a (k : Nat) : List AV := frm 129 [(3, .v (PT (G + 1))), (5, .v (SL (G + 2) k 4)), (6, .v (SL (G + 3) k 4))]
noncomputable def hp4a (cl : List Value) (rw : Bool) (ca cb : List Value) (t0 t1 t2 : ByteArray) : List (Option ABlk) :=
  [some (.cells cl rw), some (.cells [.string t0, .string t1, .string t2] true), some (.cells ca true), some (.cells cb true)]
noncomputable def fr4b (k : Nat) (pg ky : ByteArray) : List AV := frm 129 [(3, .v (PT (G + 1))), (5, .v (SL (G + 2) k 4)), (6, .v (SL (G + 3) k 4)), (7, .v (PT (G + 4))), (10, .v (.string pg)), (11, .v (.string ky)), (12, .v (PT (G + 7)))]
noncomputable def hp4b (cl : List Value) (rw : Bool) (ca cb : List Value) (t0 t1 t2 : ByteArray) (fu : Int) (q : Nat) (kn sp sc : List Value) : List (Option ABlk) :=
  hp4a cl rw ca cb t0 t1 t2 ++ [some (.cells [I fu, SL (G + 5) q 8, SL (G + 6) q 16] true), some (.cells kn true), some (.cells sp true), some (.cells sc true)]
noncomputable def fr4c (k : Nat) (nn : Int) : List AV := frm 129 [(6, .v (SL (G + 1) k 4)), (7, .v (PT (G + 2))), (15, .v (PT (G + 5))), (16, .v (I nn))]
noncomputable def fr4d (k : Nat) (nn i : Int) : List AV := frm 129 [(6, .v (SL (G + 1) k 4)), (7, .v (PT (G + 2))), (15, .v (PT (G + 5))), (16, .v (I nn)), (17, .v (I i))]
noncomputable abbrev dRn (R : Dw) : List Value :=
  SL (G + 1) R.n 4 :: .string R.pg :: .string R.ky :: (((List.range 64).map fun i => .int .u8 (R.f i)) ++ (((List.range 8).map fun i => I (R.g i)) ++ [I R.pc, SL (G + 6) R.m 1, SL (G + 7) R.m 1, .string R.val, I R.nx, I R.code, B R.en]))
noncomputable def hp4c (cl : List Value) (rw : Bool) (fu : Int) (q : Nat) (kn sp : List Value) (R : Dw) : List (Option ABlk) :=
  [some (.cells cl rw), some (.cells R.cl true), some (.cells [I fu, SL (G + 3) q 8, SL (G + 4) q 16] true), some (.cells kn true), some (.cells sp true), some (.cells (dRn R) true), some (.cells R.lc true), some (.cells R.ld true)]
abbrev leaf4 (L : List Item → List AV → AHeap → Prop) : List Item → List AV → AHeap → Prop := fun t fr h => match t with
  | .code (.region 4 _ _) :: _ => canonT G nt4a (L t) fr h
  | .code (.region 9 _ _) :: _ => canonT G nt4b (L t) fr h
  | .code (.region 14 _ _) :: _ => canonT G nt4c (L t) fr h
  | .code (.region 19 _ _) :: _ => canonT G nt4c (L t) fr h
  | .code (.region 23 _ _) :: _ => canonT G nt4c (L t) fr h
  | _ => False
abbrev seg4 (cs : List Con) (K : List Value → AHeap → Prop) (L : List Item → List AV → AHeap → Prop) (t : List Item) (fr : List AV) (h : AHeap) : Prop :=
  segK3 Try.prog ft4 (semI Try.prog (fun _ => ft0) (callsOf G cs) 400 20 (retT G nt1 K)) Try.f4 [4, 9, 14, 19, 23] 400 t fr (leaf4 L) h

section
variable (n k q : Nat) (rw : Bool) (cl ca cb kn sp sc : List Value) (t0 t1 t2 pg ky : ByteArray) (fu nn i : Int) (E : End) (R : Dw) (K : List Value → AHeap → Prop) (L : List Item → List AV → AHeap → Prop)
noncomputable abbrev x130 (cl : List Value) : List Value := insC ((unIns cl).take 130)
abbrev ret4 (cl : List Value) (rw : Bool) (K : List Value → AHeap → Prop) (b : Bool) : Prop := (PlainL cl ∧ True) ∧ K [B b] (heapB G [some (.cells cl rw)])
theorem s4_start : seg4 [con15, con16] K L [.code (Try.f4.body.getD .skip)] (startF Try.f4 [SL G n 4, AG [.string t0, .string t1, .string t2]]) (heapB G [some (.cells cl rw)])
    = (TTT ∧ ((PlainL cl ∧ True) ∧ (PlainL cl ∧ PlainL (x130 cl) ∧ PlainL (x130 cl) ∧ True) ∧ cl = insC (unIns cl) ∧ (unIns cl).length = n) ∧
      (PlainL cl ∧ PlainL [.string t0, .string t1, .string t2] ∧ PlainL ((x130 cl).take (((unIns cl).take 130).length * 4)) ∧ PlainL ((x130 cl).take (((unIns cl).take 130).length * 4)) ∧ True) ∧
        L todo4a (fr4a ((unIns cl).take 130).length) (heapB G (hp4a cl rw ((x130 cl).take (((unIns cl).take 130).length * 4)) ((x130 cl).take (((unIns cl).take 130).length * 4)) t0 t1 t2))) := by kernel_rfl
theorem s4_b : seg4 [con10b] K L todo4a (fr4a k) (heapB G (hp4a cl rw ca cb t0 t1 t2))
    = (((PlainL ca ∧ True) ∧ (PlainL ca ∧ True) ∧ ca = insC (unIns ca) ∧ (unIns ca).length = k ∧ k ≤ 128 ∧ (unIns ca).all right = true ∧ (badAt (unIns ca)).isSome = true) ∧ ret4 cl rw K true) := by kernel_rfl
theorem s4_c : seg4 [con10c] K L todo4a (fr4a k) (heapB G (hp4a cl rw ca cb t0 t1 t2))
    = (((PlainL ca ∧ True) ∧ (PlainL ca ∧ True) ∧ ca = insC (unIns ca) ∧ (unIns ca).length = k ∧ (128 < k ∨ ∃ x ∈ unIns ca, right x = false)) ∧ ret4 cl rw K true) := by kernel_rfl
end

section
variable (n k q : Nat) (rw : Bool) (cl ca cb kn sp sc : List Value) (t0 t1 t2 pg ky : ByteArray) (fu nn i : Int) (E : End) (R : Dw) (K : List Value → AHeap → Prop) (L : List Item → List AV → AHeap → Prop)
abbrev m15 (t1 : ByteArray) : Int := if 15 < (t1.size : Int) then 15 else (t1.size : Int)
abbrev kyS (t1 : ByteArray) : ByteArray := ⟨([107] ++ (t1.extract 0 (m15 t1).toNat).data.toList).toArray⟩
abbrev Z64 : List Value := List.replicate 64 (.int .u8 0)
abbrev s64 (first : ByteArray) : List Value := splice Z64 0 (lit64 (filledL first))
abbrev S3 (t0 t1 t2 : ByteArray) : List Value := [.string t0, .string t1, .string t2]
theorem s4_a : seg4 [con10, con17, con18] K L todo4a (fr4a k) (heapB G (hp4a cl rw ca cb t0 t1 t2))
    = (((PlainL ca ∧ True) ∧ (PlainL ca ∧ PlainL (knR (wk (unIns ca)).2 (unIns ca).length 0) ∧ PlainL (spR (wk (unIns ca)).2 (unIns ca).length 0) ∧ True) ∧ ca = insC (unIns ca) ∧ (unIns ca).length = k ∧ k ≤ 128 ∧ (unIns ca).all right = true ∧ badAt (unIns ca) = none) ∧
      bif decide (0 ≤ m15 t1) && decide (m15 t1 ≤ (t1.size : Int)) then bif ((ByteArray.mk #[107]).size + (t1.extract 0 (m15 t1).toNat).size).ble 1099511627776 then
      TTT ∧ bif (t1.size : Int) == (t1.size : Int) && (veq 4 (.string t1) (.string t1) && (veq 4 (.string t1) (.string t1) && true)) then TTT ∧
      (PlainL cl ∧ PlainL (S3 t0 t1 t2) ∧ PlainL ca ∧ PlainL cb ∧ PlainL (knR (wk (unIns ca)).2 (unIns ca).length 0) ∧ PlainL (spR (wk (unIns ca)).2 (unIns ca).length 0) ∧ PlainL (s64 t2) ∧ True) ∧
        L todo4b (fr4b k (fullS t0) (kyS t1)) (heapB G (hp4b cl rw ca cb t0 t1 t2 (Go.Proofs.Ytadaindmgmielaa.fu (unIns ca)) (unIns ca).length (knR (wk (unIns ca)).2 (unIns ca).length 0) (spR (wk (unIns ca)).2 (unIns ca).length 0) (s64 t2))) else False else False else False) := by kernel_rfl
end

section
variable (n k q : Nat) (rw : Bool) (cl ca cb kn sp sc : List Value) (t0 t1 t2 pg ky : ByteArray) (fu nn i code nx st : Int) (val : ByteArray) (s2 : List UInt8) (R : Dw) (K : List Value → AHeap → Prop) (L : List Item → List AV → AHeap → Prop)
/-- The document's machine at its beginning. -/
def dw0 (k : Nat) (cb : List Value) (pg ky t2 : ByteArray) : Dw := { n := k, m := 0, wr := true, pg := pg, ky := ky, val := ⟨#[]⟩, f := sgF (filledL t2), g := fun i => bif Nat.beq i 1 then (ky.size : Int) else 0, pc := 0, nx := 0, code := 0, en := false, cl := cb, lc := [], ld := [] }
theorem s4_run : seg4 [con19 ⟨none, code, val, nx, st, s2⟩, con18] K L todo4b (fr4b k pg ky) (heapB G (hp4b cl rw ca cb t0 t1 t2 fu q kn sp sc))
    = (ask19 k pg ky fu ca sc ⟨none, code, val, nx, st, s2⟩ ∧ bif decide (st > fu) then ret4 cl rw K false else
      TTT ∧ (PlainL cl ∧ PlainL cb ∧ PlainL kn ∧ PlainL sp ∧ PlainL [] ∧ PlainL [] ∧ True) ∧ L todo4c (fr4c k 0) (heapB G (hp4c cl rw fu q kn sp (dw0 k cb pg ky t2)))) := by kernel_rfl
abbrev P6 (cl : List Value) (kn sp : List Value) (R : Dw) : Prop := PlainL cl ∧ PlainL R.cl ∧ PlainL kn ∧ PlainL sp ∧ PlainL R.lc ∧ PlainL R.ld ∧ True
theorem s4_head : seg4 [] K L todo4c (fr4c k nn) (heapB G (hp4c cl rw fu q kn sp R))
    = (bif !R.en then bif decide (nn > fu) then ret4 cl rw K false else bif decide (R.pc ≥ (k : Int)) then ret4 cl rw K false else
      P6 cl kn sp R ∧ L todo4d (fr4d k nn 0) (heapB G (hp4c cl rw fu q kn sp R)) else ret4 cl rw K true) := by kernel_rfl
end

section
variable (k q : Nat) (rw : Bool) (cl kn sp : List Value) (fu nn i : Int) (R : Dw) (K : List Value → AHeap → Prop) (L : List Item → List AV → AHeap → Prop)
noncomputable abbrev rdR (R : Dw) (i : Int) : Option Value := nth (dRn R) (67 + i.toNat * 1)
theorem s4_inner : seg4 [conU12] K L todo4d (fr4d k nn i) (heapB G (hp4c cl rw fu q kn sp R))
    = (bif decide (i < 8) then bif decide (0 ≤ R.pc) && decide (R.pc < (q : Int)) then bif decide (0 ≤ i) && decide (i < 8) then bif okB (nth kn (0 + R.pc.toNat * 8 + i.toNat * 1)) then
        bif boolO (nth kn (0 + R.pc.toNat * 8 + i.toNat * 1)) then bif decide (0 ≤ R.pc) && decide (R.pc < (q : Int)) then bif decide (0 ≤ i) && decide (i < 8) then
          bif (0 + R.pc.toNat * 16 + i.toNat * 2 + 2).ble sp.length && (okI .i64 (nth sp (0 + R.pc.toNat * 16 + i.toNat * 2 + 0)) && (okI .i64 (nth sp (0 + R.pc.toNat * 16 + i.toNat * 2 + 1)) && true)) then
          bif decide (0 ≤ i) && decide (i < 8) then bif okI .i64 (rdR R i) then
            TTT ∧ bif !rU12 (intO (nth sp (0 + R.pc.toNat * 16 + i.toNat * 2 + 0))) (intO (nth sp (0 + R.pc.toNat * 16 + i.toNat * 2 + 1))) (intO (rdR R i)) then ret4 cl rw K false else
              P6 cl kn sp R ∧ L todo4d (fr4d k nn (w (i + 1))) (heapB G (hp4c cl rw fu q kn sp R)) else False else False else False else False else False
        else P6 cl kn sp R ∧ L todo4d (fr4d k nn (w (i + 1))) (heapB G (hp4c cl rw fu q kn sp R)) else False else False else False
      else P6 cl kn sp R ∧ L todo4e (fr4c k nn) (heapB G (hp4c cl rw fu q kn sp R))) := by kernel_rfl
end
section
variable (k q m : Nat) (rw : Bool) (cl kn sp cb lc ld : List Value) (fu nn pc nx code : Int) (pg ky val : ByteArray) (f g : Nat → Int) (en : Bool) (K : List Value → AHeap → Prop) (L : List Item → List AV → AHeap → Prop)
abbrev askS (cl : List Value) (rw : Bool) (fu : Int) (q k : Nat) (kn sp : List Value) (nn : Int) (L : List Item → List AV → AHeap → Prop) (R : Dw) (p : Prop) (pl : Prop) : Prop :=
  (PL3 R.cl R.lc R.ld ∧ pl ∧ R.m = R.m ∧ Ok13 R ∧ p) ∧ P6 cl kn sp (dw true (nx13 (mcOf R))) ∧ L todo4c (fr4c k (w (nn + 1))) (heapB G (hp4c cl rw fu q kn sp (dw true (nx13 (mcOf R)))))
theorem s4_stepA : seg4 [con13a] K L todo4e (fr4c k nn) (heapB G (hp4c cl rw fu q kn sp ⟨k, m, true, pg, ky, val, f, g, pc, nx, code, en, cb, lc, ld⟩))
    = askS cl rw fu q k kn sp nn L (Rn k m pg ky val f g pc nx code en true cb lc ld) ((insN (mcOf (Rn k m pg ky val f g pc nx code en true cb lc ld))).op ≠ 17)
      (PL3 (dw true (nx13 (mcOf (Rn k m pg ky val f g pc nx code en true cb lc ld)))).cl (dw true (nx13 (mcOf (Rn k m pg ky val f g pc nx code en true cb lc ld)))).lc (dw true (nx13 (mcOf (Rn k m pg ky val f g pc nx code en true cb lc ld)))).ld) := by kernel_rfl
theorem s4_stepB : seg4 [con13b] K L todo4e (fr4c k nn) (heapB G (hp4c cl rw fu q kn sp ⟨k, m, true, pg, ky, val, f, g, pc, nx, code, en, cb, lc, ld⟩))
    = askS cl rw fu q k kn sp nn L (Rn k m pg ky val f g pc nx code en true cb lc ld) ((insN (mcOf (Rn k m pg ky val f g pc nx code en true cb lc ld))).op = 17)
      (PlainL (dw true (nx13 (mcOf (Rn k m pg ky val f g pc nx code en true cb lc ld)))).cl ∧ PlainL (ints ((loD (Rn k m pg ky val f g pc nx code en true cb lc ld)).map (·.1))) ∧ PlainL (ints ((loD (Rn k m pg ky val f g pc nx code en true cb lc ld)).map (·.2))) ∧
        PlainL (dw true (nx13 (mcOf (Rn k m pg ky val f g pc nx code en true cb lc ld)))).lc ∧ PlainL (dw true (nx13 (mcOf (Rn k m pg ky val f g pc nx code en true cb lc ld)))).ld ∧ True) := by kernel_rfl
end

theorem plain_knS (cst : List Value) : ∀ k i, PlainL (knR cst k i)
  | 0, _ => by intro x hx; simp [knR] at hx
  | k + 1, i => plain_app (plain_kr cst i) (plain_knS cst k (i + 1))
theorem plain_spS (cst : List Value) : ∀ k i, PlainL (spR cst k i)
  | 0, _ => by intro x hx; simp [spR] at hx
  | k + 1, i => plain_app (plain_sr cst i) (plain_spS cst k (i + 1))
theorem nth_left {a b : List Value} {i : Nat} (h : i < a.length) : nth (a ++ b) i = nth a i := by
  rw [nth_eq, nth_eq, List.getElem?_append_left h]
theorem nth_right {a b : List Value} {i : Nat} (h : a.length ≤ i) : nth (a ++ b) i = nth b (i - a.length) := by
  rw [nth_eq, nth_eq, List.getElem?_append_right h]
theorem kr_at (C : List Value) (i r : Nat) (h : r < 8) : nth (kr C (i : Int)) r = some (B (knA C (i * 25) r)) := by
  unfold knA
  have e : ∀ j, 0 + (i : Int).toNat * 25 + (j + 1) = i * 25 + 1 + j := fun j => by rw [Int.toNat_natCast]; omega
  rcases r with _ | _ | _ | _ | _ | _ | _ | _ | r
  case succ.succ.succ.succ.succ.succ.succ.succ => exfalso; omega
  all_goals
    rw [← e]; rfl
theorem sr_at (C : List Value) (i r : Nat) (h : r < 8) : nth (sr C (i : Int)) (r * 2 + 0) = some (I (loA C (i * 25) r)) ∧ nth (sr C (i : Int)) (r * 2 + 1) = some (I (hiA C (i * 25) r)) := by
  unfold loA hiA
  have e : ∀ j, 0 + (i : Int).toNat * 25 + (j + 9) = i * 25 + 9 + j := fun j => by rw [Int.toNat_natCast]; omega
  have e0 : i * 25 + 9 + r * 2 + 0 = i * 25 + 9 + (r * 2 + 0) := by omega
  have e1 : i * 25 + 9 + r * 2 + 1 = i * 25 + 9 + (r * 2 + 1) := by omega
  rw [e0, e1, ← e (r * 2 + 0), ← e (r * 2 + 1)]
  rcases r with _ | _ | _ | _ | _ | _ | _ | _ | r
  case succ.succ.succ.succ.succ.succ.succ.succ => exfalso; omega
  all_goals exact ⟨rfl, rfl⟩
theorem kn_at (C : List Value) (r : Nat) (h : r < 8) : ∀ (n i j : Nat), j < n → nth (knR C n i) (j * 8 + r) = some (B (knA C ((i + j) * 25) r)) ∧ (knR C n i).length = n * 8
  | 0, i, j, hj => by omega
  | n + 1, i, j, hj => by
    have hl : (kr C (i : Int)).length = 8 := rfl
    have hln : ∀ n i, (knR C n i).length = n * 8 := by
      intro n
      induction n with
      | zero => intro i; rfl
      | succ n ih => intro i; rw [knR, List.length_append, ih]; show 8 + _ = _; omega
    refine ⟨?_, hln _ _⟩
    rw [knR]
    rcases j with _ | j
    · rw [Nat.zero_mul, Nat.zero_add, Nat.add_zero, nth_left (by omega)]
      exact kr_at C i r h
    · rw [nth_right (by omega), hl, show (j + 1) * 8 + r - 8 = j * 8 + r by omega, (kn_at C r h n (i + 1) j (by omega)).1, show i + 1 + j = i + (j + 1) by omega]
theorem sp_len (C : List Value) : ∀ n i, (spR C n i).length = n * 16 := by
  intro n
  induction n with
  | zero => intro i; rfl
  | succ n ih => intro i; rw [spR, List.length_append, ih]; show 16 + _ = _; omega
theorem sp_at (C : List Value) (r : Nat) (h : r < 8) : ∀ (n i j : Nat), j < n → nth (spR C n i) (j * 16 + r * 2 + 0) = some (I (loA C ((i + j) * 25) r)) ∧ nth (spR C n i) (j * 16 + r * 2 + 1) = some (I (hiA C ((i + j) * 25) r))
  | 0, i, j, hj => by omega
  | n + 1, i, j, hj => by
    have hl : (sr C (i : Int)).length = 16 := rfl
    rw [spR]
    rcases j with _ | j
    · rw [Nat.zero_mul, Nat.zero_add, Nat.add_zero, nth_left (by omega), nth_left (by omega)]
      exact sr_at C i r h
    · obtain ⟨q1, q2⟩ := sp_at C r h n (i + 1) j (by omega)
      rw [nth_right (by omega), nth_right (by omega), hl, show (j + 1) * 16 + r * 2 + 0 - 16 = j * 16 + r * 2 + 0 by omega, show (j + 1) * 16 + r * 2 + 1 - 16 = j * 16 + r * 2 + 1 by omega, q1, q2, show i + 1 + j = i + (j + 1) by omega]
      exact ⟨rfl, rfl⟩
theorem rdR_at (R : Dw) {i : Nat} (h : i < 8) : rdR R (i : Int) = some (I (R.g i)) := by
  unfold rdR
  rw [Int.toNat_natCast]
  rcases i with _ | _ | _ | _ | _ | _ | _ | _ | i
  case succ.succ.succ.succ.succ.succ.succ.succ => exfalso; omega
  all_goals rfl
abbrev SemLw (w0 : World) (K : List Value → AHeap → Prop) (t : List Item) (fr : List AV) (h : AHeap) : Prop := Agm.Sem Try.prog w0 (Try.prog.globals.size + nt1.flags.length) Try.f4 (retT G nt1 K) t fr h
theorem leaf4_ok {K : List Value → AHeap → Prop} : ∀ t fr h, leaf4 (SemLw w0 K) t fr h → SemLw w0 K t fr h := by
  intro t fr h e
  unfold leaf4 at e
  split at e
  · exact canonT_semN (nt := nt4a) rfl e
  · exact canonT_semN (nt := nt4b) rfl e
  · exact canonT_semN (nt := nt4c) rfl e
  · exact canonT_semN (nt := nt4c) rfl e
  · exact canonT_semN (nt := nt4c) rfl e
  · exact e.elim
theorem okU : ∀ c ∈ [conU12], c.ok Try.prog w0 := fun c hc => by
  simp only [List.mem_cons, List.not_mem_nil, or_false] at hc
  subst hc
  exact conU12_ok
theorem rU12_in {a b c : Int} (h1 : a ≤ c) (h2 : c ≤ b) : rU12 a b c = true := by
  unfold rU12
  rw [decide_eq_true (show c ≥ a from h1), cond_true, decide_eq_true h2]
section
variable {K : List Value → AHeap → Prop} {k q p : Nat} {rw : Bool} {cl C : List Value} {fu nn : Int} {R : Dw}
set_option maxRecDepth 100000 in
set_option maxHeartbeats 1000000 in
/-- Each register is where the verdict says. -/
theorem inner_ok (hP : P6 cl (knR C q 0) (spR C q 0) R) (hpc : R.pc = (p : Int)) (hp : p < q) (hf : ∀ r, r < 8 → knA C (p * 25) r = true → loA C (p * 25) r ≤ R.g r ∧ R.g r ≤ hiA C (p * 25) r)
    (hE : SemLw w0 K todo4e (fr4c k nn) (heapB G (hp4c cl rw fu q (knR C q 0) (spR C q 0) R))) : ∀ (f i : Nat), 8 - i < f → i ≤ 8 → SemLw w0 K todo4d (fr4d k nn i) (heapB G (hp4c cl rw fu q (knR C q 0) (spR C q 0) R)) := by
  intro f
  induction f with
  | zero => intro i h; omega
  | succ f ih =>
    intro i h1 h2
    have ev := s4_inner k q rw cl (knR C q 0) (spR C q 0) fu nn i R K (SemLw w0 K)
    refine seg_semI3 (F := ft4) mixed (callsOf_ok okU) leaf4_ok [4, 9, 14, 19, 23] 20 400 (ev.mpr ?_)
    refine bifP (fun c => ?_) (fun c => ⟨hP, hE⟩)
    simp only [decide_eq_true_eq] at c
    have hi : i < 8 := by omega
    have hw : w ((i : Int) + 1) = ((i + 1 : Nat) : Int) := by rw [w_id (by omega) (by omega)]; omega
    have nxt : P6 cl (knR C q 0) (spR C q 0) R ∧ SemLw w0 K todo4d (fr4d k nn (w ((i : Int) + 1))) (heapB G (hp4c cl rw fu q (knR C q 0) (spR C q 0) R)) := by
      rw [hw]
      exact ⟨hP, ih (i + 1) (by omega) (by omega)⟩
    obtain ⟨k1, _⟩ := kn_at C i hi q 0 p hp
    obtain ⟨s1, s2⟩ := sp_at C i hi q 0 p hp
    rw [Nat.zero_add] at k1 s1 s2
    have ea : 0 + R.pc.toNat * 8 + (i : Int).toNat * 1 = p * 8 + i := by rw [hpc, Int.toNat_natCast, Int.toNat_natCast]; omega
    have eb : ∀ j, 0 + R.pc.toNat * 16 + (i : Int).toNat * 2 + j = p * 16 + i * 2 + j := fun j => by rw [hpc, Int.toNat_natCast, Int.toNat_natCast]; omega
    have hlen : (p * 16 + i * 2 + 2).ble (spR C q 0).length = true := Nat.ble_eq_true_of_le (by rw [sp_len]; omega)
    rw [ea, eb 0, eb 1, eb 2, k1, s1, s2, rdR_at R hi, hlen, decide_eq_true (show 0 ≤ R.pc by omega), decide_eq_true (show R.pc < (q : Int) by omega), decide_eq_true (show (0 : Int) ≤ (i : Int) by omega), decide_eq_true (show (i : Int) < 8 by omega)]
    show bif knA C (p * 25) i then TTT ∧ bif !rU12 (loA C (p * 25) i) (hiA C (p * 25) i) (R.g i) then ret4 cl rw K false else _ else _
    refine bifP (fun c2 => ?_) (fun _ => nxt)
    obtain ⟨b1, b2⟩ := hf i hi c2
    rw [rU12_in b1 b2]
    exact ⟨⟨trivial, trivial, trivial⟩, nxt⟩
end

section
variable {l li : List Ins} {C : List Value} {lp en : List Int} {rw : Bool} {fu : Int}
theorem RI.st0 {M : Mc} {p : Nat} (R : RI l C M p) : RI l C { M with st := 0 } p :=
  ⟨R.le, ⟨R.inv.rs, R.inv.ky, R.inv.pg, R.inv.sc, R.inv.n, R.inv.pc0, R.inv.pcn, R.inv.lo3, R.inv.los, R.inv.srt⟩, ⟨R.ok.rs, R.ok.pg, R.ok.ky, R.ok.sc⟩, R.bd, R.pc, R.lt, R.come, R.fits, R.lo, R.loops, R.left, R.en⟩
abbrev KT : List Value → AHeap → Prop := fun rs' _ => rs' = [B true]
theorem ret4_ok : ret4 (insC li) rw KT true := ⟨⟨plain_insC _, trivial⟩, rfl⟩
theorem okOne (b : Con) (hb : b.ok Try.prog w0) : ∀ c ∈ [b], c.ok Try.prog w0 := fun c hc => by
  simp only [List.mem_cons, List.not_mem_nil, or_false] at hc
  subst hc
  exact hb
set_option maxRecDepth 100000 in
set_option maxHeartbeats 1000000 in
theorem end4 {M : Mc} {k q : Nat} {kn sp : List Value} {nn : Int} (he : M.en = true) : SemLw w0 KT todo4c (fr4c k nn) (heapB G (hp4c (insC li) rw fu q kn sp (dw true M))) := by
  have ev := s4_head k q rw (insC li) kn sp fu nn (dw true M) KT (SemLw w0 KT)
  have e1 : (dw true M).en = true := he
  rw [e1] at ev
  refine seg_semI3 (F := ft4) mixed (callsOf_ok ok_none) leaf4_ok [4, 9, 14, 19, 23] 20 400 (ev.mpr ?_)
  exact ret4_ok
theorem P6_dw (M : Mc) (n : Nat) : P6 (insC li) (knR C n 0) (spR C n 0) (dw true M) := ⟨plain_insC _, plain_insC _, plain_knS _ _ _, plain_spS _ _ _, plain_ints _, plain_ints _, trivial⟩
set_option maxRecDepth 100000 in
set_option maxHeartbeats 2000000 in
theorem main4 (S : Safe l C lp en) (hfu : fu < 1000000000) : ∀ (r : Nat) (M : Mc) (p nn : Nat), RI l C M p → rem l p M.lo ≤ r → (nn : Int) + r ≤ fu →
    SemLw w0 KT todo4c (fr4c l.length nn) (heapB G (hp4c (insC li) rw fu l.length (knR C l.length 0) (spR C l.length 0) (dw true M))) := by
  intro r
  induction r with
  | zero =>
    intro M p nn R h1
    have := rem_pos (l := l) (lo := M.lo) R.lt
    omega
  | succ r ih =>
    intro M p nn R h1 h2
    have hl := R.le
    subst hl
    have hlt := R.lt
    have ev := s4_head M.l.length M.l.length rw (insC li) (knR C M.l.length 0) (spR C M.l.length 0) fu nn (dw true M) KT (SemLw w0 KT)
    have e1 : (dw true M).en = false := R.en
    have e2 : (dw true M).pc = (p : Int) := R.pc
    rw [e1, decide_eq_false (show ¬ (nn : Int) > fu by omega), decide_eq_false (show ¬ (dw true M).pc ≥ (M.l.length : Int) by rw [e2]; omega)] at ev
    refine seg_semI3 (F := ft4) mixed (callsOf_ok ok_none) leaf4_ok [4, 9, 14, 19, 23] 20 400 (ev.mpr ?_)
    refine ⟨P6_dw M _, inner_ok (p := p) (P6_dw M _) e2 hlt (fun r hr hk => R.fits r hr hk) ?_ 9 0 (by omega) (by omega)⟩
    have hR0 := R.st0
    obtain ⟨e3, e4, e5, e6⟩ := step_safe S hR0 0
    have hmc : mcOf (Rn M.l.length M.lo.length M.pg M.ky M.val (sgF M.sc) (rg M.rs) M.pc M.nx M.code M.en true (insC M.l) (ints (M.lo.map (·.1))) (ints (M.lo.map (·.2)))) = { M with st := 0 } :=
      mcOf_rd R.ok (fun i hi => nrm_lt hi) (fun i hi => nrm_lt hi)
    have hso : StepOk { M with st := 0 } := ⟨⟨hR0.inv, hR0.ok, hR0.bd⟩, R.inv.pc0, by show M.pc < _; rw [R.pc]; show (p : Int) < (M.l.length : Int); omega, e4, by rw [e3]; exact e5⟩
    have hok : Ok13 (Rn M.l.length M.lo.length M.pg M.ky M.val (sgF M.sc) (rg M.rs) M.pc M.nx M.code M.en true (insC M.l) (ints (M.lo.map (·.1))) (ints (M.lo.map (·.2)))) := by
      unfold Ok13
      rw [hmc]
      exact ⟨⟨rfl, rfl, rfl, rfl, rfl, rfl, fun i hi => nrm_lt hi, fun i hi => nrm_lt hi, rfl, rfl, rfl, rfl, rfl, rfl, rfl⟩, hso⟩
    have hnx : nx13 { M with st := 0 } = nextM (stepX { M with st := 0 } (M.l.getD p insD)).2 0 := by unfold nx13; rw [e3]
    have hw : w ((nn : Int) + 1) = ((nn + 1 : Nat) : Int) := by rw [w_id (by omega) (by omega)]; omega
    have hgo : SemLw w0 KT todo4c (fr4c M.l.length (w ((nn : Int) + 1))) (heapB G (hp4c (insC li) rw fu M.l.length (knR C M.l.length 0) (spR C M.l.length 0) (dw true (nx13 { M with st := 0 })))) := by
      rw [hw]
      rcases e6 with ⟨_, e7⟩ | ⟨_, q, e7, e8⟩
      · exact end4 (by rw [hnx, e7]; rfl)
      · rw [← hnx] at e7 e8
        exact ih _ q (nn + 1) e7 (by have : rem M.l p ({ M with st := 0 } : Mc).lo = rem M.l p M.lo := rfl; omega) (by omega)
    by_cases h17 : (insN { M with st := 0 }).op = 17
    · have ev2 := s4_stepB M.l.length M.l.length M.lo.length rw (insC li) (knR C M.l.length 0) (spR C M.l.length 0) (insC M.l) (ints (M.lo.map (·.1))) (ints (M.lo.map (·.2))) fu nn M.pc M.nx M.code M.pg M.ky M.val (sgF M.sc) (rg M.rs) M.en KT (SemLw w0 KT)
      refine seg_semI3 (F := ft4) mixed (callsOf_ok (okOne _ con13b_ok)) leaf4_ok [4, 9, 14, 19, 23] 20 400 (ev2.mpr ?_)
      unfold askS
      rw [hmc]
      exact ⟨⟨⟨plain_insC _, plain_ints _, plain_ints _, trivial⟩, ⟨plain_insC _, plain_ints _, plain_ints _, plain_ints _, plain_ints _, trivial⟩, rfl, hok, h17⟩, P6_dw _ _, hgo⟩
    · have ev2 := s4_stepA M.l.length M.l.length M.lo.length rw (insC li) (knR C M.l.length 0) (spR C M.l.length 0) (insC M.l) (ints (M.lo.map (·.1))) (ints (M.lo.map (·.2))) fu nn M.pc M.nx M.code M.pg M.ky M.val (sgF M.sc) (rg M.rs) M.en KT (SemLw w0 KT)
      refine seg_semI3 (F := ft4) mixed (callsOf_ok (okOne _ con13a_ok)) leaf4_ok [4, 9, 14, 19, 23] 20 400 (ev2.mpr ?_)
      unfold askS
      rw [hmc]
      exact ⟨⟨⟨plain_insC _, plain_ints _, plain_ints _, trivial⟩, ⟨plain_insC _, plain_ints _, plain_ints _, trivial⟩, rfl, hok, h17⟩, P6_dw _ _, hgo⟩
end

theorem s64_is (first : ByteArray) : s64 first = lit64 (filledL first) := by
  have h1 : (lit64 (filledL first)).length = 64 := by unfold lit64; simp
  show splice Z64 0 (lit64 (filledL first)) = _
  unfold splice
  rw [h1, List.take_zero, List.nil_append, List.drop_eq_nil_of_le (by simp), List.append_nil]
theorem ask_is {l : List Ins} {pg ky : ByteArray} {sc0 : List UInt8} (h1 : l.length < 1000000000) (h2 : pg.size = 512) (h3 : 0 < ky.size) (h3' : ky.size ≤ 16) (h4 : sc0.length = 64) {f : Int} (h5 : f < 1000000000) {E : End} (hE : endOf (runP l pg ky sc0 f) = E) : ask19 l.length pg ky f (insC l) (lit64 sc0) E := by
  have e : unB (lit64 sc0) = sc0 := by rw [lit64_eq h4, unB_bytC]
  refine ⟨⟨plain_insC _, plain_lit _, trivial⟩, ⟨plain_insC _, plain_lit _, trivial⟩, ⟨by rw [unIns_insC], by rw [unIns_insC], h1, h2, h3, h3', h5⟩, ⟨by rw [e]; exact lit64_eq h4, by rw [e]; exact h4⟩, ?_⟩
  rw [unIns_insC, e]; exact hE
theorem kyS_size (t1 : ByteArray) : 0 < (kyS t1).size ∧ (kyS t1).size ≤ 16 := by
  have h : (t1.extract 0 (m15 t1).toNat).size ≤ 15 := by
    rw [ByteArray.size_extract]
    unfold m15
    split <;> omega
  have e : (kyS t1).size = 1 + (t1.extract 0 (m15 t1).toNat).size := by
    unfold kyS
    rw [size_mk, List.length_append, sz_list]; rfl
  omega
theorem hp4c_like {cl : List Value} {rw : Bool} {fu : Int} {q : Nat} {kn sp : List Value} {R R' : Dw} (h : like R R') : hp4c cl rw fu q kn sp R = hp4c cl rw fu q kn sp R' := by
  obtain ⟨n, m, wr, pg, ky, val, f, g, pc, nx, code, en, cb, lc, ld⟩ := R
  obtain ⟨n', m', wr', pg', ky', val', f', g', pc', nx', code', en', cb', lc', ld'⟩ := R'
  obtain ⟨h1, h2, h3, h4, h5, h6, h7, h8, h9, h10, h11, h12, h13, h14, h15⟩ := h
  simp only at h1 h2 h3 h4 h5 h6 h7 h8 h9 h10 h11 h12 h13 h14 h15
  subst h1 h2 h3 h4 h5 h6 h9 h10 h11 h12 h13 h14 h15
  unfold hp4c dRn
  simp only
  rw [map_lt (Value.int .u8) h7, map_lt I h8]
theorem dw0_like (a : List Ins) (pg ky t2 : ByteArray) : like (dw0 a.length (insC a) pg ky t2) (dw true (mc0 a pg ky (filledL t2))) := by
  refine ⟨rfl, rfl, rfl, rfl, rfl, rfl, fun _ _ => rfl, fun i hi => ?_, rfl, rfl, rfl, rfl, rfl, rfl, rfl⟩
  rcases i with _ | _ | _ | _ | _ | _ | _ | _ | i
  case succ.succ.succ.succ.succ.succ.succ.succ => exfalso; omega
  all_goals rfl
theorem ok4s : ∀ c ∈ [con15, con16], c.ok Try.prog w0 := fun c hc => by
  simp only [List.mem_cons, List.not_mem_nil, or_false] at hc
  rcases hc with rfl | rfl
  · exact con15_ok
  · exact con16_ok
theorem ok4a : ∀ c ∈ [con10, con17, con18], c.ok Try.prog w0 := fun c hc => by
  simp only [List.mem_cons, List.not_mem_nil, or_false] at hc
  rcases hc with rfl | rfl | rfl
  · exact con10_ok
  · exact con17_ok
  · exact con18_ok
theorem ok4r (E : End) : ∀ c ∈ [con19 E, con18], c.ok Try.prog w0 := fun c hc => by
  simp only [List.mem_cons, List.not_mem_nil, or_false] at hc
  rcases hc with rfl | rfl
  · exact con19_ok
  · exact con18_ok
theorem plain_S3 (a b c : ByteArray) : PlainL (S3 a b c) := by
  intro x hx
  simp only [List.mem_cons, List.not_mem_nil, or_false] at hx
  rcases hx with rfl | rfl | rfl <;> rfl
section
variable {li a : List Ins} {rw : Bool} {t0 t1 t2 : ByteArray}
set_option maxRecDepth 100000 in
set_option maxHeartbeats 2000000 in
theorem run4 (hl : ∀ x ∈ a, right x = true) (hn : a.length ≤ 128) (hb : badAt a = none) :
    SemLw w0 KT todo4b (fr4b a.length (fullS t0) (kyS t1)) (heapB G (hp4b (insC li) rw (insC a) (insC a) t0 t1 t2 (fu a) a.length (knR (wk a).2 a.length 0) (spR (wk a).2 a.length 0) (lit64 (filledL t2)))) := by
  obtain ⟨k1, k2⟩ := kyS_size t1
  have hp := fullS_size t0
  have hf := filledL_len t2
  obtain ⟨_, S, _, _, a3, a4⟩ := safe_of hl hn hb
  obtain ⟨r1, r2⟩ := run_safe hl hn hb hp k2 hf
  have hE : endOf (runP a (fullS t0) (kyS t1) (filledL t2) (fu a)) = ⟨none, (runP a (fullS t0) (kyS t1) (filledL t2) (fu a)).2.1.code, (runP a (fullS t0) (kyS t1) (filledL t2) (fu a)).2.1.val, (runP a (fullS t0) (kyS t1) (filledL t2) (fu a)).2.1.nx, (runP a (fullS t0) (kyS t1) (filledL t2) (fu a)).2.1.st, (runP a (fullS t0) (kyS t1) (filledL t2) (fu a)).2.1.sc⟩ := by
    unfold endOf
    rw [r1]; rfl
  have hask := ask_is (by omega) hp k1 k2 hf (by omega) hE
  have hmain := main4 (w0 := w0) (li := li) (rw := rw) S (show fu a < 1000000000 by omega) (rem a 0 []) (mc0 a (fullS t0) (kyS t1) (filledL t2)) 0 0 (ri0 hl hn hb hp k2 hf) (Nat.le_refl _) (by rw [a3]; omega)
  rw [← hp4c_like (dw0_like a (fullS t0) (kyS t1) t2)] at hmain
  generalize (runP a (fullS t0) (kyS t1) (filledL t2) (fu a)).2.1 = M at r2 hask
  have ev := s4_run a.length a.length rw (insC li) (insC a) (insC a) (knR (wk a).2 a.length 0) (spR (wk a).2 a.length 0) (lit64 (filledL t2)) t0 t1 t2 (fullS t0) (kyS t1) (fu a) M.code M.nx M.st M.val M.sc KT (SemLw w0 KT)
  rw [decide_eq_false (show ¬ M.st > fu a by omega), cond_false] at ev
  refine seg_semI3 (F := ft4) mixed (callsOf_ok (ok4r _)) leaf4_ok [4, 9, 14, 19, 23] 20 400 (ev.mpr ?_)
  exact ⟨hask, ⟨trivial, trivial, trivial⟩, ⟨plain_insC _, plain_insC _, plain_knS _ _ _, plain_spS _ _ _, plain_ints [], plain_ints [], trivial⟩, hmain⟩
set_option maxRecDepth 100000 in
set_option maxHeartbeats 2000000 in
theorem mid4 : SemLw w0 KT todo4a (fr4a a.length) (heapB G (hp4a (insC li) rw (insC a) (insC a) t0 t1 t2)) := by
  have pa := plain_insC a
  by_cases hr : a.length ≤ 128 ∧ ∀ x ∈ a, right x = true
  · obtain ⟨hn, hl⟩ := hr
    have hall : a.all right = true := List.all_eq_true.2 hl
    cases hb : badAt a with
    | some e =>
      have ev := s4_b a.length rw (insC li) (insC a) (insC a) t0 t1 t2 KT (SemLw w0 KT)
      rw [unIns_insC] at ev
      refine seg_semI3 (F := ft4) mixed (callsOf_ok (okOne _ con10b_ok)) leaf4_ok [4, 9, 14, 19, 23] 20 400 (ev.mpr ?_)
      exact ⟨⟨⟨pa, trivial⟩, ⟨pa, trivial⟩, rfl, rfl, hn, hall, by rw [hb]; rfl⟩, ret4_ok⟩
    | none =>
      have ev := s4_a a.length rw (insC li) (insC a) (insC a) t0 t1 t2 KT (SemLw w0 KT)
      have hm : 0 ≤ m15 t1 ∧ m15 t1 ≤ (t1.size : Int) := by unfold m15; split <;> omega
      have hx : ((ByteArray.mk #[107]).size + (t1.extract 0 (m15 t1).toNat).size).ble 1099511627776 = true := by
        refine Nat.ble_eq_true_of_le ?_
        have : (t1.extract 0 (m15 t1).toNat).size ≤ 15 := by
          rw [ByteArray.size_extract]; unfold m15; split <;> omega
        have e : (ByteArray.mk #[107]).size = 1 := rfl
        omega
      have hv : veq 4 (.string t1) (.string t1) = true := by simp [veq]
      rw [unIns_insC, decide_eq_true hm.1, decide_eq_true hm.2, hx, hv, s64_is] at ev
      simp only [beq_self_eq_true, Bool.and_self, cond_true] at ev
      refine seg_semI3 (F := ft4) mixed (callsOf_ok ok4a) leaf4_ok [4, 9, 14, 19, 23] 20 400 (ev.mpr ?_)
      exact ⟨⟨⟨pa, trivial⟩, ⟨pa, plain_knS _ _ _, plain_spS _ _ _, trivial⟩, by trivial, by trivial, hn, hall, hb⟩, ⟨trivial, trivial, trivial⟩, ⟨trivial, trivial, trivial⟩, ⟨plain_insC _, plain_S3 _ _ _, pa, pa, plain_knS _ _ _, plain_spS _ _ _, plain_lit _, trivial⟩, run4 hl hn hb⟩
  · have hbad : 128 < a.length ∨ ∃ x ∈ a, right x = false := by
      by_cases h1 : 128 < a.length
      · exact .inl h1
      · refine .inr ?_
        have h2 : ¬ ∀ x ∈ a, right x = true := fun h => hr ⟨by omega, h⟩
        simp only [Classical.not_forall] at h2
        obtain ⟨x, hx, h3⟩ := h2
        exact ⟨x, hx, by simpa using h3⟩
    have ev := s4_c a.length rw (insC li) (insC a) (insC a) t0 t1 t2 KT (SemLw w0 KT)
    rw [unIns_insC] at ev
    refine seg_semI3 (F := ft4) mixed (callsOf_ok (okOne _ con10c_ok)) leaf4_ok [4, 9, 14, 19, 23] 20 400 (ev.mpr ?_)
    exact ⟨⟨⟨pa, trivial⟩, ⟨pa, trivial⟩, rfl, rfl, hbad⟩, ret4_ok⟩
end
set_option maxRecDepth 100000 in
set_option maxHeartbeats 2000000 in
theorem call4 (l : List Ins) (rw : Bool) (t0 t1 t2 : ByteArray) :
    CallS Try.prog w0 4 [SL G l.length 4, AG [.string t0, .string t1, .string t2]] (heapB Try.prog.globals.size [some (.cells (insC l) rw)]) KT := by
  have hn : (heapB Try.prog.globals.size [some (.cells (insC l) rw)]).next = Try.prog.globals.size + nt1.flags.length := by rw [heapB_next]; rfl
  refine retT_call (nt := nt1) hn (call_sem (cd := Try.f4.body.getD .skip) Try.func4 (by kernel_rfl) ?_)
  rw [hn]
  have ev := s4_start l.length rw (insC l) t0 t1 t2 KT (SemLw w0 KT)
  have e1 : ((insC (l.take 130)).take ((l.take 130).length * 4)) = insC (l.take 130) := List.take_of_length_le (by rw [insC_len]; omega)
  have ex : x130 (insC l) = insC (l.take 130) := by unfold x130; rw [unIns_insC]
  rw [unIns_insC, ex, e1] at ev
  refine seg_semI3 (F := ft4) mixed (callsOf_ok ok4s) leaf4_ok [4, 9, 14, 19, 23] 20 400 (ev.mpr ?_)
  exact ⟨⟨trivial, trivial, trivial⟩, ⟨⟨plain_insC _, trivial⟩, ⟨plain_insC _, plain_insC _, plain_insC _, trivial⟩, rfl, rfl⟩, ⟨plain_insC _, plain_S3 _ _ _, plain_insC _, plain_insC _, trivial⟩, mid4⟩
end Go.Proofs.Ytadaindmgmielaa
