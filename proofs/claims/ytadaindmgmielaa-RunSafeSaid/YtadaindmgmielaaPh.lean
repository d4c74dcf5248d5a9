/- The document's machine: words. No condition. -/
import Derived.Test.YtadaindmgmielaaPg
namespace Go.Proofs.Ytadaindmgmielaa
open Go.Agm
variable {w0 : World}
def upd (f : Nat → Int) (k : Nat) (v : Int) : Nat → Int := fun i => bif Nat.beq i k then v else f i
/-- The document's machine's cells. -/
noncomputable abbrev dR (n : Nat) (pg ky : ByteArray) (f g : Nat → Int) (pc : Int) (m : Nat) (val : ByteArray) (nx code : Int) (en : Bool) : List Value :=
  SL (G + 1) n 4 :: .string pg :: .string ky :: (((List.range 64).map fun i => .int .u8 (f i)) ++ (((List.range 8).map fun i => I (g i)) ++ [I pc, SL (G + 2) m 1, SL (G + 3) m 1, .string val, I nx, I code, B en]))
noncomputable def dK (n : Nat) (cl : List Value) (rw : Bool) (pg ky : ByteArray) (f g : Nat → Int) (pc : Int) (m : Nat) (lc ld : List Value) (val : ByteArray) (nx code : Int) (en : Bool) : List (Option ABlk) :=
  [some (.cells (dR n pg ky f g pc m val nx code en) true), some (.cells cl rw), some (.cells lc true), some (.cells ld true)]
structure Dw where
  n : Nat
  m : Nat
  wr : Bool
  pg : ByteArray
  ky : ByteArray
  val : ByteArray
  f : Nat → Int
  g : Nat → Int
  pc : Int
  nx : Int
  code : Int
  en : Bool
  cl : List Value
  lc : List Value
  ld : List Value
noncomputable def Dw.bs (R : Dw) : List (Option ABlk) := dK R.n R.cl R.wr R.pg R.ky R.f R.g R.pc R.m R.lc R.ld R.val R.nx R.code R.en
def isI (k : IntKind) (v : Value) : Bool := match v with
  | .int k' _ => k' == k
  | _ => false
/-- The first cells of a row are numbers of a kind; the rest. -/
def numsK (k : IntKind) : Nat → List Value → Option (List Int × List Value)
  | 0, r => some ([], r)
  | n + 1, v :: r => bif isI k v then (match numsK k n r with
    | some (l, r') => some (int1 v :: l, r')
    | none => none) else none
  | _ + 1, [] => none
noncomputable def dP (bs : List (Option ABlk)) : Option (Dw × Nat) := match bs with
  | [some (.cells (a :: .string pg :: .string ky :: r) true), some (.cells cl rw), some (.cells lc true), some (.cells ld true)] =>
    match numsK .u8 64 r with
    | some (f, r) => match numsK .i64 8 r with
      | some (g, r) => match r with
        | [pc, lo, le, .string val, nx, cd, .bool en] => match slN a 1 4, slN lo 2 1, slN le 3 1, intV pc, intV nx, intV cd with
          | some n, some m, some m2, some pc, some nx, some cd => some ({ n := n, m := m, wr := rw, pg := pg, ky := ky, val := val, f := fun i => f.getD i 0, g := fun i => g.getD i 0, pc := pc, nx := nx, code := cd, en := en, cl := cl, lc := lc, ld := ld }, m2)
          | _, _, _, _, _, _ => none
        | _ => none
      | none => none
    | none => none
  | _ => none
theorem numsK_eq {k : IntKind} : ∀ {n : Nat} {r : List Value} {l : List Int} {r' : List Value}, numsK k n r = some (l, r') → l.length = n ∧ r = l.map (Value.int k) ++ r'
  | 0, r, l, r', e => by
    simp only [numsK, Option.some.injEq, Prod.mk.injEq] at e
    obtain ⟨rfl, rfl⟩ := e
    exact ⟨rfl, rfl⟩
  | n + 1, [], l, r', e => by simp [numsK] at e
  | n + 1, v :: r, l, r', e => by
    simp only [numsK] at e
    cases hv : isI k v with
    | false => rw [hv] at e; simp at e
    | true =>
      rw [hv, cond_true] at e
      split at e
      · rename_i l0 r0 h0
        simp only [Option.some.injEq, Prod.mk.injEq] at e
        obtain ⟨rfl, rfl⟩ := e
        obtain ⟨h1, h2⟩ := numsK_eq h0
        refine ⟨by simp [h1], ?_⟩
        unfold isI at hv
        split at hv
        · rename_i k' x
          have : k' = k := by simpa using hv
          subst this
          rw [List.map_cons, List.cons_append, ← h2]; rfl
        · cases hv
      · simp at e
theorem map_getD {l : List Int} {n : Nat} (h : l.length = n) (F : Int → Value) : (List.range n).map (fun i => F (l.getD i 0)) = l.map F := by
  subst h
  apply List.ext_getElem
  · simp
  · intro i h1 h2
    have : i < l.length := by simpa using h2
    rw [List.getElem_map, List.getElem_map, List.getElem_range, List.getD_eq_getElem?_getD, List.getElem?_eq_getElem this]; rfl
theorem dP_eq {bs : List (Option ABlk)} {R : Dw} {m2 : Nat} (e : dP bs = some (R, m2)) (hm : m2 = R.m) : bs = R.bs := by
  unfold dP at e
  split at e
  · rename_i a pg ky r cl rw' lc ld
    split at e
    · rename_i f r1 hf
      split at e
      · rename_i g r2 hg
        split at e
        · rename_i pc lo le val nx cd en
          split at e
          · rename_i n m m2' pc' nx' cd' h1 h2 h3 h4 h5 h6
            simp only [Option.some.injEq, Prod.mk.injEq] at e
            obtain ⟨rfl, rfl⟩ := e
            obtain ⟨f1, f2⟩ := numsK_eq hf
            obtain ⟨g1, g2⟩ := numsK_eq hg
            have e1 := slN_eq h1
            have e2 := slN_eq h2
            have e3 := slN_eq h3
            have e4 := intV_eq h4
            have e5 := intV_eq h5
            have e6 := intV_eq h6
            subst f2 g2 e1 e2 e3 e4 e5 e6
            simp only at hm
            subst hm
            show _ = dK _ _ _ _ _ _ _ _ _ _ _ _ _ _ _
            unfold dK dR
            simp only
            rw [map_getD f1 (Value.int .u8), map_getD g1 I]
          · simp at e
        · simp at e
      · simp at e
    · simp at e
  · simp at e
abbrev ptD : List Pth := [⟨0, [], false⟩, ⟨0, [0], true⟩, ⟨0, [76], true⟩, ⟨0, [77], true⟩]
abbrev ghD : List Gh := [⟨0, some ([], 76), 1⟩, ⟨0, some ([], 77), 1⟩]
abbrev flD : List Bool := [false, true, true, true]
abbrev ntE : Nt := { gh := [], flags := flD, paths := [], tr := [(1, [76]), (1, [77])] }
abbrev ntE6 : Nt := { gh := [], flags := flD, paths := [⟨1, [76], true⟩, ⟨1, [77], true⟩], tr := [] }
abbrev ntF : Nt := { gh := [], flags := flD, paths := [], tr := [] }
/-! End. -/
noncomputable def ft64 : FT := { loc := fun _ => false, mask := fun id => bif Nat.beq id 3 then live 34 [0, 5, 6] else [] }
noncomputable def todo64 : List Item := todoOf Try.f64 3
noncomputable def fr64 (n : Nat) (dp i : Int) : List AV := frm 34 [(0, .v (SL G n 4)), (5, .v (I dp)), (6, .v (I i))]
abbrev seg64 (K : List Value → AHeap → Prop) (L : List Item → List AV → AHeap → Prop) (t : List Item) (fr : List AV) (h : AHeap) : Prop :=
  segK3 Try.prog ft64 (semI Try.prog (fun _ => ft0) (callsOf G []) 400 20 (retT G nt1 K)) Try.f64 [3] 400 t fr (fun t fr h => match t with
  | .code (.region 3 _ _) :: _ => canonT G nt1 (L t) fr h
  | _ => False) h
/-! look. -/
noncomputable def ftD25 : FT := { loc := fun _ => false, mask := fun id => bif Nat.beq id 6 then live 62 [0, 3, 5, 6] else [] }
noncomputable def todoD25 : List Item := todoOf Try.f25 6
abbrev ntD25 : Nt := { gh := [], flags := flD, paths := [⟨3, [], true⟩], tr := [] }
noncomputable def frD25 (from' : ByteArray) (size : Int) : List AV := frm 62 [(0, .v (PT G)), (3, .v (PT (G + 4))), (5, .v (.string from')), (6, .v (I size))]
abbrev seg25d (cs : List Con) (K : List Value → AHeap → Prop) (L : List Item → List AV → AHeap → Prop) (t : List Item) (fr : List AV) (h : AHeap) : Prop :=
  segK3 Try.prog ftD25 (semI Try.prog (fun _ => ft0) (callsOf G cs) 400 20 (retT G ntE K)) Try.f25 [6] 400 t fr (fun t fr h => match t with
  | .code (.region 6 _ _) :: _ => canonT G ntD25 (L t) fr h
  | _ => False) h

section
variable (n : Nat) (rw : Bool) (cl : List Value) (a dp i : Int) (K : List Value → AHeap → Prop) (L : List Item → List AV → AHeap → Prop)
theorem start64 : seg64 K L [.code (Try.f64.body.getD .skip)] (startF Try.f64 [SL G n 4, I a]) (heapB G [some (.cells cl rw)])
    = ((PlainL cl ∧ True) ∧ L todo64 (fr64 n 0 (w (a + 1))) (heapB G [some (.cells cl rw)])) := by kernel_rfl
abbrev pk64 (cl : List Value) (i : Int) : Option Value := nth cl (0 + i.toNat * 4 + 0)
theorem head64 : seg64 K L todo64 (fr64 n dp i) (heapB G [some (.cells cl rw)])
    = (bif decide (i < (n : Int)) then bif decide (0 ≤ i) && decide (i < (n : Int)) then bif okI .i64 (pk64 cl i) then
        bif intO (pk64 cl i) == 17 then bif decide (0 ≤ i) && decide (i < (n : Int)) then bif okI .i64 (pk64 cl i) then
          bif intO (pk64 cl i) == 18 then bif w (dp + 1) == 0 then (PlainL cl ∧ True) ∧ K [I i] (heapB G [some (.cells cl rw)])
            else (PlainL cl ∧ True) ∧ L todo64 (fr64 n (w (w (dp + 1) - 1)) (w (i + 1))) (heapB G [some (.cells cl rw)])
          else (PlainL cl ∧ True) ∧ L todo64 (fr64 n (w (dp + 1)) (w (i + 1))) (heapB G [some (.cells cl rw)])
          else False else False
        else bif decide (0 ≤ i) && decide (i < (n : Int)) then bif okI .i64 (pk64 cl i) then
          bif intO (pk64 cl i) == 18 then bif dp == 0 then (PlainL cl ∧ True) ∧ K [I i] (heapB G [some (.cells cl rw)])
            else (PlainL cl ∧ True) ∧ L todo64 (fr64 n (w (dp - 1)) (w (i + 1))) (heapB G [some (.cells cl rw)])
          else (PlainL cl ∧ True) ∧ L todo64 (fr64 n dp (w (i + 1))) (heapB G [some (.cells cl rw)])
          else False else False
        else False else False
      else (PlainL cl ∧ True) ∧ K [I (-1)] (heapB G [some (.cells cl rw)])) := by kernel_rfl
end
/-- A Loop's End, by the document. -/
def endL : List Ins → Nat → Nat → Int
  | [], _, _ => -1
  | x :: r, d, i => bif x.op == 17 then endL r (d + 1) (i + 1) else bif x.op == 18 then (bif d == 0 then (i : Int) else endL r (d - 1) (i + 1)) else endL r d (i + 1)
theorem endL_ge : ∀ (r : List Ins) (d i : Nat), endL r d i = -1 ∨ (i : Int) ≤ endL r d i
  | [], _, _ => .inl rfl
  | x :: r, d, i => by
    have h : ∀ d, endL r d (i + 1) = -1 ∨ (i : Int) ≤ endL r d (i + 1) := fun d => by
      rcases endL_ge r d (i + 1) with e | e
      · exact .inl e
      · exact .inr (by omega)
    rw [endL]
    refine bifB (P := fun e : Int => e = -1 ∨ (i : Int) ≤ e) (fun _ => h _) (fun _ => ?_)
    refine bifB (P := fun e : Int => e = -1 ∨ (i : Int) ≤ e) (fun _ => ?_) (fun _ => h _)
    exact bifB (P := fun e : Int => e = -1 ∨ (i : Int) ≤ e) (fun _ => .inr (Int.le_refl _)) (fun _ => h _)
theorem endL_in : ∀ (r : List Ins) (d i k : Nat), (endL r d i < 0 ∨ ((i + k : Nat) : Int) ≤ endL r d i) ↔ inL (r.take k) d = true
  | r, d, i, 0 => by
    rw [List.take_zero]
    refine ⟨fun _ => rfl, fun _ => ?_⟩
    rcases endL_ge r d i with e | e <;> omega
  | [], d, i, k + 1 => ⟨fun _ => rfl, fun _ => .inl (by show (-1 : Int) < 0; decide)⟩
  | x :: r, d, i, k + 1 => by
    rw [List.take_succ_cons, inL, endL]
    have h := fun d => endL_in r d (i + 1) k
    have e : i + 1 + k = i + (k + 1) := by omega
    rw [e] at h
    cases c1 : x.op == 17 with
    | true => exact h _
    | false =>
      cases c2 : x.op == 18 with
      | true =>
        cases c3 : d == 0 with
        | true =>
          simp only [cond_true, cond_false]
          refine ⟨fun q => ?_, fun q => by cases q⟩
          exfalso; omega
        | false => exact h _
      | false => exact h _
abbrev SemE (w0 : World) (K : List Value → AHeap → Prop) (t : List Item) (fr : List AV) (h : AHeap) : Prop := Agm.Sem Try.prog w0 (Try.prog.globals.size + nt1.flags.length) Try.f64 (retT G nt1 K) t fr h
theorem leaf64 {K : List Value → AHeap → Prop} : ∀ t fr h, (match t with
    | .code (.region 3 _ _) :: _ => canonT G nt1 (SemE w0 K t) fr h
    | _ => False) → SemE w0 K t fr h := by
  intro t fr h e
  split at e
  · exact canonT_semN (nt := nt1) rfl e
  · exact e.elim
set_option maxRecDepth 100000 in
theorem loop64 {K : List Value → AHeap → Prop} {rw : Bool} {l : List Ins} (hl : l.length < 1000000000) : ∀ (f i d : Nat), l.length - i < f → i ≤ l.length → d ≤ i →
    K [I (endL (l.drop i) d i)] (heapB G [some (.cells (insC l) rw)]) → SemE w0 K todo64 (fr64 l.length d i) (heapB G [some (.cells (insC l) rw)]) := by
  intro f
  induction f with
  | zero => intro i d h1; omega
  | succ f ih =>
    intro i d h1 h2 h3 hK
    refine seg_semI3 (F := ft64) mixed (callsOf_ok ok_none) leaf64 [3] 20 400 ((head64 l.length rw (insC l) d i K _).mpr ?_)
    have hp : PlainL (insC l) ∧ True := ⟨plain_insC l, trivial⟩
    refine bifP (fun c0 => ?_) (fun c0 => ?_)
    · simp only [decide_eq_true_eq] at c0
      have hi : i < l.length := by omega
      obtain ⟨e1, ⟨e2, e3, e4, e5⟩, e6⟩ := at_insC3 hi
      have hw1 : w ((i : Int) + 1) = ((i + 1 : Nat) : Int) := by rw [w_id (by omega) (by omega)]; omega
      have hw2 : w ((d : Int) + 1) = ((d + 1 : Nat) : Int) := by rw [w_id (by omega) (by omega)]; omega
      have hget : l.getD i insD = l[i] := by rw [List.getD_eq_getElem?_getD, List.getElem?_eq_getElem hi]; rfl
      rw [hget] at e6
      rw [List.drop_eq_getElem_cons hi, endL] at hK
      rw [decide_eq_true (show (0 : Int) ≤ (i : Int) by omega), decide_eq_true c0, e2, e6]
      simp only [Bool.and_self, cond_true]
      refine bifP (fun o1 => ?_) (fun o1 => ?_)
      · rw [o1, cond_true] at hK
        have o2 : (l[i].op == 18) = false := by
          have := beq_iff_eq.1 o1
          rw [this]; rfl
        rw [o2, hw1, hw2]
        exact ⟨hp, ih _ _ (by omega) (by omega) (by omega) hK⟩
      · rw [o1, cond_false] at hK
        refine bifP (fun o2 => ?_) (fun o2 => ?_)
        · rw [o2, cond_true] at hK
          refine bifP (fun o3 => ?_) (fun o3 => ?_)
          · have hd : (d == 0) = true := by
              simp only [beq_iff_eq] at o3 ⊢; omega
            rw [hd, cond_true] at hK
            exact ⟨hp, hK⟩
          · have hd : (d == 0) = false := by
              rw [beq_eq_false_iff_ne] at o3 ⊢; omega
            have hd' : d ≠ 0 := beq_eq_false_iff_ne.mp hd
            have hw3 : w ((d : Int) - 1) = ((d - 1 : Nat) : Int) := by rw [w_id (by omega) (by omega)]; omega
            rw [hd, cond_false] at hK
            rw [hw3, hw1]
            exact ⟨hp, ih _ _ (by omega) (by omega) (by omega) hK⟩
        · rw [o2, cond_false] at hK
          rw [hw1]
          exact ⟨hp, ih _ _ (by omega) (by omega) (by omega) hK⟩
    · simp only [decide_eq_false_iff_not] at c0
      have h0 : i = l.length := by omega
      subst h0
      rw [List.drop_length] at hK
      exact ⟨hp, hK⟩
noncomputable def con64 : Con := { f := 64, gh := [], paths := pt1, spec := fun args bs => match args, bs with
  | [s, va], [some (.cells cl rw)] => match slN s 0 4, intV va with
    | some n, some a => some (cl = insC (unIns cl) ∧ (unIns cl).length = n ∧ n < 1000000000 ∧ 0 ≤ a ∧ a < (n : Int), [I (endL ((unIns cl).drop (a.toNat + 1)) 0 (a.toNat + 1))], [(true, some (.cells cl rw))])
    | _, _ => none
  | _, _ => none }
set_option maxRecDepth 100000 in
theorem con64_ok : con64.ok Try.prog w0 := by
  intro args bs p rs out e hp
  simp only [con64] at e
  split at e <;> first | (simp at e; done) | skip
  split at e <;> first | (simp at e; done) | skip
  rename_i s va cl rw _ _ n a hs ha
  simp only [Option.some.injEq, Prod.mk.injEq] at e
  obtain ⟨rfl, rfl, rfl⟩ := e
  obtain ⟨h1, h2, h3, h4, h5⟩ := hp
  rw [slN_eq hs, intV_eq ha]
  generalize unIns cl = l at h1 h2 ⊢
  subst h1 h2
  obtain ⟨a, rfl⟩ := Int.eq_ofNat_of_zero_le h4
  rw [Int.toNat_natCast]
  change CallS Try.prog w0 64 [SL G l.length 4, I (a : Int)] (heapB Try.prog.globals.size [some (.cells (insC l) rw)]) fun rs' h' => rs' = [I (endL (l.drop (a + 1)) 0 (a + 1))] ∧ h' = heapB Try.prog.globals.size [some (.cells (insC l) rw)]
  have hn : (heapB Try.prog.globals.size [some (.cells (insC l) rw)]).next = Try.prog.globals.size + nt1.flags.length := by rw [heapB_next]; rfl
  refine retT_call (nt := nt1) hn (call_sem (cd := Try.f64.body.getD .skip) Try.func64 (by kernel_rfl) ?_)
  rw [hn]
  refine seg_semI3 (F := ft64) mixed (callsOf_ok ok_none) leaf64 [3] 20 400 ((start64 l.length rw (insC l) a _ _).mpr ⟨⟨plain_insC l, trivial⟩, ?_⟩)
  have hw1 : w ((a : Int) + 1) = ((a + 1 : Nat) : Int) := by rw [w_id (by omega) (by omega)]; omega
  rw [hw1]
  exact loop64 (by omega) (l.length + 1) (a + 1) 0 (by omega) (by omega) (by omega) ⟨rfl, rfl⟩
theorem eval48 (n : Nat) (rw : Bool) (cl : List Value) (a t : Int) (K : List Value → AHeap → Prop) : evSeg Try.f48 [con64] nt1 [SL G n 4, I a, I t] [some (.cells cl rw)] K
    = (((PlainL cl ∧ True) ∧ (PlainL cl ∧ True) ∧ cl = insC (unIns cl) ∧ (unIns cl).length = n ∧ n < 1000000000 ∧ 0 ≤ a ∧ a < (n : Int)) ∧
      bif decide (t > a) then bif decide (endL ((unIns cl).drop (a.toNat + 1)) 0 (a.toNat + 1) < 0) then (PlainL cl ∧ True) ∧ K [B true] (heapB G [some (.cells cl rw)])
        else (PlainL cl ∧ True) ∧ K [B (decide (t ≤ endL ((unIns cl).drop (a.toNat + 1)) 0 (a.toNat + 1)))] (heapB G [some (.cells cl rw)])
      else (PlainL cl ∧ True) ∧ K [B false] (heapB G [some (.cells cl rw)])) := by kernel_rfl
noncomputable def con48d : Con := { f := 48, gh := [], paths := pt1, spec := fun args bs => match args, bs with
  | [s, va, vt], [some (.cells cl rw)] => match slN s 0 4, intV va, intV vt with
    | some n, some a, some t => some (cl = insC (unIns cl) ∧ (unIns cl).length = n ∧ n < 1000000000 ∧ 0 ≤ a ∧ a < t ∧ t ≤ (n : Int), [B (inM (unIns cl) a t)], [(true, some (.cells cl rw))])
    | _, _, _ => none
  | _, _ => none }
set_option maxRecDepth 100000 in
theorem con48d_ok : con48d.ok Try.prog w0 := by
  intro args bs p rs out e hp
  simp only [con48d] at e
  split at e <;> first | (simp at e; done) | skip
  split at e <;> first | (simp at e; done) | skip
  rename_i s va vt cl rw _ _ _ n a t hs ha ht
  simp only [Option.some.injEq, Prod.mk.injEq] at e
  obtain ⟨rfl, rfl, rfl⟩ := e
  obtain ⟨h1, h2, h3, h4, h5, h6⟩ := hp
  rw [slN_eq hs, intV_eq ha, intV_eq ht]
  generalize hl : unIns cl = l at h1 h2 ⊢
  subst h1 h2
  obtain ⟨a, rfl⟩ := Int.eq_ofNat_of_zero_le h4
  obtain ⟨t, rfl⟩ := Int.eq_ofNat_of_zero_le (show 0 ≤ t by omega)
  change CallS Try.prog w0 48 [SL G l.length 4, I (a : Int), I (t : Int)] (heapB Try.prog.globals.size [some (.cells (insC l) rw)]) fun rs' h' => rs' = [B (inM l a t)] ∧ h' = heapB Try.prog.globals.size [some (.cells (insC l) rw)]
  refine ev_callS (nt := nt1) (cs := [con64]) Try.func48 (by kernel_rfl) (fun c hc => by
    simp only [List.mem_cons, List.not_mem_nil, or_false] at hc
    subst hc
    exact con64_ok) rfl ((eval48 l.length rw (insC l) a t _).mpr ?_)
  have hp : PlainL (insC l) ∧ True := ⟨plain_insC l, trivial⟩
  rw [unIns_insC, Int.toNat_natCast]
  refine ⟨⟨hp, hp, rfl, rfl, h3, by omega, by omega⟩, ?_⟩
  rw [decide_eq_true (show (t : Int) > (a : Int) by omega), cond_true]
  have key := endL_in (l.drop (a + 1)) 0 (a + 1) (t - (a + 1))
  rw [show a + 1 + (t - (a + 1)) = t by omega] at key
  have e : inM l a t = inL ((l.drop (a + 1)).take (t - (a + 1))) 0 := by
    unfold inM
    rw [Int.toNat_natCast, Int.toNat_natCast, List.drop_take]
  rw [← e] at key
  refine bifP (fun c => ⟨hp, ?_⟩) (fun c => ⟨hp, ?_⟩)
  · simp only [decide_eq_true_eq] at c
    rw [key.1 (.inl c)]; exact ⟨rfl, rfl⟩
  · simp only [decide_eq_false_iff_not] at c
    refine ⟨?_, rfl⟩
    congr 2
    cases hb : inM l a t with
    | true =>
      rcases key.2 hb with h | h
      · exact absurd h c
      · exact decide_eq_true h
    | false =>
      refine decide_eq_false fun h => ?_
      rw [key.1 (.inr h)] at hb; cases hb

theorem eval46d (s : ByteArray) (a n : Int) (r : List Value) : pureSeg [] Try.f46 [.string s, I a, I n] r
    = (bif decide (a < 0) then True ∧ [.string ⟨#[]⟩, B false] = r else bif decide (n < 0) then True ∧ [.string ⟨#[]⟩, B false] = r else bif decide (n > (s.size : Int)) then True ∧ [.string ⟨#[]⟩, B false] = r else
      bif decide (a > w ((s.size : Int) - n)) then True ∧ [.string ⟨#[]⟩, B false] = r else
      bif decide (0 ≤ w (a + n)) && decide (w (a + n) ≤ (s.size : Int)) && decide (0 ≤ a) && decide (a ≤ w (a + n)) then True ∧ [.string (s.extract a.toNat (w (a + n)).toNat), B true] = r else False) := by kernel_rfl
noncomputable def con46d : Con := { f := 46, gh := [], paths := [], spec := fun args bs => match args, bs with
  | [.string s, va, vn], [] => match intV va, intV vn with
    | some a, some n => some (s.size ≤ 1000000000, [.string (r79a s a n), B (r79b s a n)], [])
    | _, _ => none
  | _, _ => none }
theorem con46d_ok : con46d.ok Try.prog w0 := by
  intro args bs p rs out e hp
  simp only [con46d] at e
  split at e <;> first | (simp at e; done) | skip
  split at e <;> first | (simp at e; done) | skip
  rename_i s va vn _ _ a n ha hn
  simp only [Option.some.injEq, Prod.mk.injEq] at e
  obtain ⟨rfl, rfl, rfl⟩ := e
  rw [intV_eq ha, intV_eq hn]
  refine pureS (cs := []) Try.func46 (by kernel_rfl) (fun c hc => by simp at hc) ?_
  rw [eval46d]
  unfold r79a r79b
  refine bifP (fun h1 => ?_) (fun h1 => ?_)
  · simp only [h1, cond_true, cond_false]; exact ⟨trivial, by trivial⟩
  refine bifP (fun h2 => ?_) (fun h2 => ?_)
  · simp only [h1, h2, cond_true, cond_false]; exact ⟨trivial, by trivial⟩
  refine bifP (fun h3 => ?_) (fun h3 => ?_)
  · simp only [h1, h2, h3, cond_true, cond_false]; exact ⟨trivial, by trivial⟩
  refine bifP (fun h4 => ?_) (fun h4 => ?_)
  · simp only [h1, h2, h3, h4, Bool.not_true, cond_false]; exact ⟨trivial, by trivial⟩
  simp only [h1, h2, h3, h4, Bool.not_false, cond_true, cond_false]
  simp only [decide_eq_false_iff_not] at h1 h2 h3 h4
  rw [w_id (by omega) (by omega)] at h4
  have e1 : w (a + n) = a + n := w_id (by omega) (by omega)
  rw [e1, decide_eq_true (show 0 ≤ a + n by omega), decide_eq_true (show a + n ≤ (s.size : Int) by omega), decide_eq_true (show 0 ≤ a by omega), decide_eq_true (show a ≤ a + n by omega)]
  exact ⟨trivial, by trivial⟩
theorem eval47a (a : UInt8) (r : List Value) : pureSeg [] Try.f47 [.string ⟨#[a]⟩] r = (True ∧ [I (w (0 + w (a.toNat : Int)))] = r) := by kernel_rfl
theorem eval47b (a b : UInt8) (r : List Value) : pureSeg [] Try.f47 [.string ⟨#[a, b]⟩] r = (True ∧ [I (w (w (256 * w (0 + w (b.toNat : Int))) + w (a.toNat : Int)))] = r) := by kernel_rfl
noncomputable def con47d : Con := { f := 47, gh := [], paths := [], spec := fun args bs => match args, bs with
  | [.string s], [] => some (s.size = 1 ∨ s.size = 2, [I (r80 s)], [])
  | _, _ => none }
set_option maxRecDepth 100000 in
theorem con47d_ok : con47d.ok Try.prog w0 := by
  intro args bs p rs out e hp
  simp only [con47d] at e
  split at e <;> first | (simp at e; done) | skip
  rename_i s
  simp only [Option.some.injEq, Prod.mk.injEq] at e
  obtain ⟨rfl, rfl, rfl⟩ := e
  refine pureS (cs := []) Try.func47 (by kernel_rfl) (fun c hc => by simp at hc) ?_
  have key : ∀ (s : ByteArray), s.size = 1 ∨ s.size = 2 → (∃ a, s = ⟨#[a]⟩) ∨ ∃ a b, s = ⟨#[a, b]⟩ := by
    rintro ⟨⟨l⟩⟩ h
    match l, h with
    | [a], _ => exact .inl ⟨a, rfl⟩
    | [a, b], _ => exact .inr ⟨a, b, rfl⟩
    | [], h => simp [ByteArray.size] at h
    | _ :: _ :: _ :: _, h => simp [ByteArray.size] at h
  have hb : ∀ b : UInt8, b.toNat < 256 := fun b => b.toNat_lt
  have hw : ∀ b : UInt8, w (b.toNat : Int) = (b.toNat : Int) := fun b => w_id (by omega) (by have := hb b; omega)
  rcases key s hp with ⟨a, rfl⟩ | ⟨a, b, rfl⟩
  · rw [show r80 ⟨#[a]⟩ = raw1 a from rfl, raw1_val, eval47a, hw a, Int.zero_add, hw a]; exact ⟨trivial, rfl⟩
  · have h1 := hb a
    have h2 := hb b
    rw [show r80 ⟨#[a, b]⟩ = raw2 a b from rfl, raw2_val, eval47b, hw a, hw b, Int.zero_add, hw b]
    rw [w_id (n := 256 * (b.toNat : Int)) (by omega) (by omega), w_id (n := 256 * (b.toNat : Int) + (a.toNat : Int)) (by omega) (by omega)]
    refine ⟨trivial, ?_⟩
    congr 2
    omega
/-! Contracts of the machine's functions. -/
def Dw.fit (R : Dw) : Prop := R.cl = insC (unIns R.cl) ∧ (unIns R.cl).length = R.n ∧ R.lc = ints (unI R.lc) ∧ (unI R.lc).length = R.m ∧ R.ld = ints (unI R.ld) ∧ (unI R.ld).length = R.m
noncomputable def dCon (f : Nat) (args : List Value → Option (List Int)) (ok : Dw → List Int → Prop) (ans : Dw → List Int → List Value) (out : Dw → List Int → Dw) : Con :=
  { f := f, gh := ghD, paths := ptD, spec := fun vs bs => match vs with
    | p :: vs => match args vs, dP bs with
      | some xs, some (R, m2) => bif isPtr p 0 then some ((R.fit ∧ m2 = R.m) ∧ ok R xs, ans R xs, flD.zip (out R xs).bs) else none
      | _, _ => none
    | _ => none }
theorem dCon_ok {f : Nat} {args : List Value → Option (List Int)} {ok : Dw → List Int → Prop} {ans : Dw → List Int → List Value} {out : Dw → List Int → Dw}
    (h : ∀ (vs : List Value) (xs : List Int) (R : Dw), args vs = some xs → R.fit → ok R xs →
      CallS Try.prog w0 f (PT G :: vs) (heapB Try.prog.globals.size R.bs) fun rs' h' => rs' = ans R xs ∧ h' = heapB Try.prog.globals.size (out R xs).bs) :
    (dCon f args ok ans out).ok Try.prog w0 := by
  intro vs bs p rs o e hp
  simp only [dCon] at e
  split at e <;> first | (simp at e; done) | skip
  rename_i p0 vs1
  split at e <;> first | (simp at e; done) | skip
  rename_i xs R m2 hx hm
  cases hq : isPtr p0 0 with
  | false => rw [hq] at e; simp at e
  | true =>
    rw [hq] at e
    simp only [cond_true, Option.some.injEq, Prod.mk.injEq] at e
    obtain ⟨rfl, rfl, rfl⟩ := e
    obtain ⟨⟨hp1, hp2⟩, hp3⟩ := hp
    rw [isPtr_eq hq, dP_eq hm hp2]
    have hz : ∀ R : Dw, (flD.zip R.bs).map (·.2) = R.bs := fun R => zip_snd rfl
    rw [hz]
    exact h vs1 xs R hx hp1 hp3
abbrev evD (fn : Func) (cs : List Con) (args : List Value) (bs : List (Option ABlk)) (K : List Value → AHeap → Prop) : Prop := evSeg fn cs ntE args bs K
theorem ev_d {f : Nat} {fn : Func} {cs : List Con} {args : List Value} {R : Dw} {K : List Value → AHeap → Prop} (hfn : Try.prog.funcs[f]? = some fn) (hcd : fn.body = some (fn.body.getD .skip)) (hcs : ∀ c ∈ cs, c.ok Try.prog w0)
    (h : evD fn cs args (dK R.n R.cl R.wr R.pg R.ky R.f R.g R.pc R.m R.lc R.ld R.val R.nx R.code R.en) K) : CallS Try.prog w0 f args (heapB Try.prog.globals.size R.bs) K :=
  ev_callS (nt := ntE) hfn hcd hcs rfl h
section
variable {n m : Nat} {pg ky val : ByteArray} {f g : Nat → Int} {pc nx code : Int} {en : Bool}
/-- A register, read. -/
noncomputable abbrev dRd (n m : Nat) (pg ky val : ByteArray) (f g : Nat → Int) (pc nx code : Int) (en : Bool) (s : Int) : Option Value := nth (dR n pg ky f g pc m val nx code en) (67 + s.toNat * 1)
theorem d_rd {d : Int} (h1 : 0 ≤ d) (h2 : d < 8) : okI .i64 (dRd n m pg ky val f g pc nx code en d) = true ∧ intO (dRd n m pg ky val f g pc nx code en d) = g d.toNat := by
  obtain ⟨k, rfl⟩ := Int.eq_ofNat_of_zero_le h1
  unfold dRd
  rw [Int.toNat_natCast]
  have hk : k < 8 := by omega
  rcases k with _ | _ | _ | _ | _ | _ | _ | _ | k <;> first | exact ⟨rfl, rfl⟩ | (exfalso; omega)
end

section
variable (n m : Nat) (pg ky val : ByteArray) (f g : Nat → Int) (pc nx code : Int) (en rw : Bool) (cl lc ld : List Value) (K : List Value → AHeap → Prop)
abbrev kD (n : Nat) (cl : List Value) (rw : Bool) (pg ky : ByteArray) (f g : Nat → Int) (pc : Int) (m : Nat) (lc ld : List Value) (val : ByteArray) (nx code : Int) (en : Bool) (K : List Value → AHeap → Prop) (b : Bool) : Prop :=
  PL3 cl (lc.take (m * 1)) (ld.take (m * 1)) ∧ K [B b] (heapB G (dK n cl rw pg ky f g pc m (lc.take (m * 1)) (ld.take (m * 1)) val nx code en))
abbrev tk (pg : ByteArray) (g : Nat → Int) : ByteArray := r79a pg (g 2) (g 3)
theorem eval27_3 : evD Try.f27 [con46d] [PT G, I 3] (dK n cl rw pg ky f g pc m lc ld val nx code en) K = kD n cl rw pg ky f g pc m lc ld val (g 2) code en K true := by kernel_rfl
theorem eval27_2 : evD Try.f27 [con46d] [PT G, I 2] (dK n cl rw pg ky f g pc m lc ld val nx code en) K
    = ((True ∧ True ∧ pg.size ≤ 1000000000) ∧ bif !r79b pg (g 2) (g 3) then kD n cl rw pg ky f g pc m lc ld val nx code en K false else
      bif decide (((tk pg g).size : Int) > 24) then kD n cl rw pg ky f g pc m lc ld val nx code en K false else kD n cl rw pg ky f g pc m lc ld (tk pg g) nx code en K true) := by kernel_rfl
theorem eval27_1 : evD Try.f27 [con46d] [PT G, I 1] (dK n cl rw pg ky f g pc m lc ld val nx code en) K
    = ((True ∧ True ∧ pg.size ≤ 1000000000) ∧ bif !r79b pg (g 2) (g 3) then kD n cl rw pg ky f g pc m lc ld val nx code en K false else
      bif decide (((tk pg g).size : Int) > 16) then kD n cl rw pg ky f g pc m lc ld val nx code en K false else
      bif Op.bytesLess ky.toList (tk pg g).toList then (bif !(Op.bytesLess ky.toList (tk pg g).toList || ky.toList == (tk pg g).toList) then kD n cl rw pg ky f (upd g 0 1) pc m lc ld val nx code en K true else kD n cl rw pg ky f (upd g 0 (-1)) pc m lc ld val nx code en K true)
      else (bif !(Op.bytesLess ky.toList (tk pg g).toList || ky.toList == (tk pg g).toList) then kD n cl rw pg ky f (upd g 0 1) pc m lc ld val nx code en K true else kD n cl rw pg ky f (upd g 0 0) pc m lc ld val nx code en K true)) := by kernel_rfl
end

theorem cmp_less : ∀ a b : List UInt8, Lib.compareBytes a b = if Op.bytesLess a b then -1 else if !(Op.bytesLess a b || a == b) then 1 else 0
  | [], [] => rfl
  | [], _ :: _ => rfl
  | _ :: _, [] => rfl
  | a :: x, b :: y => by
    have ih := cmp_less x y
    rw [Lib.compareBytes, Op.bytesLess]
    by_cases h1 : a < b
    · simp [h1]
    · by_cases h2 : b < a
      · have h3 : a ≠ b := by rintro rfl; exact h1 h2
        simp [h1, h2, h3]
      · have h3 : a = b := UInt8.le_antisymm (UInt8.not_lt.1 h2) (UInt8.not_lt.1 h1)
        subst h3
        rw [if_neg h1, if_neg h1, ih]
        simp
def callD (R : Dw) (t : Int) : Bool × Dw := bif t == 3 then (true, { R with nx := R.g 2 }) else
  bif !r79b R.pg (R.g 2) (R.g 3) then (false, R) else bif decide (((r79a R.pg (R.g 2) (R.g 3)).size : Int) > bif t == 2 then 24 else 16) then (false, R) else
  bif t == 2 then (true, { R with val := r79a R.pg (R.g 2) (R.g 3) }) else (true, { R with g := upd R.g 0 (cmpS R.ky (r79a R.pg (R.g 2) (R.g 3))) })
noncomputable def con27d : Con := dCon 27 one1 (fun R xs => R.pg.size ≤ 1000000000 ∧ (ix4 xs 0 = 1 ∨ ix4 xs 0 = 2 ∨ ix4 xs 0 = 3)) (fun R xs => [B (callD R (ix4 xs 0)).1]) (fun R xs => (callD R (ix4 xs 0)).2)
theorem fit_take {R : Dw} (h : R.fit) : R.lc.take (R.m * 1) = R.lc ∧ R.ld.take (R.m * 1) = R.ld ∧ PL3 R.cl (R.lc.take (R.m * 1)) (R.ld.take (R.m * 1)) := by
  obtain ⟨h1, h2, h3, h4, h5, h6⟩ := h
  have e1 : R.lc.length = R.m := by rw [h3, ints_len]; exact h4
  have e2 : R.ld.length = R.m := by rw [h5, ints_len]; exact h6
  have t1 : R.lc.take (R.m * 1) = R.lc := List.take_of_length_le (by omega)
  have t2 : R.ld.take (R.m * 1) = R.ld := List.take_of_length_le (by omega)
  refine ⟨t1, t2, ?_⟩
  rw [t1, t2, h1, h3, h5]
  exact ⟨plain_insC _, plain_ints _, plain_ints _, trivial⟩
theorem kD_ok {R R' : Dw} {K : List Value → AHeap → Prop} {b : Bool} (h : R.fit) (e1 : R'.cl = R.cl) (e2 : R'.lc = R.lc) (e3 : R'.ld = R.ld) (e4 : R'.m = R.m) (hK : K [B b] (heapB G R'.bs)) : kD R'.n R'.cl R'.wr R'.pg R'.ky R'.f R'.g R'.pc R'.m R'.lc R'.ld R'.val R'.nx R'.code R'.en K b := by
  obtain ⟨t1, t2, t3⟩ := fit_take h
  refine ⟨by rw [e1, e2, e3, e4]; exact t3, ?_⟩
  rw [e2, e3, e4, t1, t2, ← e2, ← e3, ← e4]
  exact hK
theorem ok46d : ∀ c ∈ [con46d], c.ok Try.prog w0 := fun c hc => by
  simp only [List.mem_cons, List.not_mem_nil, or_false] at hc
  subst hc
  exact con46d_ok
set_option maxRecDepth 100000 in
set_option maxHeartbeats 4000000 in
theorem con27d_ok : con27d.ok Try.prog w0 := dCon_ok fun vs xs R e hR ⟨h1, h2⟩ => by
  obtain ⟨t, rfl, rfl⟩ := one1_eq e
  simp only [ix4, List.getD_cons_zero] at h2 ⊢
  have mk : ∀ {R' : Dw} {b : Bool}, R'.cl = R.cl → R'.lc = R.lc → R'.ld = R.ld → R'.m = R.m → callD R t = (b, R') → kD R'.n R'.cl R'.wr R'.pg R'.ky R'.f R'.g R'.pc R'.m R'.lc R'.ld R'.val R'.nx R'.code R'.en (fun rs' h' => rs' = [B (callD R t).1] ∧ h' = heapB Try.prog.globals.size (callD R t).2.bs) b :=
    fun e1 e2 e3 e4 e5 => kD_ok hR e1 e2 e3 e4 (by rw [e5]; exact ⟨rfl, rfl⟩)
  rcases h2 with rfl | rfl | rfl
  · refine ev_d (cs := [con46d]) Try.func27 (by kernel_rfl) ok46d ((eval27_1 R.n R.m R.pg R.ky R.val R.f R.g R.pc R.nx R.code R.en R.wr R.cl R.lc R.ld _).mpr ?_)
    refine ⟨⟨trivial, trivial, h1⟩, ?_⟩
    have q : callD R 1 = bif !r79b R.pg (R.g 2) (R.g 3) then (false, R) else bif decide (((r79a R.pg (R.g 2) (R.g 3)).size : Int) > 16) then (false, R) else (true, { R with g := upd R.g 0 (cmpS R.ky (r79a R.pg (R.g 2) (R.g 3))) }) := rfl
    refine bifP (fun c1 => mk (R' := R) rfl rfl rfl rfl (by rw [q, c1]; rfl)) (fun c1 => ?_)
    refine bifP (fun c2 => mk (R' := R) rfl rfl rfl rfl (by rw [q, c1, c2]; rfl)) (fun c2 => ?_)
    have q2 : callD R 1 = (true, { R with g := upd R.g 0 (cmpS R.ky (tk R.pg R.g)) }) := by rw [q, c1, c2]; rfl
    have hc : cmpS R.ky (tk R.pg R.g) = if Op.bytesLess R.ky.toList (tk R.pg R.g).toList then -1 else if !(Op.bytesLess R.ky.toList (tk R.pg R.g).toList || R.ky.toList == (tk R.pg R.g).toList) then 1 else 0 := by
      unfold cmpS
      rw [cmp_less, Lib.toList_data, Lib.toList_data]
    have fin : ∀ v, cmpS R.ky (tk R.pg R.g) = v → kD R.n R.cl R.wr R.pg R.ky R.f (upd R.g 0 v) R.pc R.m R.lc R.ld R.val R.nx R.code R.en (fun rs' h' => rs' = [B (callD R 1).1] ∧ h' = heapB Try.prog.globals.size (callD R 1).2.bs) true :=
      fun v hv => mk (R' := { R with g := upd R.g 0 v }) rfl rfl rfl rfl (by rw [q2, hv])
    refine bifP (fun c3 => ?_) (fun c3 => ?_)
    · refine bifP (fun c4 => ?_) (fun c4 => fin _ (by rw [hc, if_pos c3]))
      rw [c3] at c4; cases c4
    · refine bifP (fun c4 => fin _ (by rw [hc, if_neg (by rw [c3]; decide), if_pos c4])) (fun c4 => fin _ (by rw [hc, if_neg (by rw [c3]; decide), if_neg (by rw [c4]; decide)]))
  · refine ev_d (cs := [con46d]) Try.func27 (by kernel_rfl) ok46d ((eval27_2 R.n R.m R.pg R.ky R.val R.f R.g R.pc R.nx R.code R.en R.wr R.cl R.lc R.ld _).mpr ?_)
    refine ⟨⟨trivial, trivial, h1⟩, ?_⟩
    have q : callD R 2 = bif !r79b R.pg (R.g 2) (R.g 3) then (false, R) else bif decide (((r79a R.pg (R.g 2) (R.g 3)).size : Int) > 24) then (false, R) else (true, { R with val := r79a R.pg (R.g 2) (R.g 3) }) := rfl
    refine bifP (fun c1 => mk (R' := R) rfl rfl rfl rfl (by rw [q, c1]; rfl)) (fun c1 => ?_)
    refine bifP (fun c2 => mk (R' := R) rfl rfl rfl rfl (by rw [q, c1, c2]; rfl)) (fun c2 => ?_)
    exact mk (R' := { R with val := r79a R.pg (R.g 2) (R.g 3) }) rfl rfl rfl rfl (by rw [q, c1, c2]; rfl)
  · refine ev_d (cs := [con46d]) Try.func27 (by kernel_rfl) ok46d ((eval27_3 R.n R.m R.pg R.ky R.val R.f R.g R.pc R.nx R.code R.en R.wr R.cl R.lc R.ld _).mpr ?_)
    exact mk (R' := { R with nx := R.g 2 }) rfl rfl rfl rfl rfl
/-! look. -/
section
variable (n m : Nat) (pg ky val : ByteArray) (f g : Nat → Int) (pc nx code : Int) (en rw : Bool) (cl lc ld : List Value) (s imm : Int) (K : List Value → AHeap → Prop) (L : List Item → List AV → AHeap → Prop)
abbrev tl25 (n : Nat) (cl : List Value) (rw : Bool) (pg ky : ByteArray) (f g : Nat → Int) (pc : Int) (m : Nat) (lc ld : List Value) (val : ByteArray) (nx code : Int) (en : Bool) (K : List Value → AHeap → Prop) (s imm : Int) (d : Nat) (fs : ByteArray) (k : Int) : Prop :=
  bif decide (0 ≤ s) && decide (s < 8) then bif okI .i64 (dRd n m pg ky val f g pc nx code en s) then
    (True ∧ True ∧ fs.size ≤ 1000000000) ∧ bif r79b fs (w (intO (dRd n m pg ky val f g pc nx code en s) + imm)) k then
      (True ∧ True ∧ ((r79a fs (w (intO (dRd n m pg ky val f g pc nx code en s) + imm)) k).size = 1 ∨ (r79a fs (w (intO (dRd n m pg ky val f g pc nx code en s) + imm)) k).size = 2)) ∧
        kD n cl rw pg ky f (upd g d (r80 (r79a fs (w (intO (dRd n m pg ky val f g pc nx code en s) + imm)) k))) pc m lc ld val nx code en K (r79b fs (w (intO (dRd n m pg ky val f g pc nx code en s) + imm)) k)
    else kD n cl rw pg ky f g pc m lc ld val nx code en K (r79b fs (w (intO (dRd n m pg ky val f g pc nx code en s) + imm)) k) else False else False
def scF (f : Nat → Int) : ByteArray := ⟨((List.range 64).map fun i => UInt8.ofNat (f i).toNat).toArray⟩
theorem eval25_7 (d : Nat) (hd : d < 8) : evD Try.f25 [con46d, con47d] [PT G, AG [I 7, I d, I s, I imm]] (dK n cl rw pg ky f g pc m lc ld val nx code en) K = tl25 n cl rw pg ky f g pc m lc ld val nx code en K s imm d pg 1 := by
  rcases d with _ | _ | _ | _ | _ | _ | _ | _ | d
  case succ.succ.succ.succ.succ.succ.succ.succ => exfalso; omega
  all_goals kernel_rfl
theorem eval25_8 (d : Nat) (hd : d < 8) : evD Try.f25 [con46d, con47d] [PT G, AG [I 8, I d, I s, I imm]] (dK n cl rw pg ky f g pc m lc ld val nx code en) K = tl25 n cl rw pg ky f g pc m lc ld val nx code en K s imm d pg 2 := by
  rcases d with _ | _ | _ | _ | _ | _ | _ | _ | d
  case succ.succ.succ.succ.succ.succ.succ.succ => exfalso; omega
  all_goals kernel_rfl
theorem eval25_10 (d : Nat) (hd : d < 8) : evD Try.f25 [con46d, con47d] [PT G, AG [I 10, I d, I s, I imm]] (dK n cl rw pg ky f g pc m lc ld val nx code en) K = tl25 n cl rw pg ky f g pc m lc ld val nx code en K s imm d (scF f) 1 := by
  rcases d with _ | _ | _ | _ | _ | _ | _ | _ | d
  case succ.succ.succ.succ.succ.succ.succ.succ => exfalso; omega
  all_goals kernel_rfl
end

section
variable (n m : Nat) (pg ky val fs : ByteArray) (f g : Nat → Int) (pc nx code : Int) (en rw : Bool) (cl lc ld : List Value) (d0 s imm : Int) (K : List Value → AHeap → Prop) (L : List Item → List AV → AHeap → Prop)
noncomputable abbrev hpX (n : Nat) (cl : List Value) (rw : Bool) (pg ky : ByteArray) (f g : Nat → Int) (pc : Int) (m : Nat) (lc ld : List Value) (val : ByteArray) (nx code : Int) (en : Bool) (o d s i : Int) : List (Option ABlk) :=
  dK n cl rw pg ky f g pc m lc ld val nx code en ++ [some (.cells [I o, I d, I s, I i] true)]
abbrev PL4 (cl lc ld x : List Value) : Prop := PlainL cl ∧ PlainL lc ∧ PlainL ld ∧ PlainL x ∧ True
theorem startD25 : seg25d [con46d, con47d] K L [.code (Try.f25.body.getD .skip)] (startF Try.f25 [PT G, AG [I 9, I d0, I s, I imm]]) (heapB G (dK n cl rw pg ky f g pc m lc ld val nx code en))
    = (PL4 cl lc ld [I 9, I d0, I s, I imm] ∧ L todoD25 (frD25 ky 1) (heapB G (hpX n cl rw pg ky f g pc m lc ld val nx code en 9 d0 s imm))) := by kernel_rfl
theorem headD25 (d : Nat) (hd : d < 8) : seg25d [con46d, con47d] K L todoD25 (frD25 fs 1) (heapB G (hpX n cl rw pg ky f g pc m lc ld val nx code en 9 d s imm))
    = (bif decide ((fs.size : Int) < 16) then bif (fs.size + (ByteArray.mk #[0]).size).ble 1099511627776 then
        PL4 cl lc ld [I 9, I d, I s, I imm] ∧ L todoD25 (frD25 ⟨(fs.data.toList ++ [0]).toArray⟩ 1) (heapB G (hpX n cl rw pg ky f g pc m lc ld val nx code en 9 d s imm)) else False
      else tl25 n cl rw pg ky f g pc m lc ld val nx code en K s imm d fs 1) := by
  rcases d with _ | _ | _ | _ | _ | _ | _ | _ | d
  case succ.succ.succ.succ.succ.succ.succ.succ => exfalso; omega
  all_goals kernel_rfl
end
def srcD (R : Dw) (op : Int) : ByteArray := bif op == 9 then kyF R.ky else bif op == 10 then scF R.f else R.pg
def lookD (R : Dw) (op : Int) (d s : Nat) (imm : Int) : Bool × Dw := bif r79b (srcD R op) (w (R.g s + imm)) (szM op) then (true, { R with g := upd R.g d (r80 (r79a (srcD R op) (w (R.g s + imm)) (szM op))) }) else (false, R)
theorem tl25_ok {R : Dw} {op imm : Int} {d s : Nat} {K : List Value → AHeap → Prop} {k : Int} {fs : ByteArray} (hR : R.fit) (hs : s < 8) (hf : fs.size ≤ 1000000000) (e1 : srcD R op = fs) (e2 : szM op = k) (hk : k = 1 ∨ k = 2)
    (hK : K [B (lookD R op d s imm).1] (heapB G (lookD R op d s imm).2.bs)) : tl25 R.n R.cl R.wr R.pg R.ky R.f R.g R.pc R.m R.lc R.ld R.val R.nx R.code R.en K (s : Int) imm d fs k := by
  obtain ⟨r1, r2⟩ := d_rd (n := R.n) (m := R.m) (pg := R.pg) (ky := R.ky) (val := R.val) (f := R.f) (g := R.g) (pc := R.pc) (nx := R.nx) (code := R.code) (en := R.en) (d := (s : Int)) (by omega) (by omega)
  rw [Int.toNat_natCast] at r2
  unfold lookD at hK
  rw [e1, e2] at hK
  unfold tl25
  rw [decide_eq_true (show (0 : Int) ≤ (s : Int) by omega), decide_eq_true (show (s : Int) < 8 by omega), r1, r2]
  refine ⟨⟨trivial, trivial, hf⟩, ?_⟩
  cases c : r79b fs (w (R.g s + imm)) k with
  | true =>
    rw [c, cond_true] at hK
    have hz := r79_size hf c
    refine ⟨⟨trivial, trivial, ?_⟩, kD_ok (R' := { R with g := upd R.g d (r80 (r79a fs (w (R.g s + imm)) k)) }) hR rfl rfl rfl rfl hK⟩
    rw [hz]; omega
  | false =>
    rw [c, cond_false] at hK
    exact kD_ok (R' := R) hR rfl rfl rfl rfl hK
abbrev SemL (w0 : World) (K : List Value → AHeap → Prop) (t : List Item) (fr : List AV) (h : AHeap) : Prop := Agm.Sem Try.prog w0 (Try.prog.globals.size + ntE.flags.length) Try.f25 (retT G ntE K) t fr h
theorem leaf25d {K : List Value → AHeap → Prop} : ∀ t fr h, (match t with
    | .code (.region 6 _ _) :: _ => canonT G ntD25 (SemL w0 K t) fr h
    | _ => False) → SemL w0 K t fr h := by
  intro t fr h e
  split at e
  · exact canonT_semN (nt := ntD25) rfl e
  · exact e.elim
theorem ok25d : ∀ c ∈ [con46d, con47d], c.ok Try.prog w0 := fun c hc => by
  simp only [List.mem_cons, List.not_mem_nil, or_false] at hc
  rcases hc with rfl | rfl
  · exact con46d_ok
  · exact con47d_ok
theorem plain4 (a b c d : Int) : PlainL [I a, I b, I c, I d] := by
  intro x hx
  simp only [List.mem_cons, List.not_mem_nil, or_false] at hx
  rcases hx with rfl | rfl | rfl | rfl <;> rfl
theorem fit_pl {R : Dw} (h : R.fit) : PL3 R.cl R.lc R.ld := by
  obtain ⟨t1, t2, t3⟩ := fit_take h
  rw [t1, t2] at t3; exact t3
def padL (b : List UInt8) : List UInt8 := b ++ List.replicate (16 - b.length) 0
set_option maxRecDepth 100000 in
theorem loop25 {K : List Value → AHeap → Prop} {R : Dw} {d s : Nat} {imm : Int} (hR : R.fit) (hd : d < 8) (hs : s < 8) (hK : K [B (lookD R 9 d s imm).1] (heapB G (lookD R 9 d s imm).2.bs)) : ∀ (k : Nat) (b : List UInt8), 16 - b.length < k → b.length ≤ 16 → kyF R.ky = ⟨(padL b).toArray⟩ →
    SemL w0 K todoD25 (frD25 ⟨b.toArray⟩ 1) (heapB G (hpX R.n R.cl R.wr R.pg R.ky R.f R.g R.pc R.m R.lc R.ld R.val R.nx R.code R.en 9 d s imm)) := by
  intro k
  induction k with
  | zero => intro b h; omega
  | succ k ih =>
    intro b h1 h2 h3
    refine seg_semI3 (F := ftD25) mixed (callsOf_ok ok25d) leaf25d [6] 20 400 ((headD25 R.n R.m R.pg R.ky R.val ⟨b.toArray⟩ R.f R.g R.pc R.nx R.code R.en R.wr R.cl R.lc R.ld s imm K _ d hd).mpr ?_)
    have hsz : (ByteArray.mk b.toArray).size = b.length := size_mk b
    obtain ⟨p1, p2, p3, _⟩ := fit_pl hR
    refine bifP (fun c => ?_) (fun c => ?_)
    · simp only [decide_eq_true_eq] at c
      have hb : ((ByteArray.mk b.toArray).size + (ByteArray.mk #[0]).size).ble 1099511627776 = true := Nat.ble_eq_true_of_le (by rw [hsz]; show b.length + 1 ≤ _; omega)
      rw [hb, cond_true]
      refine ⟨⟨p1, p2, p3, plain4 _ _ _ _, trivial⟩, ?_⟩
      have e : (ByteArray.mk b.toArray).data.toList ++ [0] = b ++ [0] := by simp
      rw [e]
      refine ih (b ++ [0]) (by rw [List.length_append]; simp; omega) (by rw [List.length_append]; simp; omega) ?_
      rw [h3]
      congr 2
      unfold padL
      rw [List.append_assoc, List.length_append]
      congr 1
      rw [show 16 - b.length = (16 - (b.length + [(0 : UInt8)].length)) + 1 by simp; omega, List.replicate_succ]; rfl
    · simp only [decide_eq_false_iff_not] at c
      have e : padL b = b := by
        unfold padL
        rw [show 16 - b.length = 0 by omega]; simp
      rw [e] at h3
      exact tl25_ok (op := 9) hR hs (by omega) (by rw [← h3]; rfl) rfl (.inl rfl) hK
noncomputable def con25d : Con := dCon 25 insV (fun R xs => (ix4 xs 0 = 7 ∨ ix4 xs 0 = 8 ∨ ix4 xs 0 = 9 ∨ ix4 xs 0 = 10) ∧ (0 ≤ ix4 xs 1 ∧ ix4 xs 1 < 8 ∧ 0 ≤ ix4 xs 2 ∧ ix4 xs 2 < 8) ∧ R.pg.size ≤ 1000000000 ∧ R.ky.size ≤ 16)
  (fun R xs => [B (lookD R (ix4 xs 0) (ix4 xs 1).toNat (ix4 xs 2).toNat (ix4 xs 3)).1]) (fun R xs => (lookD R (ix4 xs 0) (ix4 xs 1).toNat (ix4 xs 2).toNat (ix4 xs 3)).2)
theorem kyF_pad {ky : ByteArray} (h : ky.size ≤ 16) : kyF ky = ⟨(padL ky.data.toList).toArray⟩ := by
  have hl : ky.data.toList.length = ky.size := sz_list ky
  have e1 : w (16 - (ky.size : Int)) = 16 - (ky.size : Int) := w_id (by omega) (by omega)
  unfold kyF padL repS
  rw [e1, hl]
  congr 3
  have e2 : (16 - (ky.size : Int)).toNat = 16 - ky.size := by omega
  rw [e2]
  have := Lib.repeatL_replicate (0 : UInt8) 1 (16 - ky.size)
  rw [Nat.mul_one] at this
  exact this
theorem scF_size (f : Nat → Int) : (scF f).size = 64 := by
  unfold scF
  rw [size_mk, List.length_map, List.length_range]
set_option maxRecDepth 100000 in
set_option maxHeartbeats 4000000 in
theorem con25d_ok : con25d.ok Try.prog w0 := dCon_ok fun vs xs R e hR ⟨h1, ⟨a1, a2, a3, a4⟩, b1, b2⟩ => by
  obtain ⟨op, d, s, imm, rfl, rfl⟩ := insV_eq e
  simp only [ix4, List.getD_cons_zero, List.getD_cons_succ] at h1 a1 a2 a3 a4 ⊢
  obtain ⟨d, rfl⟩ := Int.eq_ofNat_of_zero_le a1
  obtain ⟨s, rfl⟩ := Int.eq_ofNat_of_zero_le a3
  rw [Int.toNat_natCast, Int.toNat_natCast]
  have hd : d < 8 := by omega
  have hs : s < 8 := by omega
  rcases h1 with rfl | rfl | rfl | rfl
  · refine ev_d (cs := [con46d, con47d]) Try.func25 (by kernel_rfl) ok25d ((eval25_7 R.n R.m R.pg R.ky R.val R.f R.g R.pc R.nx R.code R.en R.wr R.cl R.lc R.ld s imm _ d hd).mpr ?_)
    exact tl25_ok (op := 7) hR hs b1 rfl rfl (.inl rfl) ⟨rfl, rfl⟩
  · refine ev_d (cs := [con46d, con47d]) Try.func25 (by kernel_rfl) ok25d ((eval25_8 R.n R.m R.pg R.ky R.val R.f R.g R.pc R.nx R.code R.en R.wr R.cl R.lc R.ld s imm _ d hd).mpr ?_)
    exact tl25_ok (op := 8) hR hs b1 rfl rfl (.inr rfl) ⟨rfl, rfl⟩
  · have hn : (heapB Try.prog.globals.size R.bs).next = Try.prog.globals.size + ntE.flags.length := by rw [heapB_next]; rfl
    refine retT_call (nt := ntE) hn (call_sem (cd := Try.f25.body.getD .skip) Try.func25 (by kernel_rfl) ?_)
    rw [hn]
    refine seg_semI3 (F := ftD25) mixed (callsOf_ok ok25d) leaf25d [6] 20 400 ((startD25 R.n R.m R.pg R.ky R.val R.f R.g R.pc R.nx R.code R.en R.wr R.cl R.lc R.ld d s imm _ _).mpr ?_)
    obtain ⟨p1, p2, p3, _⟩ := fit_pl hR
    refine ⟨⟨p1, p2, p3, plain4 _ _ _ _, trivial⟩, ?_⟩
    have := loop25 (w0 := w0) (K := fun rs' h' => rs' = [B (lookD R 9 d s imm).1] ∧ h' = heapB G (lookD R 9 d s imm).2.bs) (imm := imm) hR hd hs ⟨rfl, rfl⟩ 17 R.ky.data.toList (by omega) (by rw [sz_list]; exact b2) (kyF_pad b2)
    exact this
  · refine ev_d (cs := [con46d, con47d]) Try.func25 (by kernel_rfl) ok25d ((eval25_10 R.n R.m R.pg R.ky R.val R.f R.g R.pc R.nx R.code R.en R.wr R.cl R.lc R.ld s imm _ d hd).mpr ?_)
    exact tl25_ok (op := 10) hR hs (by rw [scF_size]; omega) rfl rfl (.inl rfl) ⟨rfl, rfl⟩

section
variable (n : Nat) (pg ky val : ByteArray) (f g : Nat → Int) (pc nx code : Int) (en rw : Bool) (cl : List Value) (a b c a' b' c' t : Int) (K : List Value → AHeap → Prop)
abbrev jE (n : Nat) (cl : List Value) (t a : Int) : Prop := (PlainL cl ∧ True) ∧ (PlainL cl ∧ True) ∧ cl = insC (unIns cl) ∧ (unIns cl).length = n ∧ n < 1000000000 ∧ 0 ≤ a ∧ a < t ∧ t ≤ (n : Int)
abbrev j0 (n : Nat) (cl : List Value) (rw : Bool) (pg ky : ByteArray) (f g : Nat → Int) (val : ByteArray) (nx code : Int) (en : Bool) (K : List Value → AHeap → Prop) (t : Int) : Prop :=
  kD n cl rw pg ky f g (w (t - 1)) 0 [] [] val nx code en K true
abbrev j1 (n : Nat) (cl : List Value) (rw : Bool) (pg ky : ByteArray) (f g : Nat → Int) (val : ByteArray) (nx code : Int) (en : Bool) (K : List Value → AHeap → Prop) (t : Int) (a a' : Int) : Prop :=
  jE n cl t a ∧ bif !inM (unIns cl) a t then j0 n cl rw pg ky f g val nx code en K t else kD n cl rw pg ky f g (w (t - 1)) 1 [I a] [I a'] val nx code en K true
abbrev j2 (n : Nat) (cl : List Value) (rw : Bool) (pg ky : ByteArray) (f g : Nat → Int) (val : ByteArray) (nx code : Int) (en : Bool) (K : List Value → AHeap → Prop) (t : Int) (a a' b b' : Int) : Prop :=
  jE n cl t b ∧ bif !inM (unIns cl) b t then j1 n cl rw pg ky f g val nx code en K t a a' else kD n cl rw pg ky f g (w (t - 1)) 2 [I a, I b] [I a', I b'] val nx code en K true
abbrev j3 (n : Nat) (cl : List Value) (rw : Bool) (pg ky : ByteArray) (f g : Nat → Int) (val : ByteArray) (nx code : Int) (en : Bool) (K : List Value → AHeap → Prop) (t : Int) (a a' b b' c c' : Int) : Prop :=
  jE n cl t c ∧ bif !inM (unIns cl) c t then j2 n cl rw pg ky f g val nx code en K t a a' b b' else kD n cl rw pg ky f g (w (t - 1)) 3 [I a, I b, I c] [I a', I b', I c'] val nx code en K true
theorem eval26_0 : evD Try.f26 [con48d] [PT G, I t] (dK n cl rw pg ky f g pc 0 [] [] val nx code en) K
    = (bif decide (t ≤ pc) then kD n cl rw pg ky f g pc 0 [] [] val nx code en K false else bif decide (t ≥ (n : Int)) then kD n cl rw pg ky f g pc 0 [] [] val nx code en K false else j0 n cl rw pg ky f g val nx code en K t) := by kernel_rfl
theorem eval26_1 : evD Try.f26 [con48d] [PT G, I t] (dK n cl rw pg ky f g pc 1 [I a] [I a'] val nx code en) K
    = (bif decide (t ≤ pc) then kD n cl rw pg ky f g pc 1 [I a] [I a'] val nx code en K false else bif decide (t ≥ (n : Int)) then kD n cl rw pg ky f g pc 1 [I a] [I a'] val nx code en K false else j1 n cl rw pg ky f g val nx code en K t a a') := by kernel_rfl
theorem eval26_2 : evD Try.f26 [con48d] [PT G, I t] (dK n cl rw pg ky f g pc 2 [I a, I b] [I a', I b'] val nx code en) K
    = (bif decide (t ≤ pc) then kD n cl rw pg ky f g pc 2 [I a, I b] [I a', I b'] val nx code en K false else bif decide (t ≥ (n : Int)) then kD n cl rw pg ky f g pc 2 [I a, I b] [I a', I b'] val nx code en K false else j2 n cl rw pg ky f g val nx code en K t a a' b b') := by kernel_rfl
theorem eval26_3 : evD Try.f26 [con48d] [PT G, I t] (dK n cl rw pg ky f g pc 3 [I a, I b, I c] [I a', I b', I c'] val nx code en) K
    = (bif decide (t ≤ pc) then kD n cl rw pg ky f g pc 3 [I a, I b, I c] [I a', I b', I c'] val nx code en K false else bif decide (t ≥ (n : Int)) then kD n cl rw pg ky f g pc 3 [I a, I b, I c] [I a', I b', I c'] val nx code en K false else j3 n cl rw pg ky f g val nx code en K t a a' b b' c c') := by kernel_rfl
end

def loD (R : Dw) : List (Int × Int) := (unI R.lc).zip (unI R.ld)
def withLo (R : Dw) (lo : List (Int × Int)) : Dw := { R with m := lo.length, lc := ints (lo.map (·.1)), ld := ints (lo.map (·.2)) }
def jumpD (R : Dw) (t : Int) : Bool × Dw := bif decide (t ≤ R.pc) then (false, R) else bif decide (t ≥ (R.n : Int)) then (false, R) else
  (true, withLo { R with pc := w (t - 1) } (leaveM (unIns R.cl) t (loD R)))
noncomputable def con26d : Con := dCon 26 one1 (fun R _ => R.m ≤ 3 ∧ R.n < 1000000000 ∧ ∀ o ∈ loD R, 0 ≤ o.1 ∧ o.1 ≤ R.pc) (fun R xs => [B (jumpD R (ix4 xs 0)).1]) (fun R xs => (jumpD R (ix4 xs 0)).2)
theorem leave0 (l : List Ins) (t : Int) : leaveM l t [] = [] := rfl
theorem leave1 (l : List Ins) (t a a' : Int) : leaveM l t [(a, a')] = bif !inM l a t then [] else [(a, a')] := by
  show (bif !inM l a t then leaveL l t 1 [] else [(a, a')]) = _
  rfl
theorem leave2 (l : List Ins) (t a a' b b' : Int) : leaveM l t [(a, a'), (b, b')] = bif !inM l b t then (bif !inM l a t then [] else [(a, a')]) else [(a, a'), (b, b')] := by
  show (bif !inM l b t then leaveL l t 2 [(a, a')] else [(a, a'), (b, b')]) = _
  rfl
theorem leave3 (l : List Ins) (t a a' b b' c c' : Int) : leaveM l t [(a, a'), (b, b'), (c, c')] = bif !inM l c t then (bif !inM l b t then (bif !inM l a t then [] else [(a, a')]) else [(a, a'), (b, b')]) else [(a, a'), (b, b'), (c, c')] := by
  show (bif !inM l c t then leaveL l t 3 [(a, a'), (b, b')] else [(a, a'), (b, b'), (c, c')]) = _
  rfl
theorem ok26d : ∀ c ∈ [con48d], c.ok Try.prog w0 := fun c hc => by
  simp only [List.mem_cons, List.not_mem_nil, or_false] at hc
  subst hc
  exact con48d_ok
section
variable {n m : Nat} {pg ky val : ByteArray} {f g : Nat → Int} {pc nx code t : Int} {en rw : Bool} {l : List Ins} {K : List Value → AHeap → Prop}
theorem kL {lc ld : List Int} {b : Bool} (h1 : lc.length = m) (h2 : ld.length = m) (hK : K [B b] (heapB G (dK l.length (insC l) rw pg ky f g pc m (ints lc) (ints ld) val nx code en))) :
    kD l.length (insC l) rw pg ky f g pc m (ints lc) (ints ld) val nx code en K b := by
  have t1 : (ints lc).take (m * 1) = ints lc := List.take_of_length_le (by rw [ints_len]; omega)
  have t2 : (ints ld).take (m * 1) = ints ld := List.take_of_length_le (by rw [ints_len]; omega)
  refine ⟨?_, ?_⟩
  · rw [t1, t2]; exact ⟨plain_insC _, plain_ints _, plain_ints _, trivial⟩
  · rw [t1, t2]; exact hK
abbrev kk (n : Nat) (cl : List Value) (rw : Bool) (pg ky : ByteArray) (f g : Nat → Int) (val : ByteArray) (nx code : Int) (en : Bool) (K : List Value → AHeap → Prop) (t : Int) (lo : List (Int × Int)) : Prop :=
  K [B true] (heapB G (dK n cl rw pg ky f g (w (t - 1)) lo.length (ints (lo.map (·.1))) (ints (lo.map (·.2))) val nx code en))
theorem jE_ok (hn : l.length < 1000000000) {a : Int} (h0 : 0 ≤ a) (h1 : a < t) (h2 : t ≤ (l.length : Int)) : jE l.length (insC l) t a :=
  ⟨⟨plain_insC _, trivial⟩, ⟨plain_insC _, trivial⟩, by rw [unIns_insC], by rw [unIns_insC], hn, h0, h1, h2⟩
theorem j0_ok (hK : kk l.length (insC l) rw pg ky f g val nx code en K t []) : j0 l.length (insC l) rw pg ky f g val nx code en K t := kL (lc := []) (ld := []) rfl rfl hK
theorem j1_ok (hn : l.length < 1000000000) (h2 : t ≤ (l.length : Int)) {a a' : Int} (ha : 0 ≤ a ∧ a < t) (hK : kk l.length (insC l) rw pg ky f g val nx code en K t (leaveM l t [(a, a')])) : j1 l.length (insC l) rw pg ky f g val nx code en K t a a' := by
  refine ⟨jE_ok hn ha.1 ha.2 h2, ?_⟩
  rw [leave1] at hK
  rw [unIns_insC]
  refine bifP (fun c => ?_) (fun c => ?_)
  · rw [c] at hK; exact j0_ok hK
  · rw [c] at hK; exact kL (lc := [a]) (ld := [a']) rfl rfl hK
theorem j2_ok (hn : l.length < 1000000000) (h2 : t ≤ (l.length : Int)) {a a' b b' : Int} (ha : 0 ≤ a ∧ a < t) (hb : 0 ≤ b ∧ b < t) (hK : kk l.length (insC l) rw pg ky f g val nx code en K t (leaveM l t [(a, a'), (b, b')])) : j2 l.length (insC l) rw pg ky f g val nx code en K t a a' b b' := by
  refine ⟨jE_ok hn hb.1 hb.2 h2, ?_⟩
  rw [leave2, ← leave1] at hK
  rw [unIns_insC]
  refine bifP (fun c => ?_) (fun c => ?_)
  · rw [c] at hK; exact j1_ok hn h2 ha hK
  · rw [c] at hK; exact kL (lc := [a, b]) (ld := [a', b']) rfl rfl hK
theorem j3_ok (hn : l.length < 1000000000) (h2 : t ≤ (l.length : Int)) {a a' b b' c c' : Int} (ha : 0 ≤ a ∧ a < t) (hb : 0 ≤ b ∧ b < t) (hc : 0 ≤ c ∧ c < t) (hK : kk l.length (insC l) rw pg ky f g val nx code en K t (leaveM l t [(a, a'), (b, b'), (c, c')])) : j3 l.length (insC l) rw pg ky f g val nx code en K t a a' b b' c c' := by
  refine ⟨jE_ok hn hc.1 hc.2 h2, ?_⟩
  rw [leave3, ← leave2] at hK
  rw [unIns_insC]
  refine bifP (fun e => ?_) (fun e => ?_)
  · rw [e] at hK; exact j2_ok hn h2 ha hb hK
  · rw [e] at hK; exact kL (lc := [a, b, c]) (ld := [a', b', c']) rfl rfl hK
end
set_option maxRecDepth 100000 in
set_option maxHeartbeats 4000000 in
theorem con26d_ok : con26d.ok Try.prog w0 := dCon_ok fun vs xs R e hR ⟨h1, h2, h3⟩ => by
  obtain ⟨t, rfl, rfl⟩ := one1_eq e
  simp only [ix4, List.getD_cons_zero]
  obtain ⟨n, m, wr, pg, ky, val, f, g, pc, nx, code, en, cl, lc, ld⟩ := R
  obtain ⟨f1, f2, f3, f4, f5, f6⟩ := hR
  unfold loD at h3
  simp only at h1 h2 h3 f1 f2 f3 f4 f5 f6
  have jd : jumpD ⟨n, m, wr, pg, ky, val, f, g, pc, nx, code, en, cl, lc, ld⟩ t = bif decide (t ≤ pc) then (false, ⟨n, m, wr, pg, ky, val, f, g, pc, nx, code, en, cl, lc, ld⟩) else bif decide (t ≥ (n : Int)) then (false, ⟨n, m, wr, pg, ky, val, f, g, pc, nx, code, en, cl, lc, ld⟩) else
    (true, withLo ⟨n, m, wr, pg, ky, val, f, g, w (t - 1), nx, code, en, cl, lc, ld⟩ (leaveM (unIns cl) t ((unI lc).zip (unI ld)))) := rfl
  generalize unIns cl = l at f1 f2 jd
  generalize unI lc = l1 at h3 f3 f4 jd
  generalize unI ld = l2 at h3 f5 f6 jd
  subst f1 f2 f3 f5
  have bad : ∀ {b : Bool} {R' : Dw}, jumpD ⟨l.length, m, wr, pg, ky, val, f, g, pc, nx, code, en, insC l, ints l1, ints l2⟩ t = (b, R') → R' = ⟨l.length, m, wr, pg, ky, val, f, g, pc, nx, code, en, insC l, ints l1, ints l2⟩ →
      kD l.length (insC l) wr pg ky f g pc m (ints l1) (ints l2) val nx code en (fun rs' h' => rs' = [B (jumpD ⟨l.length, m, wr, pg, ky, val, f, g, pc, nx, code, en, insC l, ints l1, ints l2⟩ t).1] ∧ h' = heapB Try.prog.globals.size (jumpD ⟨l.length, m, wr, pg, ky, val, f, g, pc, nx, code, en, insC l, ints l1, ints l2⟩ t).2.bs) b := by
    intro b R' e1 e2
    refine kL f4 f6 ?_
    rw [e1, e2]
    exact ⟨rfl, rfl⟩
  have good : ∀ (hlo : decide (t ≤ pc) = false) (hhi : decide (t ≥ (l.length : Int)) = false), kk l.length (insC l) wr pg ky f g val nx code en (fun rs' h' => rs' = [B (jumpD ⟨l.length, m, wr, pg, ky, val, f, g, pc, nx, code, en, insC l, ints l1, ints l2⟩ t).1] ∧ h' = heapB Try.prog.globals.size (jumpD ⟨l.length, m, wr, pg, ky, val, f, g, pc, nx, code, en, insC l, ints l1, ints l2⟩ t).2.bs) t (leaveM l t (l1.zip l2)) := by
    intro hlo hhi
    rw [jd, hlo, hhi]
    exact ⟨rfl, rfl⟩
  have hlt : ∀ {a a' : Int}, decide (t ≤ pc) = false → (a, a') ∈ l1.zip l2 → 0 ≤ a ∧ a < t := by
    intro a a' hlo hm
    simp only [decide_eq_false_iff_not] at hlo
    have := h3 _ hm
    simp only at this
    omega
  match l1, l2, f4, f6 with
  | [], [], e1, _ =>
    subst e1
    refine ev_d (R := ⟨l.length, 0, wr, pg, ky, val, f, g, pc, nx, code, en, insC l, [], []⟩) (cs := [con48d]) Try.func26 (by kernel_rfl) ok26d ((eval26_0 l.length pg ky val f g pc nx code en wr (insC l) t _).mpr ?_)
    refine bifP (fun c1 => bad (by rw [jd, c1]; rfl) rfl) (fun c1 => bifP (fun c2 => bad (by rw [jd, c1, c2]; rfl) rfl) (fun c2 => ?_))
    exact j0_ok (good c1 c2)
  | [a], [a'], e1, _ =>
    subst e1
    refine ev_d (R := ⟨l.length, 1, wr, pg, ky, val, f, g, pc, nx, code, en, insC l, [I a], [I a']⟩) (cs := [con48d]) Try.func26 (by kernel_rfl) ok26d ((eval26_1 l.length pg ky val f g pc nx code en wr (insC l) a a' t _).mpr ?_)
    refine bifP (fun c1 => bad (by rw [jd, c1]; rfl) rfl) (fun c1 => bifP (fun c2 => bad (by rw [jd, c1, c2]; rfl) rfl) (fun c2 => ?_))
    exact j1_ok h2 (by simp only [decide_eq_false_iff_not] at c2; omega) (hlt c1 (by simp : (a, a') ∈ _)) (good c1 c2)
  | [a, b], [a', b'], e1, _ =>
    subst e1
    refine ev_d (R := ⟨l.length, 2, wr, pg, ky, val, f, g, pc, nx, code, en, insC l, [I a, I b], [I a', I b']⟩) (cs := [con48d]) Try.func26 (by kernel_rfl) ok26d ((eval26_2 l.length pg ky val f g pc nx code en wr (insC l) a b a' b' t _).mpr ?_)
    refine bifP (fun c1 => bad (by rw [jd, c1]; rfl) rfl) (fun c1 => bifP (fun c2 => bad (by rw [jd, c1, c2]; rfl) rfl) (fun c2 => ?_))
    exact j2_ok h2 (by simp only [decide_eq_false_iff_not] at c2; omega) (hlt c1 (by simp : (a, a') ∈ _)) (hlt c1 (by simp : (b, b') ∈ _)) (good c1 c2)
  | [a, b, c], [a', b', c'], e1, _ =>
    subst e1
    refine ev_d (R := ⟨l.length, 3, wr, pg, ky, val, f, g, pc, nx, code, en, insC l, [I a, I b, I c], [I a', I b', I c']⟩) (cs := [con48d]) Try.func26 (by kernel_rfl) ok26d ((eval26_3 l.length pg ky val f g pc nx code en wr (insC l) a b c a' b' c' t _).mpr ?_)
    refine bifP (fun c1 => bad (by rw [jd, c1]; rfl) rfl) (fun c1 => bifP (fun c2 => bad (by rw [jd, c1, c2]; rfl) rfl) (fun c2 => ?_))
    exact j3_ok h2 (by simp only [decide_eq_false_iff_not] at c2; omega) (hlt c1 (by simp : (a, a') ∈ _)) (hlt c1 (by simp : (b, b') ∈ _)) (hlt c1 (by simp : (c, c') ∈ _)) (good c1 c2)
  | _ :: _ :: _ :: _ :: _, _, e1, _ => exfalso; simp at e1; omega
  | [], _ :: _, e1, e2 => exfalso; simp at e1 e2; omega
  | [_], [], e1, e2 => exfalso; simp at e1 e2; omega
  | [_], _ :: _ :: _, e1, e2 => exfalso; simp at e1 e2; omega
  | [_, _], [], e1, e2 => exfalso; simp at e1 e2; omega
  | [_, _], [_], e1, e2 => exfalso; simp at e1 e2; omega
  | [_, _], _ :: _ :: _ :: _, e1, e2 => exfalso; simp at e1 e2; omega
  | [_, _, _], [], e1, e2 => exfalso; simp at e1 e2; omega
  | [_, _, _], [_], e1, e2 => exfalso; simp at e1 e2; omega
  | [_, _, _], [_, _], e1, e2 => exfalso; simp at e1 e2; omega
  | [_, _, _], _ :: _ :: _ :: _ :: _, e1, e2 => exfalso; simp at e1 e2; omega
end Go.Proofs.Ytadaindmgmielaa
