/- run.Program as a contract with given answers; words for its laws. No condition. -/
import Derived.Test.YtadaindmgmielaaDoorRb
import Derived.Test.YtadaindmgmielaaDoorKasc
namespace Go.Proofs.YtadaindmgmielaaDoor
open Go.Agm
variable {w0 : World}
/-- A scratch's cells, one by one. -/
def lit64 (sc : List UInt8) : List Value := (List.range 64).map fun i => .int .u8 ((sc.getD i 0).toNat : Int)
theorem lit64_eq {sc : List UInt8} (h : sc.length = 64) : lit64 sc = bytC sc := by
  unfold lit64 bytC
  apply List.ext_getElem
  · simp [h]
  · intro i h1 h2
    rw [List.getElem_map, List.getElem_map, List.getElem_range]
    have : i < sc.length := by simpa using h2
    rw [List.getD_eq_getElem?_getD, List.getElem?_eq_getElem this]; rfl
/-- How a run ends: the error's number (none: it ends well), what it answers, the scratch. -/
structure End where
  e : Option Int
  code : Int
  val : ByteArray
  nx : Int
  st : Int
  sc : List UInt8
def endOf (r : Int × Mc × Int) : End := bif r.1 == 0 then { e := none, code := r.2.1.code, val := r.2.1.val, nx := r.2.1.nx, st := r.2.1.st, sc := r.2.1.sc } else { e := some r.1, code := 0, val := ⟨#[]⟩, nx := 0, st := r.2.2, sc := r.2.1.sc }
def errV (e : Option Int) : Value := match e with
  | none => .nilIface
  | some e => .iface 77 (I e)
theorem ansR_end (r : Int × Mc × Int) : ansR r = [AG [I (endOf r).code, .string (endOf r).val, I (endOf r).nx, I (endOf r).st], errV (endOf r).e] := by
  unfold ansR endOf
  cases r.1 == 0 <;> rfl
theorem end_sc (r : Int × Mc × Int) : (endOf r).sc = r.2.1.sc := by
  unfold endOf
  cases r.1 == 0 <;> rfl
/-- run.Program, where it ends as told. -/
noncomputable def con19 (E : End) : Con := { f := 19, gh := [⟨0, none, 4⟩], paths := [⟨0, [], true⟩, ⟨3, [], true⟩], spec := fun args bs => match args, bs with
  | [s, .string pg, .string ky, p, vf], [some (.cells cl rw), some (.cells cs true)] => match slN s 0 4, intV vf with
    | some n, some fuel => bif isPtr p 1 then some ((cl = insC (unIns cl) ∧ (unIns cl).length = n ∧ n < 1000000000 ∧ pg.size = 512 ∧ 0 < ky.size ∧ ky.size ≤ 16 ∧ fuel < 1000000000) ∧ (cs = bytC (unB cs) ∧ (unB cs).length = 64) ∧ endOf (runP (unIns cl) pg ky (unB cs) fuel) = E,
        [AG [I E.code, .string E.val, I E.nx, I E.st], errV E.e], [(true, some (.cells cl rw)), (true, some (.cells (lit64 E.sc) true))]) else none
    | _, _ => none
  | _, _ => none }
theorem runF_sc {fuel : Int} : ∀ (f : Nat) (M : Mc) (steps : Int), Inv M → (runF fuel f M steps).2.1.sc.length = 64 ∧ (runF fuel f M steps).2.1.l = M.l := by
  intro f
  induction f with
  | zero => intro M steps hI; exact ⟨hI.sc, rfl⟩
  | succ f ih =>
    intro M steps hI
    rw [runF]
    refine bifB (P := fun r : Int × Mc × Int => r.2.1.sc.length = 64 ∧ r.2.1.l = M.l) (fun _ => ⟨hI.sc, rfl⟩) (fun _ => ?_)
    cases h1 : decide (M.pc ≥ (M.l.length : Int)) with
    | true => exact ⟨hI.sc, rfl⟩
    | false =>
      rw [cond_false]
      refine bifB (P := fun r : Int × Mc × Int => r.2.1.sc.length = 64 ∧ r.2.1.l = M.l) (fun _ => ⟨hI.sc, rfl⟩) (fun _ => ?_)
      have hlt : M.pc < (M.l.length : Int) := by simp only [decide_eq_false_iff_not] at h1; omega
      have hk : (stepM M).1 = true → Kept M (stepM M).2 := by
        unfold stepM
        cases hr : right (insN M) with
        | false => intro h; cases h
        | true => intro h; exact stepX_kept hI hlt h
      cases hs : (stepM M).1 with
      | true =>
        obtain ⟨hI', _⟩ := (hk hs).inv hI steps
        have := ih (nextM (stepM M).2 steps) (w (steps + 1)) hI'
        exact ⟨this.1, this.2.trans (hk hs).al.1⟩
      | false =>
        rw [cond_false]
        have hsc : (stepM M).2.sc.length = 64 ∧ (stepM M).2.l = M.l := by
          unfold stepM
          refine bifB (P := fun r : Bool × Mc => r.2.sc.length = 64 ∧ r.2.l = M.l) (fun _ => ⟨hI.sc, rfl⟩) (fun _ => ?_)
          unfold stepX
          refine bifB (P := fun r : Bool × Mc => r.2.sc.length = 64 ∧ r.2.l = M.l) (fun _ => ⟨hI.sc, rfl⟩) (fun _ => ?_)
          have hb : ∀ {c : Bool} {x y : Bool × Mc}, (x.2.sc.length = 64 ∧ x.2.l = M.l) → (y.2.sc.length = 64 ∧ y.2.l = M.l) → ((bif c then x else y).2.sc.length = 64 ∧ (bif c then x else y).2.l = M.l) := by
            intro c x y h1 h2; cases c
            · exact h2
            · exact h1
          have h0 : M.sc.length = 64 ∧ M.l = M.l := ⟨hI.sc, rfl⟩
          have hjm : ∀ t, (jumpM M t).2.sc.length = 64 ∧ (jumpM M t).2.l = M.l := fun t => hb h0 (hb h0 h0)
          unfold doM
          refine hb (hb h0 h0) (hb (hb h0 (hb h0 ⟨by show (M.sc.set _ _).length = 64; rw [List.length_set]; exact hI.sc, rfl⟩)) (hb (hjm _) (hb (hb h0 (hjm _)) (hb (hb h0 h0) (hb (hb h0 (hb h0 h0)) (hb (hb h0 (hb h0 (hb h0 (hb h0 h0)))) h0))))))
        exact hsc
set_option maxRecDepth 100000 in
theorem con19_ok {E : End} : (con19 E).ok Tryd.prog w0 := by
  intro args bs p rs out e hp
  simp only [con19] at e
  split at e <;> first | (simp at e; done) | skip
  split at e <;> first | (simp at e; done) | skip
  rename_i s pg ky pp vf cl rw cs _ _ n fuel hs hf
  cases hq : isPtr pp 1 with
  | false => rw [hq] at e; simp at e
  | true =>
    rw [hq] at e
    simp only [cond_true, Option.some.injEq, Prod.mk.injEq] at e
    obtain ⟨rfl, rfl, rfl⟩ := e
    obtain ⟨⟨a1, a2, a3, a4, a5, a6, a7⟩, ⟨b1, b2⟩, rfl⟩ := hp
    rw [slN_eq hs, intV_eq hf, isPtr_eq hq]
    generalize unIns cl = l at a1 a2 ⊢
    generalize unB cs = sc at b1 b2 ⊢
    subst a1 a2 b1
    have hE := end_sc (runP l pg ky sc fuel)
    obtain ⟨q1, q2⟩ := runF_sc (fuel := fuel) (fuel.toNat + 1) (mc0 l pg ky sc) 0 (inv0 a3 a4 a6 b2)
    change (runP l pg ky sc fuel).2.1.sc.length = 64 at q1
    change (runP l pg ky sc fuel).2.1.l = l at q2
    refine (run_callS (wr := rw) a3 a4 a5 a6 b2 a7 (K := fun rs' h' => rs' = ansR (runP l pg ky sc fuel) ∧ h' = heapB G (hpE rw (runP l pg ky sc fuel).2.1)) ⟨rfl, rfl⟩).mono ?_
    rintro rs' h' ⟨rfl, rfl⟩
    refine ⟨ansR_end _, ?_⟩
    unfold hpE
    rw [hE, lit64_eq q1, q2]
    rfl

abbrev nt0 : Nt := { gh := [], flags := [], paths := [], tr := [] }
noncomputable def ft16 : FT := { loc := fun _ => false, mask := fun id => bif Nat.beq id 4 then live 33 [0, 4, 5, 6] else [] }
noncomputable def todo16 : List Item := todoOf Tryd.f16 4
abbrev nt16 : Nt := { gh := [⟨4, none, 4⟩, ⟨5, none, 4⟩], flags := [true], paths := [⟨4, [], true⟩, ⟨5, [], true⟩], tr := [(4, []), (5, [])] }
abbrev ntO16 : Nt := { gh := [⟨0, none, 4⟩, ⟨1, none, 4⟩], flags := [true], paths := [⟨0, [], true⟩, ⟨1, [], true⟩], tr := [(0, []), (1, [])] }
noncomputable def fr16 (n k1 k2 : Nat) (i : Int) : List AV := frm 33 [(0, .v (SL G n 4)), (4, .v (SL (G + 1) k1 4)), (5, .v (SL (G + 2) k2 4)), (6, .v (I i))]
abbrev seg16 (K : List Value → AHeap → Prop) (L : List Item → List AV → AHeap → Prop) (t : List Item) (fr : List AV) (h : AHeap) : Prop :=
  segK3 Tryd.prog ft16 (semI Tryd.prog (fun _ => ft0) (callsOf G []) 400 20 (retT G ntO16 K)) Tryd.f16 [4] 400 t fr (fun t fr h => match t with
  | .code (.region 4 _ _) :: _ => canonT G nt16 (L t) fr h
  | _ => False) h

/-! number. -/
theorem eval20a (K : List Value → AHeap → Prop) : evSeg Tryd.f20 [con49] nt0 [.nilIface] [] K = (True ∧ K [I 0] (heapB G [])) := by kernel_rfl
theorem eval20b (e : Int) (K : List Value → AHeap → Prop) : evSeg Tryd.f20 [con49] nt0 [.iface 77 (I e)] [] K = (((PlainL [I 0] ∧ True) ∧ (PlainL [I e] ∧ True) ∧ True) ∧ True ∧ K [I e] (heapB G [])) := by kernel_rfl
noncomputable def con20 : Con := { f := 20, gh := [], paths := [], spec := fun args bs => match args, bs with
  | [.iface 77 e], [] => match intV e with
    | some e => some (True, [I e], [])
    | none => none
  | [.nilIface], [] => some (True, [I 0], [])
  | _, _ => none }
set_option maxRecDepth 100000 in
theorem con20_ok (hg : Laid w0) : con20.ok Tryd.prog w0 := by
  intro args bs p rs out e _
  simp only [con20] at e
  split at e <;> first | (simp at e; done) | skip
  · split at e <;> first | (simp at e; done) | skip
    rename_i e0 _ e1 he
    simp only [Option.some.injEq, Prod.mk.injEq] at e
    obtain ⟨rfl, rfl, rfl⟩ := e
    rw [intV_eq he]
    change CallS Tryd.prog w0 20 [.iface 77 (I e1)] (heapB Tryd.prog.globals.size []) fun rs' h' => rs' = [I e1] ∧ h' = heapB Tryd.prog.globals.size []
    refine ev_callS (nt := nt0) (cs := [con49]) (f := 20) (bs := []) Tryd.func20 (by kernel_rfl) (fun c hc => by
      simp only [List.mem_cons, List.not_mem_nil, or_false] at hc
      subst hc
      exact con49_ok hg) rfl ?_
    exact (eval20b e1 _).mpr ⟨⟨⟨plain_I 0, trivial⟩, ⟨plain_I e1, trivial⟩, trivial⟩, trivial, rfl, rfl⟩
  · simp only [Option.some.injEq, Prod.mk.injEq] at e
    obtain ⟨rfl, rfl, rfl⟩ := e
    change CallS Tryd.prog w0 20 [.nilIface] (heapB Tryd.prog.globals.size []) fun rs' h' => rs' = [I 0] ∧ h' = heapB Tryd.prog.globals.size []
    refine ev_callS (nt := nt0) (cs := [con49]) (f := 20) (bs := []) Tryd.func20 (by kernel_rfl) (fun c hc => by
      simp only [List.mem_cons, List.not_mem_nil, or_false] at hc
      subst hc
      exact con49_ok hg) rfl ?_
    exact (eval20a _).mpr ⟨trivial, rfl, rfl⟩

/-! full. -/
def m512 (s : ByteArray) : Int := if 512 < (s.size : Int) then 512 else (s.size : Int)
def z512 (s : ByteArray) : Int := w (512 - m512 s)
def zs512 (s : ByteArray) : List Value := (List.replicate (z512 s).toNat [.int .u8 0]).flatten
def fullS (s : ByteArray) : ByteArray := bif (z512 s).toNat.beq 0 then ⟨((s.extract 0 (m512 s).toNat).data.toList ++ []).toArray⟩ else
  ⟨((s.extract 0 (m512 s).toNat).data.toList ++ (ByteArray.mk ((((zs512 s).drop 0).take (z512 s).toNat).map u8O).toArray).data.toList).toArray⟩
theorem eval17 (s : ByteArray) (r : List Value) : pureSeg [] Tryd.f17 [.string s] r
    = (bif decide (0 ≤ m512 s) && decide (m512 s ≤ (s.size : Int)) then bif decide (0 ≤ z512 s) && decide (z512 s ≤ z512 s) && decide (z512 s ≤ 1099511627776) && room (z512 s).toNat 1 then bif (s.size : Int) == (s.size : Int) && true then
      bif (z512 s).toNat.beq 0 then bif (s.size : Int) == (s.size : Int) && true then bif ((s.extract 0 (m512 s).toNat).size + (ByteArray.mk #[]).size).ble 1099511627776 then
        True ∧ [.string ⟨((s.extract 0 (m512 s).toNat).data.toList ++ []).toArray⟩] = r else False else False
      else bif (0 + (z512 s).toNat).ble (zs512 s).length && (((zs512 s).drop 0).take (z512 s).toNat).all isU8 then bif (s.size : Int) == (s.size : Int) && true then
        bif ((s.extract 0 (m512 s).toNat).size + (ByteArray.mk ((((zs512 s).drop 0).take (z512 s).toNat).map u8O).toArray).size).ble 1099511627776 then
        True ∧ [.string ⟨((s.extract 0 (m512 s).toNat).data.toList ++ (ByteArray.mk ((((zs512 s).drop 0).take (z512 s).toNat).map u8O).toArray).data.toList).toArray⟩] = r else False else False else False else False else False else False) := by kernel_rfl
theorem m512_in (s : ByteArray) : 0 ≤ m512 s ∧ m512 s ≤ (s.size : Int) ∧ m512 s ≤ 512 ∧ z512 s = 512 - m512 s := by
  have h : 0 ≤ m512 s ∧ m512 s ≤ (s.size : Int) ∧ m512 s ≤ 512 := by unfold m512; split <;> omega
  exact ⟨h.1, h.2.1, h.2.2, w_id (by omega) (by omega)⟩
theorem zs512_len (s : ByteArray) : (zs512 s).length = (z512 s).toNat ∧ ∀ x ∈ zs512 s, x = .int .u8 0 := by
  unfold zs512
  constructor
  · generalize (z512 s).toNat = k
    induction k with
    | zero => rfl
    | succ k ih => rw [List.replicate_succ, List.flatten_cons, List.length_append, ih]; simp; omega
  · intro x hx
    obtain ⟨l, h1, h2⟩ := List.mem_flatten.1 hx
    rw [(List.mem_replicate.1 h1).2] at h2
    simpa using h2
theorem extract_size {s : ByteArray} {k : Nat} (h : k ≤ s.size) : (s.extract 0 k).size = k := by rw [ByteArray.size_extract]; omega
theorem sz_list (b : ByteArray) : b.data.toList.length = b.size := Array.length_toList
theorem size_mk (l : List UInt8) : (ByteArray.mk l.toArray).size = l.length := List.size_toArray
theorem fullS_size (s : ByteArray) : (fullS s).size = 512 := by
  obtain ⟨h1, h2, h3, h4⟩ := m512_in s
  obtain ⟨h5, _⟩ := zs512_len s
  have e1 : (s.extract 0 (m512 s).toNat).size = (m512 s).toNat := extract_size (by omega)
  have e2 : (s.extract 0 (m512 s).toNat).data.toList.length = (m512 s).toNat := by rw [sz_list, e1]
  unfold fullS
  cases hz : (z512 s).toNat.beq 0 with
  | true =>
    have := Nat.eq_of_beq_eq_true hz
    rw [cond_true, size_mk, List.append_nil, e2]; omega
  | false =>
    rw [cond_false, size_mk, List.length_append, e2]
    simp only []
    rw [List.length_map, List.length_take, List.drop_zero, h5]; omega
def F17 : List Value → Option (List Value)
  | [.string s] => some [.string (fullS s)]
  | _ => none
def con17 : Con := pureCon 17 F17
theorem con17_ok : con17.ok Tryd.prog w0 :=
  pure_ok (cs := []) Tryd.func17 (by kernel_rfl) (fun c hc => by simp at hc) fun args rs e => by
    unfold F17 at e
    split at e <;> first | (simp at e; done) | skip
    rename_i s
    simp only [Option.some.injEq] at e
    subst e
    rw [eval17]
    obtain ⟨h1, h2, h3, h4⟩ := m512_in s
    obtain ⟨h5, h6⟩ := zs512_len s
    have hr : room (z512 s).toNat 1 = true := Nat.ble_eq_true_of_le (by omega)
    have e1 : (s.extract 0 (m512 s).toNat).size = (m512 s).toNat := extract_size (by omega)
    rw [decide_eq_true h1, decide_eq_true h2, decide_eq_true (show 0 ≤ z512 s by omega), decide_eq_true (Int.le_refl (z512 s)), decide_eq_true (show z512 s ≤ 1099511627776 by omega), hr]
    simp only [beq_self_eq_true, Bool.and_self, cond_true]
    unfold fullS
    refine bifP (fun hz => ?_) (fun hz => ?_)
    · rw [hz, cond_true, e1]
      have : ((m512 s).toNat + (ByteArray.mk #[]).size).ble 1099511627776 = true := Nat.ble_eq_true_of_le (by show (m512 s).toNat + 0 ≤ _; omega)
      rw [this]; exact ⟨trivial, rfl⟩
    · rw [hz, cond_false, e1]
      have ha : (0 + (z512 s).toNat).ble (zs512 s).length = true := Nat.ble_eq_true_of_le (by omega)
      have hb : (((zs512 s).drop 0).take (z512 s).toNat).all isU8 = true := by
        rw [List.all_eq_true]
        intro x hx
        rw [h6 x (List.mem_of_mem_drop (List.mem_of_mem_take hx))]; rfl
      have hc : ((m512 s).toNat + (ByteArray.mk ((((zs512 s).drop 0).take (z512 s).toNat).map u8O).toArray).size).ble 1099511627776 = true := by
        have : (ByteArray.mk ((((zs512 s).drop 0).take (z512 s).toNat).map u8O).toArray).size = ((((zs512 s).drop 0).take (z512 s).toNat).map u8O).length := Array.length_toList
        rw [this, List.length_map, List.length_take]
        exact Nat.ble_eq_true_of_le (by omega)
      rw [ha, hb, hc]; exact ⟨trivial, rfl⟩

/-! filled. -/
def filledL (s : ByteArray) : List UInt8 := (s.data.toList.take (s.size.min 64)) ++ List.replicate (64 - s.size.min 64) 0
abbrev sp64 (s : ByteArray) : List Value := splice (List.replicate 64 (.int .u8 0)) 0 ((bytC s.data.toList).take (s.size.min 64 * 1))
def okRun (cs : List Value) : Nat → Nat → Bool
  | 0, _ => true
  | k + 1, i => okI .u8 (nth cs i) && okRun cs k (i + 1)
theorem eval18 (s : ByteArray) (r : List Value) : pureSeg [] Tryd.f18 [.string s] r
    = (bif (s.size.min 64 * 1).ble (bytC s.data.toList).length then bif Nat.ble 64 (sp64 s).length && okRun (sp64 s) 64 0 then True ∧ [AG ((List.range 64).map fun i => .int .u8 (intO (nth (sp64 s) i)))] = r else False else False) := by kernel_rfl
theorem filledL_len (s : ByteArray) : (filledL s).length = 64 := by
  unfold filledL
  have : s.data.toList.length = s.size := rfl
  have h : s.size.min 64 ≤ 64 := Nat.min_le_right _ _
  have h' : s.size.min 64 ≤ s.size := Nat.min_le_left _ _
  rw [List.length_append, List.length_take, List.length_replicate, this]
  omega
theorem sp64_eq (s : ByteArray) : sp64 s = bytC (filledL s) := by
  have h0 : s.data.toList.length = s.size := rfl
  have h : s.size.min 64 ≤ 64 := Nat.min_le_right _ _
  have h' : s.size.min 64 ≤ s.size := Nat.min_le_left _ _
  have hl : ((bytC s.data.toList).take (s.size.min 64 * 1)).length = s.size.min 64 := by rw [List.length_take, bytC_len, h0]; omega
  unfold sp64 splice filledL
  rw [hl, List.take_zero, List.nil_append, Nat.zero_add]
  unfold bytC
  rw [List.map_append, Nat.mul_one, List.map_take, List.drop_replicate]
  congr 1
  generalize 64 - s.size.min 64 = k
  induction k with
  | zero => rfl
  | succ k ih => rw [List.replicate_succ, List.replicate_succ, List.map_cons, ih]; rfl
theorem okRun_bytC (sc : List UInt8) : ∀ k i, i + k ≤ sc.length → okRun (bytC sc) k i = true
  | 0, i, _ => rfl
  | k + 1, i, h => by
    have hi : i < sc.length := by omega
    have : nth (bytC sc) i = some (.int .u8 (sc[i].toNat : Int)) := by
      rw [nth_eq]; unfold bytC; rw [List.getElem?_map, List.getElem?_eq_getElem hi]; rfl
    rw [okRun, this, okRun_bytC sc k (i + 1) (by omega)]; rfl
theorem lit_of (sc : List UInt8) (h : sc.length = 64) : ((List.range 64).map fun i => (Value.int .u8 (intO (nth (bytC sc) i)))) = lit64 sc := by
  unfold lit64
  refine List.map_congr_left fun i hi => ?_
  have hi : i < sc.length := by rw [h]; exact List.mem_range.1 hi
  have : nth (bytC sc) i = some (.int .u8 (sc[i].toNat : Int)) := by
    rw [nth_eq]; unfold bytC; rw [List.getElem?_map, List.getElem?_eq_getElem hi]; rfl
  rw [this, List.getD_eq_getElem?_getD, List.getElem?_eq_getElem hi]; rfl
def F18 : List Value → Option (List Value)
  | [.string s] => some [AG (lit64 (filledL s))]
  | _ => none
def con18 : Con := pureCon 18 F18
theorem con18_ok : con18.ok Tryd.prog w0 :=
  pure_ok (cs := []) Tryd.func18 (by kernel_rfl) (fun c hc => by simp at hc) fun args rs e => by
    unfold F18 at e
    split at e <;> first | (simp at e; done) | skip
    rename_i s
    simp only [Option.some.injEq] at e
    subst e
    rw [eval18]
    have hl := filledL_len s
    have h' : s.size.min 64 ≤ s.size := Nat.min_le_left _ _
    have a1 : (s.size.min 64 * 1).ble (bytC s.data.toList).length = true := by
      rw [bytC_len]
      exact Nat.ble_eq_true_of_le (by show s.size.min 64 * 1 ≤ s.size; omega)
    have a2 : Nat.ble 64 (bytC (filledL s)).length = true := Nat.ble_eq_true_of_le (by rw [bytC_len, hl]; exact Nat.le_refl _)
    have a3 := okRun_bytC (filledL s) 64 0 (by omega)
    rw [a1, sp64_eq, a2, a3, lit_of _ hl]
    exact ⟨trivial, rfl⟩

section
variable (n k1 k2 : Nat) (i : Int) (rw : Bool) (cl c1 c2 : List Value) (K : List Value → AHeap → Prop) (L : List Item → List AV → AHeap → Prop)
theorem start16 : seg16 K L [.code (Tryd.f16.body.getD .skip)] (startF Tryd.f16 [SL G n 4]) (heapB G [some (.cells cl rw)])
    = ((PlainL cl ∧ PlainL [] ∧ PlainL [] ∧ True) ∧ L todo16 (fr16 n 0 0 0) (heapB G [some (.cells cl rw), some (.cells [] true), some (.cells [] true)])) := by kernel_rfl
abbrev okX (cl : List Value) (i : Int) : Bool := (0 + i.toNat * 4 + 4).ble cl.length && (ox cl i 0 && (ox cl i 1 && (ox cl i 2 && (ox cl i 3 && true))))
abbrev agX (cl : List Value) (i : Int) : Value := AG [I (ix cl i 0), I (ix cl i 1), I (ix cl i 2), I (ix cl i 3)]
abbrev veX (cl : List Value) (i : Int) : Bool := okX cl i && veq 4 (agX cl i) (agX cl i) && true
abbrev apX (k : Nat) (c : List Value) (cl : List Value) (i : Int) : List Value := List.take ((k + 1) * 4) (List.take (k * 4) (List.drop 0 c) ++ [I (ix cl i 0), I (ix cl i 1), I (ix cl i 2), I (ix cl i 3)])
abbrev nx16 (n k1 k2 : Nat) (i : Int) (rw : Bool) (cl c1 c2 : List Value) (L : List Item → List AV → AHeap → Prop) : Prop :=
  (PlainL cl ∧ PlainL (apX k1 c1 cl i) ∧ PlainL (apX k2 c2 cl i) ∧ True) ∧ L todo16 (fr16 n (k1 + 1) (k2 + 1) (w (i + 1))) (heapB G [some (.cells cl rw), some (.cells (apX k1 c1 cl i) true), some (.cells (apX k2 c2 cl i) true)])
abbrev en16 (k1 k2 : Nat) (rw : Bool) (cl c1 c2 : List Value) (K : List Value → AHeap → Prop) : Prop :=
  (PlainL cl ∧ PlainL (List.take (k1 * 4) c1) ∧ PlainL (List.take (k2 * 4) c2) ∧ True) ∧ K [SL (G + 1) k1 4, SL (G + 2) k2 4] (heapB G [some (.cells cl rw), some (.cells (List.take (k1 * 4) c1) true), some (.cells (List.take (k2 * 4) c2) true)])
theorem head16 : seg16 K L todo16 (fr16 n k1 k2 i) (heapB G [some (.cells cl rw), some (.cells c1 true), some (.cells c2 true)])
    = (bif decide (i < (n : Int)) then bif decide (i < 130) then
        (bif decide (0 ≤ i) && decide (i < (n : Int)) then bif okX cl i then bif decide (0 ≤ i) && decide (i < (n : Int)) then bif okX cl i then bif veX cl i then bif room (k1 + 1) 32 then bif (0 + k1 * 4).ble c1.length then bif veX cl i then bif room (k2 + 1) 32 then bif (0 + k2 * 4).ble c2.length then
          nx16 n k1 k2 i rw cl c1 c2 L else False else False else False else False else False else False else False else False else False else False) ∧
        (bif decide (0 ≤ i) && decide (i < (n : Int)) then bif okX cl i then bif decide (0 ≤ i) && decide (i < (n : Int)) then bif okX cl i then bif veX cl i then bif room (k1 + 1) 32 then bif (0 + k1 * 4).ble c1.length then bif room (k2 + 1) 32 then bif (0 + k2 * 4).ble c2.length then
          nx16 n k1 k2 i rw cl c1 c2 L else False else False else False else False else False else False else False else False else False) ∧
        (bif decide (0 ≤ i) && decide (i < (n : Int)) then bif okX cl i then bif decide (0 ≤ i) && decide (i < (n : Int)) then bif okX cl i then bif veX cl i then bif room (k1 + 1) 32 then bif (0 + k1 * 4).ble c1.length then bif room (k2 + 1) 32 then bif (0 + k2 * 4).ble c2.length then
          nx16 n k1 k2 i rw cl c1 c2 L else False else False else False else False else False else False else False else False else False)
      else en16 k1 k2 rw cl c1 c2 K else en16 k1 k2 rw cl c1 c2 K) := by kernel_rfl
end
theorem insC_app : ∀ (l r : List Ins), insC (l ++ r) = insC l ++ insC r
  | [], r => rfl
  | x :: l, r => by
    have := insC_app l r
    simp only [insC, List.cons_append] at this ⊢
    simp [this]
abbrev SemB (w0 : World) (K : List Value → AHeap → Prop) (t : List Item) (fr : List AV) (h : AHeap) : Prop := Agm.Sem Tryd.prog w0 (Tryd.prog.globals.size + nt16.flags.length) Tryd.f16 (retT G ntO16 K) t fr h
theorem leaf16 {K : List Value → AHeap → Prop} : ∀ t fr h, (match t with
    | .code (.region 4 _ _) :: _ => canonT G nt16 (SemB w0 K t) fr h
    | _ => False) → SemB w0 K t fr h := by
  intro t fr h e
  split at e
  · exact canonT_semN (nt := nt16) rfl e
  · exact e.elim
set_option maxRecDepth 100000 in
theorem loop16 {K : List Value → AHeap → Prop} {rw : Bool} {l : List Ins} (hK : K [SL (G + 1) (l.take 130).length 4, SL (G + 2) (l.take 130).length 4] (heapB G [some (.cells (insC l) rw), some (.cells (insC (l.take 130)) true), some (.cells (insC (l.take 130)) true)])) :
    ∀ (f i : Nat), 130 - i < f → i ≤ 130 → i ≤ l.length → SemB w0 K todo16 (fr16 l.length i i i) (heapB G [some (.cells (insC l) rw), some (.cells (insC (l.take i)) true), some (.cells (insC (l.take i)) true)]) := by
  intro f
  induction f with
  | zero => intro i h; omega
  | succ f ih =>
    intro i h1 h2 h3
    refine seg_semI3 (F := ft16) mixed (callsOf_ok ok_none) leaf16 [4] 20 400 ((head16 l.length i i i rw (insC l) (insC (l.take i)) (insC (l.take i)) K _).mpr ?_)
    have hti : (l.take i).length = i := by rw [List.length_take]; omega
    have hlen : (insC (l.take i)).length = i * 4 := by rw [insC_len, hti]
    have hall : List.take (i * 4) (insC (l.take i)) = insC (l.take i) := List.take_of_length_le (by omega)
    have fin : i = l.length ∨ i = 130 → en16 i i rw (insC l) (insC (l.take i)) (insC (l.take i)) K := by
      intro h
      have e : l.take 130 = l.take i := by
        rcases h with h | h
        · rw [h, List.take_length, List.take_of_length_le (by omega)]
        · rw [h]
      rw [e, hti] at hK
      unfold en16
      rw [hall]
      exact ⟨⟨plain_insC _, plain_insC _, plain_insC _, trivial⟩, hK⟩
    refine bifP (fun c1 => ?_) (fun c1 => ?_)
    · refine bifP (fun c2 => ?_) (fun c2 => ?_)
      · simp only [decide_eq_true_eq] at c1 c2
        have hi : i < l.length := by omega
        obtain ⟨e1, ⟨e2, e3, e4, e5⟩, e6, e7, e8, e9⟩ := at_insC hi
        have hr : room (i + 1) 32 = true := Nat.ble_eq_true_of_le (by omega)
        have hb : (0 + i * 4).ble (insC (l.take i)).length = true := Nat.ble_eq_true_of_le (by omega)
        have hw : w ((i : Int) + 1) = ((i + 1 : Nat) : Int) := by rw [w_id (by omega) (by omega)]; omega
        have hx : okX (insC l) (i : Int) = true := by unfold okX; rw [e1, e2, e3, e4, e5]; rfl
        have hv : veX (insC l) (i : Int) = true := by
          unfold veX
          rw [hx]
          simp [veq, veq.go]
        have ha : apX i (insC (l.take i)) (insC l) (i : Int) = insC (l.take (i + 1)) := by
          unfold apX
          rw [e6, e7, e8, e9, List.drop_zero, hall, List.take_of_length_le (by rw [List.length_append, hlen]; simp; omega), List.take_succ_eq_append_getElem hi, insC_app]; rfl
        have nx : nx16 l.length i i i rw (insC l) (insC (l.take i)) (insC (l.take i)) (SemB w0 K) := by
          unfold nx16
          rw [ha, hw]
          exact ⟨⟨plain_insC _, plain_insC _, plain_insC _, trivial⟩, ih (i + 1) (by omega) (by omega) (by omega)⟩
        rw [decide_eq_true (show (0 : Int) ≤ (i : Int) by omega), decide_eq_true (show (i : Int) < (l.length : Int) by omega), hx, hv, hr, hb]
        exact ⟨nx, nx, nx⟩
      · exact fin (.inr (by simp only [decide_eq_false_iff_not] at c2; omega))
    · exact fin (.inl (by simp only [decide_eq_false_iff_not] at c1; omega))
noncomputable def con16 : Con := { f := 16, gh := [⟨0, none, 4⟩], paths := [⟨0, [], true⟩], spec := fun args bs => match args, bs with
  | [s], [some (.cells cl rw)] => match slN s 0 4 with
    | some n => some (cl = insC (unIns cl) ∧ (unIns cl).length = n, [SL (G + 1) ((unIns cl).take 130).length 4, SL (G + 2) ((unIns cl).take 130).length 4], [(true, some (.cells cl rw)), (true, some (.cells (insC ((unIns cl).take 130)) true)), (true, some (.cells (insC ((unIns cl).take 130)) true))])
    | none => none
  | _, _ => none }
set_option maxRecDepth 100000 in
theorem con16_ok : con16.ok Tryd.prog w0 := by
  intro args bs p rs out e hp
  simp only [con16] at e
  split at e <;> first | (simp at e; done) | skip
  split at e <;> first | (simp at e; done) | skip
  rename_i s cl rw _ n hs
  simp only [Option.some.injEq, Prod.mk.injEq] at e
  obtain ⟨rfl, rfl, rfl⟩ := e
  obtain ⟨p1, p2⟩ := hp
  rw [slN_eq hs]
  generalize unIns cl = l at p1 p2 ⊢
  subst p1 p2
  have hn : (heapB Tryd.prog.globals.size [some (.cells (insC l) rw)]).next = Tryd.prog.globals.size + ntO16.flags.length := by rw [heapB_next]; rfl
  change CallS Tryd.prog w0 16 [SL G l.length 4] (heapB Tryd.prog.globals.size [some (.cells (insC l) rw)]) _
  refine retT_call (nt := ntO16) hn (call_sem (cd := Tryd.f16.body.getD .skip) Tryd.func16 (by kernel_rfl) ?_)
  rw [hn]
  refine seg_semI3 (F := ft16) mixed (callsOf_ok ok_none) leaf16 [4] 20 400 ((start16 l.length rw (insC l) _ _).mpr ?_)
  refine ⟨⟨plain_insC _, fun x hx => by simp at hx, fun x hx => by simp at hx, trivial⟩, ?_⟩
  exact loop16 (l := l) ⟨rfl, rfl⟩ 131 0 (by omega) (by omega) (by omega)

noncomputable def con15 : Con := { f := 15, gh := [], paths := [], spec := fun args bs => match args, bs with
  | [], [] => some (True, [B true], [])
  | _, _ => none }
noncomputable def ft6 : FT := { loc := fun _ => false, mask := fun id => bif Nat.beq id 6 then live 110 [2, 4, 6, 7, 9, 10] else bif Nat.beq id 7 then live 110 [2, 6, 7, 9, 10, 11, 12, 13] else bif Nat.beq id 9 then live 110 [2, 6, 7, 9, 10, 11, 12, 13, 14, 15, 16, 17] else [] }
noncomputable def todo6a : List Item := todoOf Tryd.f6 6
noncomputable def todo6b : List Item := todoOf Tryd.f6 7
noncomputable def todo6c : List Item := todoOf Tryd.f6 9
abbrev pt6b : List Pth := [⟨7, [], true⟩, ⟨11, [], true⟩, ⟨12, [], true⟩, ⟨13, [], true⟩]
abbrev nt6a : Nt := { gh := [], flags := [true], paths := [⟨7, [], true⟩, ⟨4, [], true⟩], tr := [] }
abbrev nt6b : Nt := { gh := [], flags := [true], paths := pt6b, tr := [] }
abbrev nt6c : Nt := { gh := [], flags := [true], paths := pt6b ++ [⟨14, [], true⟩, ⟨16, [], true⟩], tr := [] }
abbrev nt1p : Nt := { gh := [], flags := [true], paths := [], tr := [] }
noncomputable def fr6a (fuel : Int) (k : Nat) (pg ky : ByteArray) : List AV :=
  frm 110 [(2, .v (I fuel)), (4, .v (PT (G + 2))), (6, .v (B false)), (7, .v (SL (G + 1) k 4)), (9, .v (.string pg)), (10, .v (.string ky))]
noncomputable def fr6b (fuel : Int) (k : Nat) (pg ky : ByteArray) : List AV :=
  frm 110 [(2, .v (I fuel)), (6, .v (B false)), (7, .v (SL (G + 1) k 4)), (9, .v (.string pg)), (10, .v (.string ky)), (11, .v (PT (G + 2))), (12, .v (PT (G + 3))), (13, .v (PT (G + 4)))]
noncomputable def fr6c (fuel : Int) (k : Nat) (pg ky : ByteArray) (e : Option Int) : List AV :=
  frm 110 [(2, .v (I fuel)), (6, .v (B false)), (7, .v (SL (G + 1) k 4)), (9, .v (.string pg)), (10, .v (.string ky)), (11, .v (PT (G + 2))), (12, .v (PT (G + 3))), (13, .v (PT (G + 4))), (14, .v (PT (G + 5))), (15, .v (errV e)), (16, .v (PT (G + 6))), (17, .v (errV e))]
noncomputable def hp6a (cl : List Value) (rw : Bool) (ca : List Value) (t0 t1 t2 : ByteArray) : List (Option ABlk) :=
  [some (.cells cl rw), some (.cells ca true), some (.cells [.string t0, .string t1, .string t2] true)]
noncomputable def hp6b (cl : List Value) (rw : Bool) (ca : List Value) (c1 c2 c3 : List Value) : List (Option ABlk) :=
  [some (.cells cl rw), some (.cells ca true), some (.cells c1 true), some (.cells c2 true), some (.cells c3 true)]
noncomputable def hp6c (cl : List Value) (rw : Bool) (ca : List Value) (c1 c2 c3 : List Value) (E : End) : List (Option ABlk) :=
  hp6b cl rw ca c1 c2 c3 ++ [some (.cells [I E.code, .string E.val, I E.nx, I E.st] true), some (.cells [I E.code, .string E.val, I E.nx, I E.st] true)]
abbrev seg6 (cs : List Con) (K : List Value → AHeap → Prop) (L : List Item → List AV → AHeap → Prop) (t : List Item) (fr : List AV) (h : AHeap) : Prop :=
  segK3 Tryd.prog ft6 (semI Tryd.prog (fun _ => ft0) (callsOf G cs) 400 20 (retT G nt1p K)) Tryd.f6 [6, 7, 9] 400 t fr (fun t fr h => match t with
  | .code (.region 6 _ _) :: _ => canonT G nt6a (L t) fr h
  | .code (.region 7 _ _) :: _ => canonT G nt6b (L t) fr h
  | .code (.region 9 _ _) :: _ => canonT G nt6c (L t) fr h
  | _ => False) h

abbrev z64 : List UInt8 := List.replicate 64 0
abbrev Z2 : List Ins := [⟨0, 0, 0, 2⟩, ⟨20, 0, 0, 0⟩]
/-- run.Program is asked. -/
abbrev ask19 (n : Nat) (pg ky : ByteArray) (fuel : Int) (cl cs : List Value) (E : End) : Prop :=
  (PlainL cl ∧ PlainL cs ∧ True) ∧ (PlainL cl ∧ PlainL (lit64 E.sc) ∧ True) ∧ (cl = insC (unIns cl) ∧ (unIns cl).length = n ∧ n < 1000000000 ∧ pg.size = 512 ∧ 0 < ky.size ∧ ky.size ≤ 16 ∧ fuel < 1000000000) ∧ (cs = bytC (unB cs) ∧ (unB cs).length = 64) ∧ endOf (runP (unIns cl) pg ky (unB cs) fuel) = E
theorem eval15 (c nx st : Int) (v : ByteArray) (sc : List UInt8) (K : List Value → AHeap → Prop) : evSeg Tryd.f15 [con17, con19 ⟨none, c, v, nx, st, sc⟩] nt0 [] [] K
    = (TTT ∧ ask19 2 (fullS ⟨#[]⟩) ⟨#[107]⟩ 9 (insC Z2) (bytC z64) ⟨none, c, v, nx, st, sc⟩ ∧ bif c == 2 then True ∧ K [B (st == 2)] (heapB G []) else True ∧ K [B false] (heapB G [])) := by kernel_rfl
theorem run15 : endOf (runP Z2 (fullS ⟨#[]⟩) ⟨#[107]⟩ z64 9) = ⟨none, 2, ⟨#[]⟩, 0, 2, z64⟩ := by kernel_rfl
theorem plain_lit (sc : List UInt8) : PlainL (lit64 sc) := by
  intro x hx
  obtain ⟨i, _, rfl⟩ := List.mem_map.1 hx
  rfl
set_option maxRecDepth 100000 in
theorem con15_ok : con15.ok Tryd.prog w0 := by
  intro args bs p rs out e _
  simp only [con15] at e
  split at e <;> first | (simp at e; done) | skip
  simp only [Option.some.injEq, Prod.mk.injEq] at e
  obtain ⟨rfl, rfl, rfl⟩ := e
  change CallS Tryd.prog w0 15 [] (heapB Tryd.prog.globals.size []) fun rs' h' => rs' = [B true] ∧ h' = heapB Tryd.prog.globals.size []
  refine ev_callS (nt := nt0) (cs := [con17, con19 ⟨none, 2, ⟨#[]⟩, 0, 2, z64⟩]) (f := 15) (bs := []) Tryd.func15 (by kernel_rfl) (fun c hc => by
    simp only [List.mem_cons, List.not_mem_nil, or_false] at hc
    rcases hc with rfl | rfl
    · exact con17_ok
    · exact con19_ok) rfl ((eval15 2 0 2 ⟨#[]⟩ z64 _).mpr ?_)
  have hz : (unB (bytC z64)) = z64 := unB_bytC _
  refine ⟨⟨trivial, trivial, trivial⟩, ⟨⟨plain_insC _, plain_bytC _, trivial⟩, ⟨plain_insC _, plain_lit _, trivial⟩, ⟨by rw [unIns_insC], by rw [unIns_insC]; rfl, by omega, fullS_size _, by decide, by decide, by omega⟩, ⟨by rw [hz], by rw [hz]; exact List.length_replicate⟩, ?_⟩, ?_⟩
  · rw [hz, unIns_insC]; exact run15
  · exact ⟨trivial, rfl, rfl⟩

abbrev kyS (t1 : ByteArray) : ByteArray := ⟨([107] ++ (t1.extract 0 (if 15 < (t1.size : Int) then 15 else (t1.size : Int)).toNat).data.toList).toArray⟩
theorem p1 (n : Nat) (rw : Bool) (cl : List Value) (t0 t1 t2 : ByteArray) (fuel : Int) (K : List Value → AHeap → Prop) (L : List Item → List AV → AHeap → Prop) :
    seg6 [con15, con16, con17] K L [.code (Tryd.f6.body.getD .skip)] (startF Tryd.f6 [SL G n 4, AG [.string t0, .string t1, .string t2], I fuel]) (heapB G [some (.cells cl rw)])
    = (TTT ∧ ((PlainL cl ∧ True) ∧ (PlainL cl ∧ PlainL (insC ((unIns cl).take 130)) ∧ PlainL (insC ((unIns cl).take 130)) ∧ True) ∧ cl = insC (unIns cl) ∧ (unIns cl).length = n) ∧
      bif decide (0 ≤ if 15 < (t1.size : Int) then 15 else (t1.size : Int)) && decide ((if 15 < (t1.size : Int) then 15 else (t1.size : Int)) ≤ (t1.size : Int)) then
      bif ((ByteArray.mk #[107]).size + (t1.extract 0 (if 15 < (t1.size : Int) then 15 else (t1.size : Int)).toNat).size).ble 1099511627776 then
      TTT ∧ bif (t1.size : Int) == (t1.size : Int) && (veq 4 (.string t1) (.string t1) && (veq 4 (.string t1) (.string t1) && true)) then
      (PlainL cl ∧ PlainL (insC ((unIns cl).take 130)) ∧ PlainL [.string t0, .string t1, .string t2] ∧ True) ∧
        L todo6a (fr6a (if 2000 < fuel then 2000 else fuel) ((unIns cl).take 130).length (fullS t0) (kyS t1)) (heapB G (hp6a cl rw (insC ((unIns cl).take 130)) t0 t1 t2)) else False else False else False) := by kernel_rfl
section
variable (k : Nat) (rw : Bool) (cl ca c1 c2 c3 : List Value) (pg ky : ByteArray) (fuel e1 c nx st e2 d2 nx2 st2 : Int) (v v2 : ByteArray) (sc s0 s2 : List UInt8) (K : List Value → AHeap → Prop) (L : List Item → List AV → AHeap → Prop)
abbrev PL7 (cl ca : List Value) (sc : List UInt8) (c3 r : List Value) : Prop := PlainL cl ∧ PlainL ca ∧ PlainL (lit64 sc) ∧ PlainL (lit64 sc) ∧ PlainL c3 ∧ PlainL r ∧ PlainL r ∧ True
theorem p3a : seg6 [con19 ⟨none, c, v, nx, st, sc⟩] K L todo6b (fr6b fuel k pg ky) (heapB G (hp6b cl rw ca c1 c2 c3))
    = (ask19 k pg ky fuel ca c1 ⟨none, c, v, nx, st, sc⟩ ∧ ask19 k pg ky fuel ca c2 ⟨none, c, v, nx, st, sc⟩ ∧ PL7 cl ca sc c3 [I c, .string v, I nx, I st] ∧
      L todo6c (fr6c fuel k pg ky none) (heapB G (hp6c cl rw ca (lit64 sc) (lit64 sc) c3 ⟨none, c, v, nx, st, sc⟩))) := by kernel_rfl
theorem p3b : seg6 [con19 ⟨some e1, c, v, nx, st, sc⟩] K L todo6b (fr6b fuel k pg ky) (heapB G (hp6b cl rw ca c1 c2 c3))
    = (ask19 k pg ky fuel ca c1 ⟨some e1, c, v, nx, st, sc⟩ ∧ ask19 k pg ky fuel ca c2 ⟨some e1, c, v, nx, st, sc⟩ ∧ PL7 cl ca sc c3 [I c, .string v, I nx, I st] ∧
      L todo6c (fr6c fuel k pg ky (some e1)) (heapB G (hp6c cl rw ca (lit64 sc) (lit64 sc) c3 ⟨some e1, c, v, nx, st, sc⟩))) := by kernel_rfl
def eqB (a b : List UInt8) : Nat → Nat → Bool
  | 0, _ => true
  | k + 1, i => (((a.getD i 0).toNat : Int) == ((b.getD i 0).toNat : Int)) && eqB a b k (i + 1)
abbrev ret6 (cl : List Value) (rw : Bool) (K : List Value → AHeap → Prop) (b : Bool) : Prop := (PlainL cl ∧ True) ∧ K [B b] (heapB G [some (.cells cl rw)])
abbrev f500 (fuel : Int) : Int := w ((if 0 > fuel then 0 else fuel) + 500)
theorem t6a : seg6 [con20, con19 ⟨some e2, d2, v2, nx2, st2, s2⟩] K L todo6c (fr6c fuel k pg ky (some e1)) (heapB G (hp6c cl rw ca (lit64 sc) (lit64 sc) (lit64 s0) ⟨some e1, c, v, nx, st, sc⟩))
    = (ask19 k pg ky (f500 fuel) ca (lit64 s0) ⟨some e2, d2, v2, nx2, st2, s2⟩ ∧ bif !(c == c && (v == v && (nx == nx && (st == st && true)))) then ret6 cl rw K false else TTT ∧ TTT ∧ bif e1 != e1 then ret6 cl rw K false else
      bif !eqB sc sc 64 0 then ret6 cl rw K false else TTT ∧ bif e1 == 12 then ret6 cl rw K true else bif c == d2 && (v == v2 && (nx == nx2 && (st == st2 && true))) then TTT ∧ TTT ∧ bif e1 == e2 then ret6 cl rw K (eqB sc s2 64 0) else ret6 cl rw K false else ret6 cl rw K false) := by kernel_rfl
theorem t6b : seg6 [con20, con19 ⟨none, d2, v2, nx2, st2, s2⟩] K L todo6c (fr6c fuel k pg ky none) (heapB G (hp6c cl rw ca (lit64 sc) (lit64 sc) (lit64 s0) ⟨none, c, v, nx, st, sc⟩))
    = (ask19 k pg ky (f500 fuel) ca (lit64 s0) ⟨none, d2, v2, nx2, st2, s2⟩ ∧ bif !(c == c && (v == v && (nx == nx && (st == st && true)))) then ret6 cl rw K false else TTT ∧ TTT ∧
      bif !eqB sc sc 64 0 then ret6 cl rw K false else TTT ∧ bif c == d2 && (v == v2 && (nx == nx2 && (st == st2 && true))) then TTT ∧ TTT ∧ ret6 cl rw K (eqB sc s2 64 0) else ret6 cl rw K false) := by kernel_rfl
theorem t6c : seg6 [con20, con19 ⟨none, d2, v2, nx2, st2, s2⟩] K L todo6c (fr6c fuel k pg ky (some e1)) (heapB G (hp6c cl rw ca (lit64 sc) (lit64 sc) (lit64 s0) ⟨some e1, c, v, nx, st, sc⟩))
    = (ask19 k pg ky (f500 fuel) ca (lit64 s0) ⟨none, d2, v2, nx2, st2, s2⟩ ∧ bif !(c == c && (v == v && (nx == nx && (st == st && true)))) then ret6 cl rw K false else TTT ∧ TTT ∧ bif e1 != e1 then ret6 cl rw K false else
      bif !eqB sc sc 64 0 then ret6 cl rw K false else TTT ∧ bif e1 == 12 then ret6 cl rw K true else bif c == d2 && (v == v2 && (nx == nx2 && (st == st2 && true))) then TTT ∧ TTT ∧ bif e1 == 0 then ret6 cl rw K (eqB sc s2 64 0) else ret6 cl rw K false else ret6 cl rw K false) := by kernel_rfl
end
theorem eqB_self (a : List UInt8) : ∀ k i, eqB a a k i = true
  | 0, _ => rfl
  | k + 1, i => by rw [eqB, eqB_self a k (i + 1)]; simp
/-- More fuel makes no difference to a run that has ended. -/
theorem runF_mono {fuel fuel2 : Int} (hf : fuel ≤ fuel2) : ∀ (f f2 : Nat) (M : Mc) (steps : Int), f ≤ f2 → (runF fuel f M steps).1 ≠ 12 → runF fuel2 f2 M steps = runF fuel f M steps := by
  intro f
  induction f with
  | zero => intro f2 M steps _ h; exact absurd rfl h
  | succ f ih =>
    intro f2 M steps h2 h
    obtain ⟨f2, rfl⟩ : ∃ q, f2 = q + 1 := ⟨f2 - 1, by omega⟩
    rw [runF] at h ⊢
    rw [runF]
    cases h1 : M.en with
    | true => rfl
    | false =>
      rw [h1] at h
      simp only [cond_false] at h ⊢
      cases h3 : decide (M.pc ≥ (M.l.length : Int)) with
      | true => rfl
      | false =>
        rw [h3] at h
        simp only [cond_false] at h ⊢
        cases h4 : decide (steps ≥ fuel) with
        | true => rw [h4] at h; exact absurd rfl h
        | false =>
          rw [h4] at h
          simp only [cond_false, decide_eq_false_iff_not] at h h4 ⊢
          rw [decide_eq_false (show ¬ steps ≥ fuel2 by omega)]
          simp only [cond_false]
          cases h5 : (stepM M).1 with
          | true =>
            rw [h5] at h
            simp only [cond_true] at h ⊢
            exact ih f2 _ _ (by omega) h
          | false => rfl
theorem runP_mono {l : List Ins} {pg ky : ByteArray} {sc : List UInt8} {fuel fuel2 : Int} (hf : fuel ≤ fuel2) (h : (runP l pg ky sc fuel).1 ≠ 12) : runP l pg ky sc fuel2 = runP l pg ky sc fuel :=
  runF_mono hf _ _ _ _ (by omega) h
end Go.Proofs.YtadaindmgmielaaDoor
