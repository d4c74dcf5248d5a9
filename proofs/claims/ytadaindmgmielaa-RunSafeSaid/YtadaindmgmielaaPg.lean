/- The law's helpers. No condition. -/
import Derived.Test.YtadaindmgmielaaPd
import Derived.Test.YtadaindmgmielaaPf
import Derived.Test.YtadaindmgmielaaPc
namespace Go.Proofs.Ytadaindmgmielaa
open Go.Agm
variable {w0 : World}
abbrev nt0 : Nt := { gh := [], flags := [], paths := [], tr := [] }
/-! full. -/
def m512 (s : ByteArray) : Int := if 512 < (s.size : Int) then 512 else (s.size : Int)
def z512 (s : ByteArray) : Int := w (512 - m512 s)
def zs512 (s : ByteArray) : List Value := (List.replicate (z512 s).toNat [.int .u8 0]).flatten
def fullS (s : ByteArray) : ByteArray := bif (z512 s).toNat.beq 0 then ⟨((s.extract 0 (m512 s).toNat).data.toList ++ []).toArray⟩ else
  ⟨((s.extract 0 (m512 s).toNat).data.toList ++ (ByteArray.mk ((((zs512 s).drop 0).take (z512 s).toNat).map u8O).toArray).data.toList).toArray⟩
theorem eval17 (s : ByteArray) (r : List Value) : pureSeg [] Try.f8 [.string s] r
    = (bif decide (0 ≤ m512 s) && decide (m512 s ≤ (s.size : Int)) then bif decide (0 ≤ z512 s) && decide (z512 s ≤ z512 s) && decide (z512 s ≤ 1099511627776) && room (z512 s).toNat 1 then bif (s.size : Int) == (s.size : Int) && true then
      bif (z512 s).toNat.beq 0 then bif (s.size : Int) == (s.size : Int) && true then bif ((s.extract 0 (m512 s).toNat).size + (ByteArray.mk #[]).size).ble 1099511627776 then
        True ∧ [.string ⟨((s.extract 0 (m512 s).toNat).data.toList ++ []).toArray⟩] = r else False else False
      else bif (0 + (z512 s).toNat).ble (zs512 s).length && (((zs512 s).drop 0).take (z512 s).toNat).all isU8 then bif (s.size : Int) == (s.size : Int) && true then
        bif ((s.extract 0 (m512 s).toNat).size + (ByteArray.mk ((((zs512 s).drop 0).take (z512 s).toNat).map u8O).toArray).size).ble 1099511627776 then
        True ∧ [.string ⟨((s.extract 0 (m512 s).toNat).data.toList ++ (ByteArray.mk ((((zs512 s).drop 0).take (z512 s).toNat).map u8O).toArray).data.toList).toArray⟩] = r else False else False else False else False else False else False) := by kernel_rfl
theorem m512_in (s : ByteArray) : 0 ≤ m512 s ∧ m512 s ≤ (s.size : Int) ∧ m512 s ≤ 512 ∧ z512 s = 512 - m512 s := by
  have h : 0 ≤ m512 s ∧ m512 s ≤ (s.size : Int) ∧ m512 s ≤ 512 := by unfold m512; split <;> omega
  exact ⟨h.1, h.2.1, h.2.2, w_id (by omega) (by omega)⟩
theorem zs512_len (s : ByteArray) : (zs512 s).length = (z512 s).toNat ∧ ∀ x ∈ zs512 s, x = .int .u8 0 := by
  unfold zs512
  constructor
  · generalize (z512 s).toNat = k
    induction k with
    | zero => rfl
    | succ k ih => rw [List.replicate_succ, List.flatten_cons, List.length_append, ih]; simp; omega
  · intro x hx
    obtain ⟨l, h1, h2⟩ := List.mem_flatten.1 hx
    rw [(List.mem_replicate.1 h1).2] at h2
    simpa using h2
theorem extract_size {s : ByteArray} {k : Nat} (h : k ≤ s.size) : (s.extract 0 k).size = k := by rw [ByteArray.size_extract]; omega
theorem sz_list (b : ByteArray) : b.data.toList.length = b.size := Array.length_toList
theorem size_mk (l : List UInt8) : (ByteArray.mk l.toArray).size = l.length := List.size_toArray
theorem fullS_size (s : ByteArray) : (fullS s).size = 512 := by
  obtain ⟨h1, h2, h3, h4⟩ := m512_in s
  obtain ⟨h5, _⟩ := zs512_len s
  have e1 : (s.extract 0 (m512 s).toNat).size = (m512 s).toNat := extract_size (by omega)
  have e2 : (s.extract 0 (m512 s).toNat).data.toList.length = (m512 s).toNat := by rw [sz_list, e1]
  unfold fullS
  cases hz : (z512 s).toNat.beq 0 with
  | true =>
    have := Nat.eq_of_beq_eq_true hz
    rw [cond_true, size_mk, List.append_nil, e2]; omega
  | false =>
    rw [cond_false, size_mk, List.length_append, e2]
    simp only []
    rw [List.length_map, List.length_take, List.drop_zero, h5]; omega
def F17 : List Value → Option (List Value)
  | [.string s] => some [.string (fullS s)]
  | _ => none
def con17 : Con := pureCon 8 F17
theorem con17_ok : con17.ok Try.prog w0 :=
  pure_ok (cs := []) Try.func8 (by kernel_rfl) (fun c hc => by simp at hc) fun args rs e => by
    unfold F17 at e
    split at e <;> first | (simp at e; done) | skip
    rename_i s
    simp only [Option.some.injEq] at e
    subst e
    rw [eval17]
    obtain ⟨h1, h2, h3, h4⟩ := m512_in s
    obtain ⟨h5, h6⟩ := zs512_len s
    have hr : room (z512 s).toNat 1 = true := Nat.ble_eq_true_of_le (by omega)
    have e1 : (s.extract 0 (m512 s).toNat).size = (m512 s).toNat := extract_size (by omega)
    rw [decide_eq_true h1, decide_eq_true h2, decide_eq_true (show 0 ≤ z512 s by omega), decide_eq_true (Int.le_refl (z512 s)), decide_eq_true (show z512 s ≤ 1099511627776 by omega), hr]
    simp only [beq_self_eq_true, Bool.and_self, cond_true]
    unfold fullS
    refine bifP (fun hz => ?_) (fun hz => ?_)
    · rw [hz, cond_true, e1]
      have : ((m512 s).toNat + (ByteArray.mk #[]).size).ble 1099511627776 = true := Nat.ble_eq_true_of_le (by show (m512 s).toNat + 0 ≤ _; omega)
      rw [this]; exact ⟨trivial, rfl⟩
    · rw [hz, cond_false, e1]
      have ha : (0 + (z512 s).toNat).ble (zs512 s).length = true := Nat.ble_eq_true_of_le (by omega)
      have hb : (((zs512 s).drop 0).take (z512 s).toNat).all isU8 = true := by
        rw [List.all_eq_true]
        intro x hx
        rw [h6 x (List.mem_of_mem_drop (List.mem_of_mem_take hx))]; rfl
      have hc : ((m512 s).toNat + (ByteArray.mk ((((zs512 s).drop 0).take (z512 s).toNat).map u8O).toArray).size).ble 1099511627776 = true := by
        have : (ByteArray.mk ((((zs512 s).drop 0).take (z512 s).toNat).map u8O).toArray).size = ((((zs512 s).drop 0).take (z512 s).toNat).map u8O).length := Array.length_toList
        rw [this, List.length_map, List.length_take]
        exact Nat.ble_eq_true_of_le (by omega)
      rw [ha, hb, hc]; exact ⟨trivial, rfl⟩

/-! filled. -/
def filledL (s : ByteArray) : List UInt8 := (s.data.toList.take (s.size.min 64)) ++ List.replicate (64 - s.size.min 64) 0
abbrev sp64 (s : ByteArray) : List Value := splice (List.replicate 64 (.int .u8 0)) 0 ((bytC s.data.toList).take (s.size.min 64 * 1))
def okRun (cs : List Value) : Nat → Nat → Bool
  | 0, _ => true
  | k + 1, i => okI .u8 (nth cs i) && okRun cs k (i + 1)
theorem eval18 (s : ByteArray) (r : List Value) : pureSeg [] Try.f6 [.string s] r
    = (bif (s.size.min 64 * 1).ble (bytC s.data.toList).length then bif Nat.ble 64 (sp64 s).length && okRun (sp64 s) 64 0 then True ∧ [AG ((List.range 64).map fun i => .int .u8 (intO (nth (sp64 s) i)))] = r else False else False) := by kernel_rfl
theorem filledL_len (s : ByteArray) : (filledL s).length = 64 := by
  unfold filledL
  have : s.data.toList.length = s.size := rfl
  have h : s.size.min 64 ≤ 64 := Nat.min_le_right _ _
  have h' : s.size.min 64 ≤ s.size := Nat.min_le_left _ _
  rw [List.length_append, List.length_take, List.length_replicate, this]
  omega
theorem sp64_eq (s : ByteArray) : sp64 s = bytC (filledL s) := by
  have h0 : s.data.toList.length = s.size := rfl
  have h : s.size.min 64 ≤ 64 := Nat.min_le_right _ _
  have h' : s.size.min 64 ≤ s.size := Nat.min_le_left _ _
  have hl : ((bytC s.data.toList).take (s.size.min 64 * 1)).length = s.size.min 64 := by rw [List.length_take, bytC_len, h0]; omega
  unfold sp64 splice filledL
  rw [hl, List.take_zero, List.nil_append, Nat.zero_add]
  unfold bytC
  rw [List.map_append, Nat.mul_one, List.map_take, List.drop_replicate]
  congr 1
  generalize 64 - s.size.min 64 = k
  induction k with
  | zero => rfl
  | succ k ih => rw [List.replicate_succ, List.replicate_succ, List.map_cons, ih]; rfl
theorem okRun_bytC (sc : List UInt8) : ∀ k i, i + k ≤ sc.length → okRun (bytC sc) k i = true
  | 0, i, _ => rfl
  | k + 1, i, h => by
    have hi : i < sc.length := by omega
    have : nth (bytC sc) i = some (.int .u8 (sc[i].toNat : Int)) := by
      rw [nth_eq]; unfold bytC; rw [List.getElem?_map, List.getElem?_eq_getElem hi]; rfl
    rw [okRun, this, okRun_bytC sc k (i + 1) (by omega)]; rfl
theorem lit_of (sc : List UInt8) (h : sc.length = 64) : ((List.range 64).map fun i => (Value.int .u8 (intO (nth (bytC sc) i)))) = lit64 sc := by
  unfold lit64
  refine List.map_congr_left fun i hi => ?_
  have hi : i < sc.length := by rw [h]; exact List.mem_range.1 hi
  have : nth (bytC sc) i = some (.int .u8 (sc[i].toNat : Int)) := by
    rw [nth_eq]; unfold bytC; rw [List.getElem?_map, List.getElem?_eq_getElem hi]; rfl
  rw [this, List.getD_eq_getElem?_getD, List.getElem?_eq_getElem hi]; rfl
def F18 : List Value → Option (List Value)
  | [.string s] => some [AG (lit64 (filledL s))]
  | _ => none
def con18 : Con := pureCon 6 F18
theorem con18_ok : con18.ok Try.prog w0 :=
  pure_ok (cs := []) Try.func6 (by kernel_rfl) (fun c hc => by simp at hc) fun args rs e => by
    unfold F18 at e
    split at e <;> first | (simp at e; done) | skip
    rename_i s
    simp only [Option.some.injEq] at e
    subst e
    rw [eval18]
    have hl := filledL_len s
    have h' : s.size.min 64 ≤ s.size := Nat.min_le_left _ _
    have a1 : (s.size.min 64 * 1).ble (bytC s.data.toList).length = true := by
      rw [bytC_len]
      exact Nat.ble_eq_true_of_le (by show s.size.min 64 * 1 ≤ s.size; omega)
    have a2 : Nat.ble 64 (bytC (filledL s)).length = true := Nat.ble_eq_true_of_le (by rw [bytC_len, hl]; exact Nat.le_refl _)
    have a3 := okRun_bytC (filledL s) 64 0 (by omega)
    rw [a1, sp64_eq, a2, a3, lit_of _ hl]
    exact ⟨trivial, rfl⟩
noncomputable def con15 : Con := { f := 5, gh := [], paths := [], spec := fun args bs => match args, bs with
  | [], [] => some (True, [B true], [])
  | _, _ => none }
abbrev z64 : List UInt8 := List.replicate 64 0
abbrev Z2 : List Ins := [⟨0, 0, 0, 2⟩, ⟨20, 0, 0, 0⟩]
/-- run.Program is asked. -/
abbrev ask19 (n : Nat) (pg ky : ByteArray) (fuel : Int) (cl cs : List Value) (E : End) : Prop :=
  (PlainL cl ∧ PlainL cs ∧ True) ∧ (PlainL cl ∧ PlainL (lit64 E.sc) ∧ True) ∧ (cl = insC (unIns cl) ∧ (unIns cl).length = n ∧ n < 1000000000 ∧ pg.size = 512 ∧ 0 < ky.size ∧ ky.size ≤ 16 ∧ fuel < 1000000000) ∧ (cs = bytC (unB cs) ∧ (unB cs).length = 64) ∧ endOf (runP (unIns cl) pg ky (unB cs) fuel) = E
theorem eval15 (c nx st : Int) (v : ByteArray) (sc : List UInt8) (K : List Value → AHeap → Prop) : evSeg Try.f5 [con17, con19 ⟨none, c, v, nx, st, sc⟩] nt0 [] [] K
    = (TTT ∧ ask19 2 (fullS ⟨#[]⟩) ⟨#[107]⟩ 9 (insC Z2) (bytC z64) ⟨none, c, v, nx, st, sc⟩ ∧ bif c == 2 then True ∧ K [B (st == 2)] (heapB G []) else True ∧ K [B false] (heapB G [])) := by kernel_rfl
theorem run15 : endOf (runP Z2 (fullS ⟨#[]⟩) ⟨#[107]⟩ z64 9) = ⟨none, 2, ⟨#[]⟩, 0, 2, z64⟩ := by kernel_rfl
theorem plain_lit (sc : List UInt8) : PlainL (lit64 sc) := by
  intro x hx
  obtain ⟨i, _, rfl⟩ := List.mem_map.1 hx
  rfl
set_option maxRecDepth 100000 in
theorem con15_ok : con15.ok Try.prog w0 := by
  intro args bs p rs out e _
  simp only [con15] at e
  split at e <;> first | (simp at e; done) | skip
  simp only [Option.some.injEq, Prod.mk.injEq] at e
  obtain ⟨rfl, rfl, rfl⟩ := e
  change CallS Try.prog w0 5 [] (heapB Try.prog.globals.size []) fun rs' h' => rs' = [B true] ∧ h' = heapB Try.prog.globals.size []
  refine ev_callS (nt := nt0) (cs := [con17, con19 ⟨none, 2, ⟨#[]⟩, 0, 2, z64⟩]) (f := 5) (bs := []) Try.func5 (by kernel_rfl) (fun c hc => by
    simp only [List.mem_cons, List.not_mem_nil, or_false] at hc
    rcases hc with rfl | rfl
    · exact con17_ok
    · exact con19_ok) rfl ((eval15 2 0 2 ⟨#[]⟩ z64 _).mpr ?_)
  have hz : (unB (bytC z64)) = z64 := unB_bytC _
  refine ⟨⟨trivial, trivial, trivial⟩, ⟨⟨plain_insC _, plain_bytC _, trivial⟩, ⟨plain_insC _, plain_lit _, trivial⟩, ⟨by rw [unIns_insC], by rw [unIns_insC]; rfl, by omega, fullS_size _, by decide, by decide, by omega⟩, ⟨by rw [hz], by rw [hz]; exact List.length_replicate⟩, ?_⟩, ?_⟩
  · rw [hz, unIns_insC]; exact run15
  · exact ⟨trivial, rfl, rfl⟩

def rU23 (a : Int) : Int :=
  bif decide (a < (-1099511627776 : Int)) then (-1099511627776 : Int) else bif decide (a > (1099511627776 : Int)) then (1099511627776 : Int) else a
theorem evalU23 (a : Int) (r : List Value) :
    pureSeg [] Try.f23 [I a] r
    = (bif decide (a < (-1099511627776 : Int)) then True ∧ [Value.int IntKind.i64 (-1099511627776 : Int)] = r else bif decide (a > (1099511627776 : Int)) then True ∧ [Value.int IntKind.i64 (1099511627776 : Int)] = r else True ∧ [Value.int IntKind.i64 a] = r) := by kernel_rfl
def FU23 : List Value → Option (List Value)
  | [v0] => match intV v0 with
    | some a => some [I (rU23 a)]
    | _ => none
  | _ => none
theorem FU23_eq {args rs : List Value} (e : FU23 args = some rs) : ∃ a : Int, args = [I a] ∧ rs = [I (rU23 a)] := by
  unfold FU23 at e
  split at e
  · rename_i v0
    split at e
    · rename_i a h0
      simp only [Option.some.injEq] at e
      exact ⟨a, by rw [intV_eq h0], e.symm⟩
    · simp at e
  · simp at e
def conU23 : Con := pureCon 23 FU23
set_option maxRecDepth 100000 in
theorem conU23_ok : conU23.ok Try.prog w0 :=
  pure_ok (cs := []) Try.func23 (by kernel_rfl) (fun c hc => by simp at hc) fun args rs e => by
    obtain ⟨a, h1, h2⟩ := FU23_eq e
    rw [h1, h2, evalU23]
    repeat' (first | exact trivial | refine And.intro ?_ ?_ | refine bifP (fun h => ?_) (fun h => ?_))
    all_goals first | (simp only [rU23, *, cond_true, cond_false]; done) | simp_all
def rU12 (a b c : Int) : Bool :=
  bif decide (c ≥ a) then decide (c ≤ b) else false
theorem evalU12 (a b c : Int) (r : List Value) :
    pureSeg [] Try.f12 [AG [I a, I b], I c] r
    = (bif decide (c ≥ a) then True ∧ [Value.bool (decide (c ≤ b))] = r else True ∧ [Value.bool false] = r) := by kernel_rfl
def FU12 : List Value → Option (List Value)
  | [v0, v1] => match aggV v0 with
    | some [a, b] => (match intV v1 with
    | some c => some [B (rU12 a b c)]
    | _ => none)
    | _ => none
  | _ => none
theorem FU12_eq {args rs : List Value} (e : FU12 args = some rs) : ∃ a b c : Int, args = [AG [I a, I b], I c] ∧ rs = [B (rU12 a b c)] := by
  unfold FU12 at e
  split at e
  · rename_i v0 v1
    split at e
    · rename_i a b h0
      split at e
      · rename_i c h1
        simp only [Option.some.injEq] at e
        exact ⟨a, b, c, by rw [aggV_eq h0, intV_eq h1]; rfl, e.symm⟩
      · simp at e
    · simp at e
  · simp at e
def conU12 : Con := pureCon 12 FU12
set_option maxRecDepth 100000 in
theorem conU12_ok : conU12.ok Try.prog w0 :=
  pure_ok (cs := []) Try.func12 (by kernel_rfl) (fun c hc => by simp at hc) fun args rs e => by
    obtain ⟨a, b, c, h1, h2⟩ := FU12_eq e
    rw [h1, h2, evalU12]
    repeat' (first | exact trivial | refine And.intro ?_ ?_ | refine bifP (fun h => ?_) (fun h => ?_))
    all_goals first | (simp only [rU12, *, cond_true, cond_false]; done) | simp_all

noncomputable def ft24 : FT := { loc := fun _ => false, mask := fun id => bif Nat.beq id 7 then live 46 [0, 1, 5, 6] else [] }
noncomputable def todo24 : List Item := todoOf Try.f24 7
noncomputable def fr24 (a n : Int) (neg : Bool) (p : Int) : List AV := frm 46 [(0, .v (I a)), (1, .v (I n)), (5, .v (B neg)), (6, .v (I p))]
abbrev seg24 (K : List Value → AHeap → Prop) (L : List Item → List AV → AHeap → Prop) (t : List Item) (fr : List AV) (h : AHeap) : Prop :=
  segK3 Try.prog ft24 (semI Try.prog (fun _ => ft0) (callsOf G []) 400 20 (retT G ntP K)) Try.f24 [7] 400 t fr (fun t fr h => match t with
  | .code (.region 7 _ _) :: _ => canonT G ntP (L t) fr h
  | _ => False) h

abbrev neg24 (a n : Int) : Bool := decide (a < 0) != decide (n < 0)
theorem start24 (a n : Int) (K : List Value → AHeap → Prop) (L : List Item → List AV → AHeap → Prop) :
    seg24 K L [.code (Try.f24.body.getD .skip)] (startF Try.f24 [I a, I n]) (heapB G [])
    = (bif decide (a < 0) then
        bif decide (n < 0) then True ∧ L todo24 (fr24 (w (0 - a)) (w (0 - n)) (neg24 a n) 0) (heapB G []) else True ∧ L todo24 (fr24 (w (0 - a)) n (neg24 a n) 0) (heapB G [])
      else bif decide (n < 0) then True ∧ L todo24 (fr24 a (w (0 - n)) (neg24 a n) 0) (heapB G []) else True ∧ L todo24 (fr24 a n (neg24 a n) 0) (heapB G [])) := by kernel_rfl

theorem head24 (a n p : Int) (neg : Bool) (K : List Value → AHeap → Prop) (L : List Item → List AV → AHeap → Prop) :
    seg24 K L todo24 (fr24 a n neg p) (heapB G [])
    = (bif decide (n > 0) then
        bif n.tmod 2 == 1 then
          bif decide (w (p + a) > 1099511627776) then True ∧ L todo24 (fr24 (w (a * 2)) 0 neg 1099511627776) (heapB G [])
          else bif decide (a > 1099511627776) then
            bif decide (n > 1) then True ∧ L todo24 (fr24 (w (a * 2)) 0 neg 1099511627776) (heapB G []) else True ∧ L todo24 (fr24 (w (a * 2)) (w (n.tdiv 2)) neg (w (p + a))) (heapB G [])
          else True ∧ L todo24 (fr24 (w (a * 2)) (w (n.tdiv 2)) neg (w (p + a))) (heapB G [])
        else
          bif decide (p > 1099511627776) then True ∧ L todo24 (fr24 (w (a * 2)) 0 neg 1099511627776) (heapB G [])
          else bif decide (a > 1099511627776) then
            bif decide (n > 1) then True ∧ L todo24 (fr24 (w (a * 2)) 0 neg 1099511627776) (heapB G []) else True ∧ L todo24 (fr24 (w (a * 2)) (w (n.tdiv 2)) neg p) (heapB G [])
          else True ∧ L todo24 (fr24 (w (a * 2)) (w (n.tdiv 2)) neg p) (heapB G [])
      else bif neg then True ∧ K [I (w (0 - p))] (heapB G []) else True ∧ K [I p] (heapB G [])) := by kernel_rfl
abbrev Sem24 (w0 : World) (K : List Value → AHeap → Prop) (t : List Item) (fr : List AV) (h : AHeap) : Prop := Agm.Sem Try.prog w0 (Try.prog.globals.size + ntP.flags.length) Try.f24 (retT G ntP K) t fr h
theorem leaf24 {K : List Value → AHeap → Prop} : ∀ t fr h, (match t with
    | .code (.region 7 _ _) :: _ => canonT G ntP (Sem24 w0 K t) fr h
    | _ => False) → Sem24 w0 K t fr h := by
  intro t fr h e
  split at e
  · exact canonT_semN (nt := ntP) rfl e
  · exact e.elim
def minT (x : Int) : Int := if x > 1099511627776 then 1099511627776 else x
theorem minT_big {x : Int} (h : 1099511627776 ≤ x) : minT x = 1099511627776 := by unfold minT; split <;> omega
def sg (neg : Bool) (v : Int) : Int := if neg then -v else v
set_option maxRecDepth 100000 in
theorem loop24 {K : List Value → AHeap → Prop} (neg : Bool) : ∀ (m : Nat) (a p : Int), m < 2147483649 → 0 ≤ a → (m = 0 ∨ a ≤ 2199023255552) → 0 ≤ p → p ≤ 1099511627776 → K [I (sg neg (minT (p + a * m)))] (heapB G []) → Sem24 w0 K todo24 (fr24 a m neg p) (heapB G []) := by
  intro m
  induction m using Nat.strongRecOn with
  | ind m ih =>
    intro a p hm ha ha2 hp hp2 hK
    refine seg_semI3 (F := ft24) mixed (callsOf_ok (fun c hc => by simp at hc)) leaf24 [7] 20 400 ((head24 a m p neg K _).mpr ?_)
    refine bifP (fun c0 => ?_) (fun c0 => ?_)
    · simp only [decide_eq_true_eq] at c0
      have ha3 : a ≤ 2199023255552 := by omega
      have hwa : w (a * 2) = a * 2 := w_id (by omega) (by omega)
      have hwp : w (p + a) = p + a := w_id (by omega) (by omega)
      have hdiv : (m : Int).tdiv 2 = ((m / 2 : Nat) : Int) := by rw [show (2 : Int) = ((2 : Nat) : Int) from rfl, ← Int.ofNat_tdiv]
      have hmod : (m : Int).tmod 2 = ((m % 2 : Nat) : Int) := by rw [show (2 : Int) = ((2 : Nat) : Int) from rfl, ← Int.ofNat_tmod]
      have hwn : w (((m / 2 : Nat) : Int)) = ((m / 2 : Nat) : Int) := w_id (by omega) (by omega)
      have hma : a ≤ a * m := by
        have := Int.mul_le_mul_of_nonneg_left (show (1 : Int) ≤ (m : Int) by omega) ha
        rwa [Int.mul_one] at this
      have full : 1099511627776 ≤ p + a * m → Sem24 w0 K todo24 (fr24 (w (a * 2)) ((0 : Nat) : Int) neg 1099511627776) (heapB G []) := fun h => by
        refine ih 0 (by omega) _ _ (by omega) (by rw [hwa]; omega) (.inl rfl) (by omega) (Int.le_refl _) ?_
        rw [minT_big h] at hK
        rw [show 1099511627776 + w (a * 2) * ((0 : Nat) : Int) = 1099511627776 by simp, minT_big (Int.le_refl _)]
        exact hK
      rw [hdiv, hmod, hwn, hwp]
      refine bifP (fun c1 => ?_) (fun c1 => ?_)
      · have hodd : m % 2 = 1 := by have := beq_iff_eq.1 c1; omega
        have hval : (p + a) + a * 2 * ((m / 2 : Nat) : Int) = p + a * (m : Int) := by
          have e : (m : Int) = 2 * ((m / 2 : Nat) : Int) + 1 := by omega
          rw [e, Int.mul_add, Int.mul_one, ← Int.mul_assoc]
          omega
        refine bifP (fun c2 => ⟨trivial, full (by simp only [decide_eq_true_eq] at c2; omega)⟩) (fun c2 => ?_)
        simp only [decide_eq_false_iff_not] at c2
        refine bifP (fun c3 => ?_) (fun c3 => ?_)
        · exfalso; simp only [decide_eq_true_eq] at c3; omega
        · refine ⟨trivial, ih (m / 2) (by omega) _ _ (by omega) (by rw [hwa]; omega) (.inr (by rw [hwa]; omega)) (by omega) (by omega) ?_⟩
          rw [hwa, hval]; exact hK
      · have heven : m % 2 = 0 := by have := beq_eq_false_iff_ne.1 c1; omega
        have hval : p + a * 2 * ((m / 2 : Nat) : Int) = p + a * (m : Int) := by
          rw [Int.mul_assoc]
          congr 2
          omega
        refine bifP (fun c2 => ⟨trivial, full (by simp only [decide_eq_true_eq] at c2; omega)⟩) (fun c2 => ?_)
        refine bifP (fun c3 => ?_) (fun c3 => ?_)
        · simp only [decide_eq_true_eq] at c3
          refine bifP (fun c4 => ⟨trivial, full (by omega)⟩) (fun c4 => ?_)
          exfalso; simp only [decide_eq_false_iff_not] at c4; omega
        · simp only [decide_eq_false_iff_not] at c3
          refine ⟨trivial, ih (m / 2) (by omega) _ _ (by omega) (by rw [hwa]; omega) (.inr (by rw [hwa]; omega)) hp hp2 ?_⟩
          rw [hwa, hval]; exact hK
    · simp only [decide_eq_false_iff_not] at c0
      have h0 : m = 0 := by omega
      subst h0
      have e : minT (p + a * ((0 : Nat) : Int)) = p := by
        rw [show p + a * ((0 : Nat) : Int) = p by simp]
        unfold minT
        rw [if_neg (by omega)]
      rw [e] at hK
      refine bifP (fun c => ?_) (fun c => ?_)
      · subst c
        rw [w_id (by omega) (by omega), show 0 - p = -p by omega]
        exact ⟨trivial, hK⟩
      · subst c
        exact ⟨trivial, hK⟩
/-- The cap of a product, by its sign. -/
theorem cap_sign {a n : Int} : sg (neg24 a n) (minT ((a.natAbs : Int) * (n.natAbs : Int))) = r28 (a * n) := by
  have e : (a.natAbs : Int) * (n.natAbs : Int) = ((a * n).natAbs : Int) := by rw [Int.natAbs_mul]; simp
  rw [e]
  unfold sg minT r28 neg24
  by_cases ha : a < 0
  · by_cases h : n < 0
    · have := Int.mul_nonneg_of_nonpos_of_nonpos (show a ≤ 0 by omega) (show n ≤ 0 by omega)
      rw [decide_eq_true ha, decide_eq_true h]
      simp only [bne_self_eq_false, Bool.false_eq_true, if_false]
      repeat' split
      all_goals omega
    · have := Int.mul_nonpos_of_nonpos_of_nonneg (show a ≤ 0 by omega) (show 0 ≤ n by omega)
      rw [decide_eq_true ha, decide_eq_false h]
      simp only [Bool.bne_false, if_true]
      repeat' split
      all_goals omega
  · by_cases h : n < 0
    · have := Int.mul_nonpos_of_nonneg_of_nonpos (show 0 ≤ a by omega) (show n ≤ 0 by omega)
      rw [decide_eq_false ha, decide_eq_true h]
      simp only [Bool.bne_true, Bool.not_false, if_true]
      repeat' split
      all_goals omega
    · have := Int.mul_nonneg (show 0 ≤ a by omega) (show 0 ≤ n by omega)
      rw [decide_eq_false ha, decide_eq_false h]
      simp only [bne_self_eq_false, Bool.false_eq_true, if_false]
      repeat' split
      all_goals omega
/-- Times. -/
def conT24 : Con := { f := 24, gh := [], paths := [], spec := fun args bs => match args, bs with
  | [x, y], [] => match intV x, intV y with
    | some a, some n => some (In40 a ∧ -2147483648 ≤ n ∧ n < 2147483648, [I (r77 a n)], [])
    | _, _ => none
  | _, _ => none }
set_option maxRecDepth 100000 in
theorem conT24_ok : conT24.ok Try.prog w0 := by
  intro args bs p rs out e hp
  simp only [conT24] at e
  split at e <;> first | (simp at e; done) | skip
  rename_i x y
  split at e <;> first | (simp at e; done) | skip
  rename_i a n hx hy
  simp only [Option.some.injEq, Prod.mk.injEq] at e
  obtain ⟨rfl, rfl, rfl⟩ := e
  obtain ⟨ha, hn⟩ := hp
  rw [intV_eq hx, intV_eq hy]
  have hval : I (sg (neg24 a n) (minT (0 + (a.natAbs : Int) * (n.natAbs : Int)))) = I (r77 a n) := by
    rw [r77_eq ha hn, Int.zero_add]
    by_cases h0 : n = 0
    · subst h0
      rw [Int.mul_zero]
      show I (sg _ (minT ((a.natAbs : Int) * 0))) = _
      rw [Int.mul_zero]
      unfold sg minT
      split <;> rfl
    · rw [cap_sign]
  refine con_body (nt := ntP) (out := []) (bs := []) (cd := Try.f24.body.getD .skip) Try.func24 (by kernel_rfl) rfl ?_
  have go : ∀ (neg : Bool) (m k : Nat), neg = neg24 a n → m = n.natAbs → k = a.natAbs → Sem24 w0 (fun rs' h' => rs' = [I (r77 a n)] ∧ h' = heapB Try.prog.globals.size []) todo24 (fr24 (k : Int) (m : Int) neg 0) (heapB G []) := by
    intro neg m k e1 e2 e3
    unfold In40 at ha
    refine loop24 neg m _ _ (by omega) (by omega) (.inr (by omega)) (Int.le_refl _) (by omega) ⟨?_, rfl⟩
    rw [e1, e2, e3, hval]
  have ha' := ha
  unfold In40 at ha'
  refine seg_semI3 (F := ft24) mixed (callsOf_ok (fun c hc => by simp at hc)) leaf24 [7] 20 400 ((start24 a n _ _).mpr ?_)
  refine bifP (fun c1 => ?_) (fun c1 => ?_)
  · refine bifP (fun c2 => ⟨trivial, ?_⟩) (fun c2 => ⟨trivial, ?_⟩)
    · simp only [decide_eq_true_eq] at c1 c2
      rw [show w (0 - a) = (a.natAbs : Int) by rw [w_id (by omega) (by omega)]; omega, show w (0 - n) = (n.natAbs : Int) by rw [w_id (by omega) (by omega)]; omega]
      exact go _ _ _ rfl rfl rfl
    · simp only [decide_eq_true_eq, decide_eq_false_iff_not] at c1 c2
      have := go _ _ _ rfl rfl rfl
      rw [show w (0 - a) = (a.natAbs : Int) by rw [w_id (by omega) (by omega)]; omega]
      rw [show (n.natAbs : Int) = n by omega] at this
      exact this
  · refine bifP (fun c2 => ⟨trivial, ?_⟩) (fun c2 => ⟨trivial, ?_⟩)
    · simp only [decide_eq_true_eq, decide_eq_false_iff_not] at c1 c2
      have := go _ _ _ rfl rfl rfl
      rw [show w (0 - n) = (n.natAbs : Int) by rw [w_id (by omega) (by omega)]; omega]
      rw [show (a.natAbs : Int) = a by omega] at this
      exact this
    · simp only [decide_eq_false_iff_not] at c1 c2
      have := go _ _ _ rfl rfl rfl
      rw [show (n.natAbs : Int) = n by omega, show (a.natAbs : Int) = a by omega] at this
      exact this

theorem evR0 (d s imm : Int) (r : List Value) :
    pureSeg [] Try.f22 [AG [I 0, I d, I s, I imm]] r
    = (bif decide (d < (0 : Int)) then True ∧ [Value.bool false] = r
else
  bif decide (d > (7 : Int)) then True ∧ [Value.bool false] = r
  else
    bif decide (s < (0 : Int)) then True ∧ [Value.bool false] = r
    else
      bif decide (s > (7 : Int)) then True ∧ [Value.bool false] = r
      else bif decide (imm < (-2147483648 : Int)) then True ∧ [Value.bool false] = r else bif decide (imm > (2147483647 : Int)) then True ∧ [Value.bool false] = r else bif s != (0 : Int) then True ∧ [Value.bool false] = r else True ∧ [Value.bool true] = r) := by kernel_rfl
theorem evR1 (d s imm : Int) (r : List Value) :
    pureSeg [] Try.f22 [AG [I 1, I d, I s, I imm]] r
    = (bif decide (d < (0 : Int)) then True ∧ [Value.bool false] = r
else
  bif decide (d > (7 : Int)) then True ∧ [Value.bool false] = r
  else
    bif decide (s < (0 : Int)) then True ∧ [Value.bool false] = r
    else
      bif decide (s > (7 : Int)) then True ∧ [Value.bool false] = r
      else bif decide (imm < (-2147483648 : Int)) then True ∧ [Value.bool false] = r else bif decide (imm > (2147483647 : Int)) then True ∧ [Value.bool false] = r else bif imm != (0 : Int) then True ∧ [Value.bool false] = r else True ∧ [Value.bool true] = r) := by kernel_rfl
theorem evR2 (d s imm : Int) (r : List Value) :
    pureSeg [] Try.f22 [AG [I 2, I d, I s, I imm]] r
    = (bif decide (d < (0 : Int)) then True ∧ [Value.bool false] = r
else
  bif decide (d > (7 : Int)) then True ∧ [Value.bool false] = r
  else
    bif decide (s < (0 : Int)) then True ∧ [Value.bool false] = r
    else
      bif decide (s > (7 : Int)) then True ∧ [Value.bool false] = r
      else bif decide (imm < (-2147483648 : Int)) then True ∧ [Value.bool false] = r else bif decide (imm > (2147483647 : Int)) then True ∧ [Value.bool false] = r else bif imm != (0 : Int) then True ∧ [Value.bool false] = r else True ∧ [Value.bool true] = r) := by kernel_rfl
theorem evR3 (d s imm : Int) (r : List Value) :
    pureSeg [] Try.f22 [AG [I 3, I d, I s, I imm]] r
    = (bif decide (d < (0 : Int)) then True ∧ [Value.bool false] = r
else
  bif decide (d > (7 : Int)) then True ∧ [Value.bool false] = r
  else
    bif decide (s < (0 : Int)) then True ∧ [Value.bool false] = r
    else
      bif decide (s > (7 : Int)) then True ∧ [Value.bool false] = r
      else bif decide (imm < (-2147483648 : Int)) then True ∧ [Value.bool false] = r else bif decide (imm > (2147483647 : Int)) then True ∧ [Value.bool false] = r else bif imm != (0 : Int) then True ∧ [Value.bool false] = r else True ∧ [Value.bool true] = r) := by kernel_rfl
theorem evR4 (d s imm : Int) (r : List Value) :
    pureSeg [] Try.f22 [AG [I 4, I d, I s, I imm]] r
    = (bif decide (d < (0 : Int)) then True ∧ [Value.bool false] = r
else
  bif decide (d > (7 : Int)) then True ∧ [Value.bool false] = r
  else
    bif decide (s < (0 : Int)) then True ∧ [Value.bool false] = r
    else
      bif decide (s > (7 : Int)) then True ∧ [Value.bool false] = r
      else bif decide (imm < (-2147483648 : Int)) then True ∧ [Value.bool false] = r else bif decide (imm > (2147483647 : Int)) then True ∧ [Value.bool false] = r else bif s != (0 : Int) then True ∧ [Value.bool false] = r else True ∧ [Value.bool true] = r) := by kernel_rfl
theorem evR5 (d s imm : Int) (r : List Value) :
    pureSeg [] Try.f22 [AG [I 5, I d, I s, I imm]] r
    = (bif decide (d < (0 : Int)) then True ∧ [Value.bool false] = r
else
  bif decide (d > (7 : Int)) then True ∧ [Value.bool false] = r
  else
    bif decide (s < (0 : Int)) then True ∧ [Value.bool false] = r
    else
      bif decide (s > (7 : Int)) then True ∧ [Value.bool false] = r
      else bif decide (imm < (-2147483648 : Int)) then True ∧ [Value.bool false] = r else bif decide (imm > (2147483647 : Int)) then True ∧ [Value.bool false] = r else bif s != (0 : Int) then True ∧ [Value.bool false] = r else True ∧ [Value.bool true] = r) := by kernel_rfl
theorem evR6 (d s imm : Int) (r : List Value) :
    pureSeg [] Try.f22 [AG [I 6, I d, I s, I imm]] r
    = (bif decide (d < (0 : Int)) then True ∧ [Value.bool false] = r
else
  bif decide (d > (7 : Int)) then True ∧ [Value.bool false] = r
  else
    bif decide (s < (0 : Int)) then True ∧ [Value.bool false] = r
    else
      bif decide (s > (7 : Int)) then True ∧ [Value.bool false] = r
      else
        bif decide (imm < (-2147483648 : Int)) then True ∧ [Value.bool false] = r
        else bif decide (imm > (2147483647 : Int)) then True ∧ [Value.bool false] = r else bif s != (0 : Int) then True ∧ [Value.bool false] = r else bif decide (imm < (0 : Int)) then True ∧ [Value.bool false] = r else True ∧ [Value.bool true] = r) := by kernel_rfl
theorem evR7 (d s imm : Int) (r : List Value) :
    pureSeg [] Try.f22 [AG [I 7, I d, I s, I imm]] r
    = (bif decide (d < (0 : Int)) then True ∧ [Value.bool false] = r
else
  bif decide (d > (7 : Int)) then True ∧ [Value.bool false] = r
  else
    bif decide (s < (0 : Int)) then True ∧ [Value.bool false] = r
    else bif decide (s > (7 : Int)) then True ∧ [Value.bool false] = r else bif decide (imm < (-2147483648 : Int)) then True ∧ [Value.bool false] = r else bif decide (imm > (2147483647 : Int)) then True ∧ [Value.bool false] = r else True ∧ [Value.bool true] = r) := by kernel_rfl
theorem evR8 (d s imm : Int) (r : List Value) :
    pureSeg [] Try.f22 [AG [I 8, I d, I s, I imm]] r
    = (bif decide (d < (0 : Int)) then True ∧ [Value.bool false] = r
else
  bif decide (d > (7 : Int)) then True ∧ [Value.bool false] = r
  else
    bif decide (s < (0 : Int)) then True ∧ [Value.bool false] = r
    else bif decide (s > (7 : Int)) then True ∧ [Value.bool false] = r else bif decide (imm < (-2147483648 : Int)) then True ∧ [Value.bool false] = r else bif decide (imm > (2147483647 : Int)) then True ∧ [Value.bool false] = r else True ∧ [Value.bool true] = r) := by kernel_rfl
theorem evR9 (d s imm : Int) (r : List Value) :
    pureSeg [] Try.f22 [AG [I 9, I d, I s, I imm]] r
    = (bif decide (d < (0 : Int)) then True ∧ [Value.bool false] = r
else
  bif decide (d > (7 : Int)) then True ∧ [Value.bool false] = r
  else
    bif decide (s < (0 : Int)) then True ∧ [Value.bool false] = r
    else bif decide (s > (7 : Int)) then True ∧ [Value.bool false] = r else bif decide (imm < (-2147483648 : Int)) then True ∧ [Value.bool false] = r else bif decide (imm > (2147483647 : Int)) then True ∧ [Value.bool false] = r else True ∧ [Value.bool true] = r) := by kernel_rfl
theorem evR10 (d s imm : Int) (r : List Value) :
    pureSeg [] Try.f22 [AG [I 10, I d, I s, I imm]] r
    = (bif decide (d < (0 : Int)) then True ∧ [Value.bool false] = r
else
  bif decide (d > (7 : Int)) then True ∧ [Value.bool false] = r
  else
    bif decide (s < (0 : Int)) then True ∧ [Value.bool false] = r
    else bif decide (s > (7 : Int)) then True ∧ [Value.bool false] = r else bif decide (imm < (-2147483648 : Int)) then True ∧ [Value.bool false] = r else bif decide (imm > (2147483647 : Int)) then True ∧ [Value.bool false] = r else True ∧ [Value.bool true] = r) := by kernel_rfl
theorem evR11 (d s imm : Int) (r : List Value) :
    pureSeg [] Try.f22 [AG [I 11, I d, I s, I imm]] r
    = (bif decide (d < (0 : Int)) then True ∧ [Value.bool false] = r
else
  bif decide (d > (7 : Int)) then True ∧ [Value.bool false] = r
  else
    bif decide (s < (0 : Int)) then True ∧ [Value.bool false] = r
    else bif decide (s > (7 : Int)) then True ∧ [Value.bool false] = r else bif decide (imm < (-2147483648 : Int)) then True ∧ [Value.bool false] = r else bif decide (imm > (2147483647 : Int)) then True ∧ [Value.bool false] = r else True ∧ [Value.bool true] = r) := by kernel_rfl
theorem evR12 (d s imm : Int) (r : List Value) :
    pureSeg [] Try.f22 [AG [I 12, I d, I s, I imm]] r
    = (bif decide (d < (0 : Int)) then True ∧ [Value.bool false] = r
else
  bif decide (d > (7 : Int)) then True ∧ [Value.bool false] = r
  else
    bif decide (s < (0 : Int)) then True ∧ [Value.bool false] = r
    else
      bif decide (s > (7 : Int)) then True ∧ [Value.bool false] = r
      else
        bif decide (imm < (-2147483648 : Int)) then True ∧ [Value.bool false] = r
        else
          bif decide (imm > (2147483647 : Int)) then True ∧ [Value.bool false] = r
          else
            bif d != (0 : Int) then True ∧ [Value.bool false] = r else bif s != (0 : Int) then True ∧ [Value.bool false] = r else bif decide (imm < (0 : Int)) then True ∧ [Value.bool false] = r else bif decide (imm > (127 : Int)) then True ∧ [Value.bool false] = r else True ∧ [Value.bool true] = r) := by kernel_rfl
theorem evR13 (d s imm : Int) (r : List Value) :
    pureSeg [] Try.f22 [AG [I 13, I d, I s, I imm]] r
    = (bif decide (d < (0 : Int)) then True ∧ [Value.bool false] = r
else
  bif decide (d > (7 : Int)) then True ∧ [Value.bool false] = r
  else
    bif decide (s < (0 : Int)) then True ∧ [Value.bool false] = r
    else
      bif decide (s > (7 : Int)) then True ∧ [Value.bool false] = r
      else
        bif decide (imm < (-2147483648 : Int)) then True ∧ [Value.bool false] = r
        else bif decide (imm > (2147483647 : Int)) then True ∧ [Value.bool false] = r else bif decide (imm < (0 : Int)) then True ∧ [Value.bool false] = r else bif decide (imm > (127 : Int)) then True ∧ [Value.bool false] = r else True ∧ [Value.bool true] = r) := by kernel_rfl
theorem evR14 (d s imm : Int) (r : List Value) :
    pureSeg [] Try.f22 [AG [I 14, I d, I s, I imm]] r
    = (bif decide (d < (0 : Int)) then True ∧ [Value.bool false] = r
else
  bif decide (d > (7 : Int)) then True ∧ [Value.bool false] = r
  else
    bif decide (s < (0 : Int)) then True ∧ [Value.bool false] = r
    else
      bif decide (s > (7 : Int)) then True ∧ [Value.bool false] = r
      else
        bif decide (imm < (-2147483648 : Int)) then True ∧ [Value.bool false] = r
        else bif decide (imm > (2147483647 : Int)) then True ∧ [Value.bool false] = r else bif decide (imm < (0 : Int)) then True ∧ [Value.bool false] = r else bif decide (imm > (127 : Int)) then True ∧ [Value.bool false] = r else True ∧ [Value.bool true] = r) := by kernel_rfl
theorem evR15 (d s imm : Int) (r : List Value) :
    pureSeg [] Try.f22 [AG [I 15, I d, I s, I imm]] r
    = (bif decide (d < (0 : Int)) then True ∧ [Value.bool false] = r
else
  bif decide (d > (7 : Int)) then True ∧ [Value.bool false] = r
  else
    bif decide (s < (0 : Int)) then True ∧ [Value.bool false] = r
    else
      bif decide (s > (7 : Int)) then True ∧ [Value.bool false] = r
      else
        bif decide (imm < (-2147483648 : Int)) then True ∧ [Value.bool false] = r
        else bif decide (imm > (2147483647 : Int)) then True ∧ [Value.bool false] = r else bif decide (imm < (0 : Int)) then True ∧ [Value.bool false] = r else bif decide (imm > (127 : Int)) then True ∧ [Value.bool false] = r else True ∧ [Value.bool true] = r) := by kernel_rfl
theorem evR16 (d s imm : Int) (r : List Value) :
    pureSeg [] Try.f22 [AG [I 16, I d, I s, I imm]] r
    = (bif decide (d < (0 : Int)) then True ∧ [Value.bool false] = r
else
  bif decide (d > (7 : Int)) then True ∧ [Value.bool false] = r
  else
    bif decide (s < (0 : Int)) then True ∧ [Value.bool false] = r
    else
      bif decide (s > (7 : Int)) then True ∧ [Value.bool false] = r
      else
        bif decide (imm < (-2147483648 : Int)) then True ∧ [Value.bool false] = r
        else bif decide (imm > (2147483647 : Int)) then True ∧ [Value.bool false] = r else bif decide (imm < (0 : Int)) then True ∧ [Value.bool false] = r else bif decide (imm > (127 : Int)) then True ∧ [Value.bool false] = r else True ∧ [Value.bool true] = r) := by kernel_rfl
theorem evR17 (d s imm : Int) (r : List Value) :
    pureSeg [] Try.f22 [AG [I 17, I d, I s, I imm]] r
    = (bif decide (d < (0 : Int)) then True ∧ [Value.bool false] = r
else
  bif decide (d > (7 : Int)) then True ∧ [Value.bool false] = r
  else
    bif decide (s < (0 : Int)) then True ∧ [Value.bool false] = r
    else
      bif decide (s > (7 : Int)) then True ∧ [Value.bool false] = r
      else
        bif decide (imm < (-2147483648 : Int)) then True ∧ [Value.bool false] = r
        else
          bif decide (imm > (2147483647 : Int)) then True ∧ [Value.bool false] = r
          else bif d != (0 : Int) then True ∧ [Value.bool false] = r else bif s != (0 : Int) then True ∧ [Value.bool false] = r else bif decide (imm ≥ (1 : Int)) then True ∧ [Value.bool (decide (imm ≤ (64 : Int)))] = r else True ∧ [Value.bool false] = r) := by kernel_rfl
theorem evR18 (d s imm : Int) (r : List Value) :
    pureSeg [] Try.f22 [AG [I 18, I d, I s, I imm]] r
    = (bif decide (d < (0 : Int)) then True ∧ [Value.bool false] = r
else
  bif decide (d > (7 : Int)) then True ∧ [Value.bool false] = r
  else
    bif decide (s < (0 : Int)) then True ∧ [Value.bool false] = r
    else
      bif decide (s > (7 : Int)) then True ∧ [Value.bool false] = r
      else
        bif decide (imm < (-2147483648 : Int)) then True ∧ [Value.bool false] = r
        else bif decide (imm > (2147483647 : Int)) then True ∧ [Value.bool false] = r else bif d == (0 : Int) then bif s == (0 : Int) then True ∧ [Value.bool (imm == (0 : Int))] = r else True ∧ [Value.bool false] = r else True ∧ [Value.bool false] = r) := by kernel_rfl
theorem evR19 (d s imm : Int) (r : List Value) :
    pureSeg [] Try.f22 [AG [I 19, I d, I s, I imm]] r
    = (bif decide (d < (0 : Int)) then True ∧ [Value.bool false] = r
else
  bif decide (d > (7 : Int)) then True ∧ [Value.bool false] = r
  else
    bif decide (s < (0 : Int)) then True ∧ [Value.bool false] = r
    else
      bif decide (s > (7 : Int)) then True ∧ [Value.bool false] = r
      else
        bif decide (imm < (-2147483648 : Int)) then True ∧ [Value.bool false] = r
        else
          bif decide (imm > (2147483647 : Int)) then True ∧ [Value.bool false] = r
          else bif d == (0 : Int) then bif s == (0 : Int) then bif decide (imm ≥ (1 : Int)) then True ∧ [Value.bool (decide (imm ≤ (3 : Int)))] = r else True ∧ [Value.bool false] = r else True ∧ [Value.bool false] = r else True ∧ [Value.bool false] = r) := by kernel_rfl
theorem evR20 (d s imm : Int) (r : List Value) :
    pureSeg [] Try.f22 [AG [I 20, I d, I s, I imm]] r
    = (bif decide (d < (0 : Int)) then True ∧ [Value.bool false] = r
else
  bif decide (d > (7 : Int)) then True ∧ [Value.bool false] = r
  else
    bif decide (s < (0 : Int)) then True ∧ [Value.bool false] = r
    else
      bif decide (s > (7 : Int)) then True ∧ [Value.bool false] = r
      else
        bif decide (imm < (-2147483648 : Int)) then True ∧ [Value.bool false] = r
        else bif decide (imm > (2147483647 : Int)) then True ∧ [Value.bool false] = r else bif d == (0 : Int) then bif s == (0 : Int) then True ∧ [Value.bool (imm == (0 : Int))] = r else True ∧ [Value.bool false] = r else True ∧ [Value.bool false] = r) := by kernel_rfl

structure Yes (o d s i : Int) : Prop where
  un : pureSeg [] Try.f22 [AG [I o, I d, I s, I i]] [B true]
theorem yes0 {d s imm : Int} (h : right ⟨0, d, s, imm⟩ = true) : Yes 0 d s imm := by
  simp [right, r29, r50, r51] at h
  constructor
  rw [evR0]
  repeat' (first | exact ⟨trivial, rfl⟩ | refine bifP (fun c => ?_) (fun c => ?_))
  all_goals first
    | (exfalso; simp at *; omega)
    | (refine ⟨trivial, ?_⟩; simp; omega)
theorem yes1 {d s imm : Int} (h : right ⟨1, d, s, imm⟩ = true) : Yes 1 d s imm := by
  simp [right, r29, r50, r51] at h
  constructor
  rw [evR1]
  repeat' (first | exact ⟨trivial, rfl⟩ | refine bifP (fun c => ?_) (fun c => ?_))
  all_goals first
    | (exfalso; simp at *; omega)
    | (refine ⟨trivial, ?_⟩; simp; omega)
theorem yes2 {d s imm : Int} (h : right ⟨2, d, s, imm⟩ = true) : Yes 2 d s imm := by
  simp [right, r29, r50, r51] at h
  constructor
  rw [evR2]
  repeat' (first | exact ⟨trivial, rfl⟩ | refine bifP (fun c => ?_) (fun c => ?_))
  all_goals first
    | (exfalso; simp at *; omega)
    | (refine ⟨trivial, ?_⟩; simp; omega)
theorem yes3 {d s imm : Int} (h : right ⟨3, d, s, imm⟩ = true) : Yes 3 d s imm := by
  simp [right, r29, r50, r51] at h
  constructor
  rw [evR3]
  repeat' (first | exact ⟨trivial, rfl⟩ | refine bifP (fun c => ?_) (fun c => ?_))
  all_goals first
    | (exfalso; simp at *; omega)
    | (refine ⟨trivial, ?_⟩; simp; omega)
theorem yes4 {d s imm : Int} (h : right ⟨4, d, s, imm⟩ = true) : Yes 4 d s imm := by
  simp [right, r29, r50, r51] at h
  constructor
  rw [evR4]
  repeat' (first | exact ⟨trivial, rfl⟩ | refine bifP (fun c => ?_) (fun c => ?_))
  all_goals first
    | (exfalso; simp at *; omega)
    | (refine ⟨trivial, ?_⟩; simp; omega)
theorem yes5 {d s imm : Int} (h : right ⟨5, d, s, imm⟩ = true) : Yes 5 d s imm := by
  simp [right, r29, r50, r51] at h
  constructor
  rw [evR5]
  repeat' (first | exact ⟨trivial, rfl⟩ | refine bifP (fun c => ?_) (fun c => ?_))
  all_goals first
    | (exfalso; simp at *; omega)
    | (refine ⟨trivial, ?_⟩; simp; omega)
theorem yes6 {d s imm : Int} (h : right ⟨6, d, s, imm⟩ = true) : Yes 6 d s imm := by
  simp [right, r29, r50, r51] at h
  constructor
  rw [evR6]
  repeat' (first | exact ⟨trivial, rfl⟩ | refine bifP (fun c => ?_) (fun c => ?_))
  all_goals first
    | (exfalso; simp at *; omega)
    | (refine ⟨trivial, ?_⟩; simp; omega)
theorem yes7 {d s imm : Int} (h : right ⟨7, d, s, imm⟩ = true) : Yes 7 d s imm := by
  simp [right, r29, r50, r51] at h
  constructor
  rw [evR7]
  repeat' (first | exact ⟨trivial, rfl⟩ | refine bifP (fun c => ?_) (fun c => ?_))
  all_goals first
    | (exfalso; simp at *; omega)
    | (refine ⟨trivial, ?_⟩; simp; omega)
theorem yes8 {d s imm : Int} (h : right ⟨8, d, s, imm⟩ = true) : Yes 8 d s imm := by
  simp [right, r29, r50, r51] at h
  constructor
  rw [evR8]
  repeat' (first | exact ⟨trivial, rfl⟩ | refine bifP (fun c => ?_) (fun c => ?_))
  all_goals first
    | (exfalso; simp at *; omega)
    | (refine ⟨trivial, ?_⟩; simp; omega)
theorem yes9 {d s imm : Int} (h : right ⟨9, d, s, imm⟩ = true) : Yes 9 d s imm := by
  simp [right, r29, r50, r51] at h
  constructor
  rw [evR9]
  repeat' (first | exact ⟨trivial, rfl⟩ | refine bifP (fun c => ?_) (fun c => ?_))
  all_goals first
    | (exfalso; simp at *; omega)
    | (refine ⟨trivial, ?_⟩; simp; omega)
theorem yes10 {d s imm : Int} (h : right ⟨10, d, s, imm⟩ = true) : Yes 10 d s imm := by
  simp [right, r29, r50, r51] at h
  constructor
  rw [evR10]
  repeat' (first | exact ⟨trivial, rfl⟩ | refine bifP (fun c => ?_) (fun c => ?_))
  all_goals first
    | (exfalso; simp at *; omega)
    | (refine ⟨trivial, ?_⟩; simp; omega)
theorem yes11 {d s imm : Int} (h : right ⟨11, d, s, imm⟩ = true) : Yes 11 d s imm := by
  simp [right, r29, r50, r51] at h
  constructor
  rw [evR11]
  repeat' (first | exact ⟨trivial, rfl⟩ | refine bifP (fun c => ?_) (fun c => ?_))
  all_goals first
    | (exfalso; simp at *; omega)
    | (refine ⟨trivial, ?_⟩; simp; omega)
theorem yes12 {d s imm : Int} (h : right ⟨12, d, s, imm⟩ = true) : Yes 12 d s imm := by
  simp [right, r29, r50, r51] at h
  constructor
  rw [evR12]
  repeat' (first | exact ⟨trivial, rfl⟩ | refine bifP (fun c => ?_) (fun c => ?_))
  all_goals first
    | (exfalso; simp at *; omega)
    | (refine ⟨trivial, ?_⟩; simp; omega)
theorem yes13 {d s imm : Int} (h : right ⟨13, d, s, imm⟩ = true) : Yes 13 d s imm := by
  simp [right, r29, r50, r51] at h
  constructor
  rw [evR13]
  repeat' (first | exact ⟨trivial, rfl⟩ | refine bifP (fun c => ?_) (fun c => ?_))
  all_goals first
    | (exfalso; simp at *; omega)
    | (refine ⟨trivial, ?_⟩; simp; omega)
theorem yes14 {d s imm : Int} (h : right ⟨14, d, s, imm⟩ = true) : Yes 14 d s imm := by
  simp [right, r29, r50, r51] at h
  constructor
  rw [evR14]
  repeat' (first | exact ⟨trivial, rfl⟩ | refine bifP (fun c => ?_) (fun c => ?_))
  all_goals first
    | (exfalso; simp at *; omega)
    | (refine ⟨trivial, ?_⟩; simp; omega)
theorem yes15 {d s imm : Int} (h : right ⟨15, d, s, imm⟩ = true) : Yes 15 d s imm := by
  simp [right, r29, r50, r51] at h
  constructor
  rw [evR15]
  repeat' (first | exact ⟨trivial, rfl⟩ | refine bifP (fun c => ?_) (fun c => ?_))
  all_goals first
    | (exfalso; simp at *; omega)
    | (refine ⟨trivial, ?_⟩; simp; omega)
theorem yes16 {d s imm : Int} (h : right ⟨16, d, s, imm⟩ = true) : Yes 16 d s imm := by
  simp [right, r29, r50, r51] at h
  constructor
  rw [evR16]
  repeat' (first | exact ⟨trivial, rfl⟩ | refine bifP (fun c => ?_) (fun c => ?_))
  all_goals first
    | (exfalso; simp at *; omega)
    | (refine ⟨trivial, ?_⟩; simp; omega)
theorem yes17 {d s imm : Int} (h : right ⟨17, d, s, imm⟩ = true) : Yes 17 d s imm := by
  simp [right, r29, r50, r51] at h
  constructor
  rw [evR17]
  repeat' (first | exact ⟨trivial, rfl⟩ | refine bifP (fun c => ?_) (fun c => ?_))
  all_goals first
    | (exfalso; simp at *; omega)
    | (refine ⟨trivial, ?_⟩; simp; omega)
theorem yes18 {d s imm : Int} (h : right ⟨18, d, s, imm⟩ = true) : Yes 18 d s imm := by
  simp [right, r29, r50, r51] at h
  constructor
  rw [evR18]
  repeat' (first | exact ⟨trivial, rfl⟩ | refine bifP (fun c => ?_) (fun c => ?_))
  all_goals first
    | (exfalso; simp at *; omega)
    | (refine ⟨trivial, ?_⟩; simp; omega)
theorem yes19 {d s imm : Int} (h : right ⟨19, d, s, imm⟩ = true) : Yes 19 d s imm := by
  simp [right, r29, r50, r51] at h
  constructor
  rw [evR19]
  repeat' (first | exact ⟨trivial, rfl⟩ | refine bifP (fun c => ?_) (fun c => ?_))
  all_goals first
    | (exfalso; simp at *; omega)
    | (refine ⟨trivial, ?_⟩; simp; omega)
theorem yes20 {d s imm : Int} (h : right ⟨20, d, s, imm⟩ = true) : Yes 20 d s imm := by
  simp [right, r29, r50, r51] at h
  constructor
  rw [evR20]
  repeat' (first | exact ⟨trivial, rfl⟩ | refine bifP (fun c => ?_) (fun c => ?_))
  all_goals first
    | (exfalso; simp at *; omega)
    | (refine ⟨trivial, ?_⟩; simp; omega)

def conR : Con := { f := 22, gh := [], paths := [], spec := fun args bs => match args, bs with
  | [v], [] => match aggV v with
    | some [o, d, s, i] => some (right ⟨o, d, s, i⟩ = true, [B true], [])
    | _ => none
  | _, _ => none }
theorem yesx0 {x : Ins} (h : right x = true) (e : x.op = 0) : Yes x.op x.d x.s x.imm := by
  obtain ⟨o, d, s, i⟩ := x
  have e2 : o = 0 := e
  subst e2
  exact yes0 h
theorem yesx1 {x : Ins} (h : right x = true) (e : x.op = 1) : Yes x.op x.d x.s x.imm := by
  obtain ⟨o, d, s, i⟩ := x
  have e2 : o = 1 := e
  subst e2
  exact yes1 h
theorem yesx2 {x : Ins} (h : right x = true) (e : x.op = 2) : Yes x.op x.d x.s x.imm := by
  obtain ⟨o, d, s, i⟩ := x
  have e2 : o = 2 := e
  subst e2
  exact yes2 h
theorem yesx3 {x : Ins} (h : right x = true) (e : x.op = 3) : Yes x.op x.d x.s x.imm := by
  obtain ⟨o, d, s, i⟩ := x
  have e2 : o = 3 := e
  subst e2
  exact yes3 h
theorem yesx4 {x : Ins} (h : right x = true) (e : x.op = 4) : Yes x.op x.d x.s x.imm := by
  obtain ⟨o, d, s, i⟩ := x
  have e2 : o = 4 := e
  subst e2
  exact yes4 h
theorem yesx5 {x : Ins} (h : right x = true) (e : x.op = 5) : Yes x.op x.d x.s x.imm := by
  obtain ⟨o, d, s, i⟩ := x
  have e2 : o = 5 := e
  subst e2
  exact yes5 h
theorem yesx6 {x : Ins} (h : right x = true) (e : x.op = 6) : Yes x.op x.d x.s x.imm := by
  obtain ⟨o, d, s, i⟩ := x
  have e2 : o = 6 := e
  subst e2
  exact yes6 h
theorem yesx7 {x : Ins} (h : right x = true) (e : x.op = 7) : Yes x.op x.d x.s x.imm := by
  obtain ⟨o, d, s, i⟩ := x
  have e2 : o = 7 := e
  subst e2
  exact yes7 h
theorem yesx8 {x : Ins} (h : right x = true) (e : x.op = 8) : Yes x.op x.d x.s x.imm := by
  obtain ⟨o, d, s, i⟩ := x
  have e2 : o = 8 := e
  subst e2
  exact yes8 h
theorem yesx9 {x : Ins} (h : right x = true) (e : x.op = 9) : Yes x.op x.d x.s x.imm := by
  obtain ⟨o, d, s, i⟩ := x
  have e2 : o = 9 := e
  subst e2
  exact yes9 h
theorem yesx10 {x : Ins} (h : right x = true) (e : x.op = 10) : Yes x.op x.d x.s x.imm := by
  obtain ⟨o, d, s, i⟩ := x
  have e2 : o = 10 := e
  subst e2
  exact yes10 h
theorem yesx11 {x : Ins} (h : right x = true) (e : x.op = 11) : Yes x.op x.d x.s x.imm := by
  obtain ⟨o, d, s, i⟩ := x
  have e2 : o = 11 := e
  subst e2
  exact yes11 h
theorem yesx12 {x : Ins} (h : right x = true) (e : x.op = 12) : Yes x.op x.d x.s x.imm := by
  obtain ⟨o, d, s, i⟩ := x
  have e2 : o = 12 := e
  subst e2
  exact yes12 h
theorem yesx13 {x : Ins} (h : right x = true) (e : x.op = 13) : Yes x.op x.d x.s x.imm := by
  obtain ⟨o, d, s, i⟩ := x
  have e2 : o = 13 := e
  subst e2
  exact yes13 h
theorem yesx14 {x : Ins} (h : right x = true) (e : x.op = 14) : Yes x.op x.d x.s x.imm := by
  obtain ⟨o, d, s, i⟩ := x
  have e2 : o = 14 := e
  subst e2
  exact yes14 h
theorem yesx15 {x : Ins} (h : right x = true) (e : x.op = 15) : Yes x.op x.d x.s x.imm := by
  obtain ⟨o, d, s, i⟩ := x
  have e2 : o = 15 := e
  subst e2
  exact yes15 h
theorem yesx16 {x : Ins} (h : right x = true) (e : x.op = 16) : Yes x.op x.d x.s x.imm := by
  obtain ⟨o, d, s, i⟩ := x
  have e2 : o = 16 := e
  subst e2
  exact yes16 h
theorem yesx17 {x : Ins} (h : right x = true) (e : x.op = 17) : Yes x.op x.d x.s x.imm := by
  obtain ⟨o, d, s, i⟩ := x
  have e2 : o = 17 := e
  subst e2
  exact yes17 h
theorem yesx18 {x : Ins} (h : right x = true) (e : x.op = 18) : Yes x.op x.d x.s x.imm := by
  obtain ⟨o, d, s, i⟩ := x
  have e2 : o = 18 := e
  subst e2
  exact yes18 h
theorem yesx19 {x : Ins} (h : right x = true) (e : x.op = 19) : Yes x.op x.d x.s x.imm := by
  obtain ⟨o, d, s, i⟩ := x
  have e2 : o = 19 := e
  subst e2
  exact yes19 h
theorem yesx20 {x : Ins} (h : right x = true) (e : x.op = 20) : Yes x.op x.d x.s x.imm := by
  obtain ⟨o, d, s, i⟩ := x
  have e2 : o = 20 := e
  subst e2
  exact yes20 h
theorem yes_all {x : Ins} (h : right x = true) : Yes x.op x.d x.s x.imm := by
  have hop := right_op h
  rcases hop with e | e | e | e | e | e | e | e | e | e | e | e | e | e | e | e | e | e | e | e | e
  · exact yesx0 h e
  · exact yesx1 h e
  · exact yesx2 h e
  · exact yesx3 h e
  · exact yesx4 h e
  · exact yesx5 h e
  · exact yesx6 h e
  · exact yesx7 h e
  · exact yesx8 h e
  · exact yesx9 h e
  · exact yesx10 h e
  · exact yesx11 h e
  · exact yesx12 h e
  · exact yesx13 h e
  · exact yesx14 h e
  · exact yesx15 h e
  · exact yesx16 h e
  · exact yesx17 h e
  · exact yesx18 h e
  · exact yesx19 h e
  · exact yesx20 h e
set_option maxRecDepth 100000 in
theorem conR_ok : conR.ok Try.prog w0 := by
  intro args bs p rs out e hp
  simp only [conR] at e
  split at e <;> first | (simp at e; done) | skip
  rename_i v
  split at e <;> first | (simp at e; done) | skip
  rename_i o d s i hv
  simp only [Option.some.injEq, Prod.mk.injEq] at e
  obtain ⟨rfl, rfl, rfl⟩ := e
  rw [aggV_eq hv]
  have hy : Yes o d s i := yes_all (x := ⟨o, d, s, i⟩) hp
  exact pureS (f := 22) (fn := Try.f22) (cs := []) (args := [AG [I o, I d, I s, I i]]) (rs := [B true]) Try.func22 (by kernel_rfl) (fun c hc => by simp at hc) hy.un

theorem eval10c (n : Nat) (cl : List Value) (rw : Bool) (K : List Value → AHeap → Prop) : evSeg Try.f9 [con22b] nt1 [SL G n 4] [some (.cells cl rw)] K
    = (((PlainL cl ∧ True) ∧ (PlainL cl ∧ True) ∧ cl = insC (unIns cl) ∧ (unIns cl).length = n ∧ (128 < n ∨ ∃ x ∈ unIns cl, right x = false)) ∧ (PlainL cl ∧ True) ∧
      K [AG [I 0, .slice none 0 0, .slice none 0 0], I 0, .iface 65 (I (putE n))] (heapB G [some (.cells cl rw)])) := by kernel_rfl
noncomputable def con10c : Con := { f := 9, gh := [⟨0, none, 4⟩], paths := [⟨0, [], true⟩], spec := fun args bs => putS args bs (fun l n => 128 < n ∨ ∃ x ∈ l, right x = false) fun n => [AG [I 0, .slice none 0 0, .slice none 0 0], I 0, .iface 65 (I (putE n))] }
set_option maxRecDepth 100000 in
theorem con10c_ok : con10c.ok Try.prog w0 := by
  intro args bs p rs out e hp
  simp only [con10c] at e
  obtain ⟨l, rw, rfl, rfl, hl, rfl, rfl⟩ := putS_some e hp
  change CallS Try.prog w0 9 [SL G l.length 4] (heapB Try.prog.globals.size [some (.cells (insC l) rw)]) fun rs' h' => rs' = [AG [I 0, .slice none 0 0, .slice none 0 0], I 0, .iface 65 (I (putE l.length))] ∧ h' = heapB Try.prog.globals.size [some (.cells (insC l) rw)]
  refine ev_callS (nt := nt1) (cs := [con22b]) Try.func9 (by kernel_rfl) (fun c hc => by
    simp only [List.mem_cons, List.not_mem_nil, or_false] at hc
    subst hc
    exact con22b_ok) rfl ((eval10c l.length (insC l) rw _).mpr ?_)
  have hp : PlainL (insC l) ∧ True := ⟨plain_insC l, trivial⟩
  exact ⟨⟨hp, hp, by rw [unIns_insC], by rw [unIns_insC], by rw [unIns_insC]; exact hl⟩, hp, rfl, rfl⟩

noncomputable def ft16 : FT := { loc := fun _ => false, mask := fun id => bif Nat.beq id 4 then live 33 [0, 4, 5, 6] else [] }
noncomputable def todo16 : List Item := todoOf Try.f10 4
abbrev nt16 : Nt := { gh := [⟨4, none, 4⟩, ⟨5, none, 4⟩], flags := [true], paths := [⟨4, [], true⟩, ⟨5, [], true⟩], tr := [(4, []), (5, [])] }
abbrev ntO16 : Nt := { gh := [⟨0, none, 4⟩, ⟨1, none, 4⟩], flags := [true], paths := [⟨0, [], true⟩, ⟨1, [], true⟩], tr := [(0, []), (1, [])] }
noncomputable def fr16 (n k1 k2 : Nat) (i : Int) : List AV := frm 33 [(0, .v (SL G n 4)), (4, .v (SL (G + 1) k1 4)), (5, .v (SL (G + 2) k2 4)), (6, .v (I i))]
abbrev seg16 (K : List Value → AHeap → Prop) (L : List Item → List AV → AHeap → Prop) (t : List Item) (fr : List AV) (h : AHeap) : Prop :=
  segK3 Try.prog ft16 (semI Try.prog (fun _ => ft0) (callsOf G []) 400 20 (retT G ntO16 K)) Try.f10 [4] 400 t fr (fun t fr h => match t with
  | .code (.region 4 _ _) :: _ => canonT G nt16 (L t) fr h
  | _ => False) h

section
variable (n k1 k2 : Nat) (i : Int) (rw : Bool) (cl c1 c2 : List Value) (K : List Value → AHeap → Prop) (L : List Item → List AV → AHeap → Prop)
theorem start16 : seg16 K L [.code (Try.f10.body.getD .skip)] (startF Try.f10 [SL G n 4]) (heapB G [some (.cells cl rw)])
    = ((PlainL cl ∧ PlainL [] ∧ PlainL [] ∧ True) ∧ L todo16 (fr16 n 0 0 0) (heapB G [some (.cells cl rw), some (.cells [] true), some (.cells [] true)])) := by kernel_rfl
abbrev okY (cl : List Value) (i : Int) : Bool := (0 + i.toNat * 4 + 4).ble cl.length && (ox cl i 0 && (ox cl i 1 && (ox cl i 2 && (ox cl i 3 && true))))
abbrev agY (cl : List Value) (i : Int) : Value := AG [I (ix cl i 0), I (ix cl i 1), I (ix cl i 2), I (ix cl i 3)]
abbrev veY (cl : List Value) (i : Int) : Bool := okY cl i && veq 4 (agY cl i) (agY cl i) && true
abbrev apY (k : Nat) (c : List Value) (cl : List Value) (i : Int) : List Value := List.take ((k + 1) * 4) (List.take (k * 4) (List.drop 0 c) ++ [I (ix cl i 0), I (ix cl i 1), I (ix cl i 2), I (ix cl i 3)])
abbrev nx16 (n k1 k2 : Nat) (i : Int) (rw : Bool) (cl c1 c2 : List Value) (L : List Item → List AV → AHeap → Prop) : Prop :=
  (PlainL cl ∧ PlainL (apY k1 c1 cl i) ∧ PlainL (apY k2 c2 cl i) ∧ True) ∧ L todo16 (fr16 n (k1 + 1) (k2 + 1) (w (i + 1))) (heapB G [some (.cells cl rw), some (.cells (apY k1 c1 cl i) true), some (.cells (apY k2 c2 cl i) true)])
abbrev en16 (k1 k2 : Nat) (rw : Bool) (cl c1 c2 : List Value) (K : List Value → AHeap → Prop) : Prop :=
  (PlainL cl ∧ PlainL (List.take (k1 * 4) c1) ∧ PlainL (List.take (k2 * 4) c2) ∧ True) ∧ K [SL (G + 1) k1 4, SL (G + 2) k2 4] (heapB G [some (.cells cl rw), some (.cells (List.take (k1 * 4) c1) true), some (.cells (List.take (k2 * 4) c2) true)])
theorem head16 : seg16 K L todo16 (fr16 n k1 k2 i) (heapB G [some (.cells cl rw), some (.cells c1 true), some (.cells c2 true)])
    = (bif decide (i < (n : Int)) then bif decide (i < 130) then
        (bif decide (0 ≤ i) && decide (i < (n : Int)) then bif okY cl i then bif decide (0 ≤ i) && decide (i < (n : Int)) then bif okY cl i then bif veY cl i then bif room (k1 + 1) 32 then bif (0 + k1 * 4).ble c1.length then bif veY cl i then bif room (k2 + 1) 32 then bif (0 + k2 * 4).ble c2.length then
          nx16 n k1 k2 i rw cl c1 c2 L else False else False else False else False else False else False else False else False else False else False) ∧
        (bif decide (0 ≤ i) && decide (i < (n : Int)) then bif okY cl i then bif decide (0 ≤ i) && decide (i < (n : Int)) then bif okY cl i then bif veY cl i then bif room (k1 + 1) 32 then bif (0 + k1 * 4).ble c1.length then bif room (k2 + 1) 32 then bif (0 + k2 * 4).ble c2.length then
          nx16 n k1 k2 i rw cl c1 c2 L else False else False else False else False else False else False else False else False else False) ∧
        (bif decide (0 ≤ i) && decide (i < (n : Int)) then bif okY cl i then bif decide (0 ≤ i) && decide (i < (n : Int)) then bif okY cl i then bif veY cl i then bif room (k1 + 1) 32 then bif (0 + k1 * 4).ble c1.length then bif room (k2 + 1) 32 then bif (0 + k2 * 4).ble c2.length then
          nx16 n k1 k2 i rw cl c1 c2 L else False else False else False else False else False else False else False else False else False)
      else en16 k1 k2 rw cl c1 c2 K else en16 k1 k2 rw cl c1 c2 K) := by kernel_rfl
end
theorem insC_appB : ∀ (l r : List Ins), insC (l ++ r) = insC l ++ insC r
  | [], r => rfl
  | x :: l, r => by
    have := insC_appB l r
    simp only [insC, List.cons_append] at this ⊢
    simp [this]
abbrev SemB (w0 : World) (K : List Value → AHeap → Prop) (t : List Item) (fr : List AV) (h : AHeap) : Prop := Agm.Sem Try.prog w0 (Try.prog.globals.size + nt16.flags.length) Try.f10 (retT G ntO16 K) t fr h
theorem leaf16 {K : List Value → AHeap → Prop} : ∀ t fr h, (match t with
    | .code (.region 4 _ _) :: _ => canonT G nt16 (SemB w0 K t) fr h
    | _ => False) → SemB w0 K t fr h := by
  intro t fr h e
  split at e
  · exact canonT_semN (nt := nt16) rfl e
  · exact e.elim
set_option maxRecDepth 100000 in
theorem loop16 {K : List Value → AHeap → Prop} {rw : Bool} {l : List Ins} (hK : K [SL (G + 1) (l.take 130).length 4, SL (G + 2) (l.take 130).length 4] (heapB G [some (.cells (insC l) rw), some (.cells (insC (l.take 130)) true), some (.cells (insC (l.take 130)) true)])) :
    ∀ (f i : Nat), 130 - i < f → i ≤ 130 → i ≤ l.length → SemB w0 K todo16 (fr16 l.length i i i) (heapB G [some (.cells (insC l) rw), some (.cells (insC (l.take i)) true), some (.cells (insC (l.take i)) true)]) := by
  intro f
  induction f with
  | zero => intro i h; omega
  | succ f ih =>
    intro i h1 h2 h3
    refine seg_semI3 (F := ft16) mixed (callsOf_ok ok_none) leaf16 [4] 20 400 ((head16 l.length i i i rw (insC l) (insC (l.take i)) (insC (l.take i)) K _).mpr ?_)
    have hti : (l.take i).length = i := by rw [List.length_take]; omega
    have hlen : (insC (l.take i)).length = i * 4 := by rw [insC_len, hti]
    have hall : List.take (i * 4) (insC (l.take i)) = insC (l.take i) := List.take_of_length_le (by omega)
    have fin : i = l.length ∨ i = 130 → en16 i i rw (insC l) (insC (l.take i)) (insC (l.take i)) K := by
      intro h
      have e : l.take 130 = l.take i := by
        rcases h with h | h
        · rw [h, List.take_length, List.take_of_length_le (by omega)]
        · rw [h]
      rw [e, hti] at hK
      unfold en16
      rw [hall]
      exact ⟨⟨plain_insC _, plain_insC _, plain_insC _, trivial⟩, hK⟩
    refine bifP (fun c1 => ?_) (fun c1 => ?_)
    · refine bifP (fun c2 => ?_) (fun c2 => ?_)
      · simp only [decide_eq_true_eq] at c1 c2
        have hi : i < l.length := by omega
        obtain ⟨e1, ⟨e2, e3, e4, e5⟩, e6, e7, e8, e9⟩ := at_insC hi
        have hr : room (i + 1) 32 = true := Nat.ble_eq_true_of_le (by omega)
        have hb : (0 + i * 4).ble (insC (l.take i)).length = true := Nat.ble_eq_true_of_le (by omega)
        have hw : w ((i : Int) + 1) = ((i + 1 : Nat) : Int) := by rw [w_id (by omega) (by omega)]; omega
        have hx : okY (insC l) (i : Int) = true := by unfold okY; rw [e1, e2, e3, e4, e5]; rfl
        have hv : veY (insC l) (i : Int) = true := by
          unfold veY
          rw [hx]
          simp [veq, veq.go]
        have ha : apY i (insC (l.take i)) (insC l) (i : Int) = insC (l.take (i + 1)) := by
          unfold apY
          rw [e6, e7, e8, e9, List.drop_zero, hall, List.take_of_length_le (by rw [List.length_append, hlen]; simp; omega), List.take_succ_eq_append_getElem hi, insC_appB]; rfl
        have nx : nx16 l.length i i i rw (insC l) (insC (l.take i)) (insC (l.take i)) (SemB w0 K) := by
          unfold nx16
          rw [ha, hw]
          exact ⟨⟨plain_insC _, plain_insC _, plain_insC _, trivial⟩, ih (i + 1) (by omega) (by omega) (by omega)⟩
        rw [decide_eq_true (show (0 : Int) ≤ (i : Int) by omega), decide_eq_true (show (i : Int) < (l.length : Int) by omega), hx, hv, hr, hb]
        exact ⟨nx, nx, nx⟩
      · exact fin (.inr (by simp only [decide_eq_false_iff_not] at c2; omega))
    · exact fin (.inl (by simp only [decide_eq_false_iff_not] at c1; omega))
noncomputable def con16 : Con := { f := 10, gh := [⟨0, none, 4⟩], paths := [⟨0, [], true⟩], spec := fun args bs => match args, bs with
  | [s], [some (.cells cl rw)] => match slN s 0 4 with
    | some n => some (cl = insC (unIns cl) ∧ (unIns cl).length = n, [SL (G + 1) ((unIns cl).take 130).length 4, SL (G + 2) ((unIns cl).take 130).length 4], [(true, some (.cells cl rw)), (true, some (.cells (insC ((unIns cl).take 130)) true)), (true, some (.cells (insC ((unIns cl).take 130)) true))])
    | none => none
  | _, _ => none }
set_option maxRecDepth 100000 in
theorem con16_ok : con16.ok Try.prog w0 := by
  intro args bs p rs out e hp
  simp only [con16] at e
  split at e <;> first | (simp at e; done) | skip
  split at e <;> first | (simp at e; done) | skip
  rename_i s cl rw _ n hs
  simp only [Option.some.injEq, Prod.mk.injEq] at e
  obtain ⟨rfl, rfl, rfl⟩ := e
  obtain ⟨p1, p2⟩ := hp
  rw [slN_eq hs]
  generalize unIns cl = l at p1 p2 ⊢
  subst p1 p2
  have hn : (heapB Try.prog.globals.size [some (.cells (insC l) rw)]).next = Try.prog.globals.size + ntO16.flags.length := by rw [heapB_next]; rfl
  change CallS Try.prog w0 10 [SL G l.length 4] (heapB Try.prog.globals.size [some (.cells (insC l) rw)]) _
  refine retT_call (nt := ntO16) hn (call_sem (cd := Try.f10.body.getD .skip) Try.func10 (by kernel_rfl) ?_)
  rw [hn]
  refine seg_semI3 (F := ft16) mixed (callsOf_ok ok_none) leaf16 [4] 20 400 ((start16 l.length rw (insC l) _ _).mpr ?_)
  refine ⟨⟨plain_insC _, fun x hx => by simp at hx, fun x hx => by simp at hx, trivial⟩, ?_⟩
  exact loop16 (l := l) ⟨rfl, rfl⟩ 131 0 (by omega) (by omega) (by omega)
end Go.Proofs.Ytadaindmgmielaa
