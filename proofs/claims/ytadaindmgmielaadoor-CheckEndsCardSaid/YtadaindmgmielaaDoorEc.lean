/- The document's Put: words. No condition. -/
import Derived.Test.YtadaindmgmielaaDoorEa
import Derived.Test.YtadaindmgmielaaDoorEb
namespace Go.Proofs.YtadaindmgmielaaDoor
open Go.Agm
variable {w0 : World}
noncomputable def ft32 : FT := { loc := fun _ => false, mask := fun id => bif Nat.beq id 5 then live 52 [0, 4, 5] else [] }
noncomputable def todo32 : List Item := todoOf Tryd.f32 5
noncomputable def fr32 (n : Nat) (s : ByteArray) (i : Int) : List AV := frm 52 [(0, .v (SL G n 4)), (4, .v (.string s)), (5, .v (I i))]

abbrev q1 (n : Int) : Int := w (n.tdiv 256)
abbrev pb4 (n : Int) : List UInt8 := [UInt8.ofNat (IntKind.u8.wrap (n.tmod 256)).toNat, UInt8.ofNat (IntKind.u8.wrap ((q1 n).tmod 256)).toNat, UInt8.ofNat (IntKind.u8.wrap ((q1 (q1 n)).tmod 256)).toNat, UInt8.ofNat (IntKind.u8.wrap ((q1 (q1 (q1 n))).tmod 256)).toNat]
theorem eval59 (n : Int) (r : List Value) :
    pureSeg [] Tryd.f59 [I n, I 4] r
    = (bif decide (n < (0 : Int)) then True ∧ [Value.string { data := { toList := [] } }] = r
else
  bif decide (q1 (q1 (q1 (q1 n))) > (0 : Int)) then True ∧ [Value.string { data := { toList := [] } }] = r
  else True ∧ [Value.string { data := { toList := pb4 n } }] = r) := by kernel_rfl
def con59 : Con := { f := 59, gh := [], paths := [], spec := fun args bs => match args, bs with
  | [v, u], [] => match intV v, intV u with
    | some a, some 4 => some (0 ≤ a ∧ a < 4294967296, [.string { data := { toList := pb4 a } }], [])
    | _, _ => none
  | _, _ => none }
theorem q1_nn {n : Int} (h : 0 ≤ n) (h2 : n < 9223372036854775808) : q1 n = n / 256 ∧ 0 ≤ n / 256 ∧ n / 256 < 9223372036854775808 := by
  have e : n.tdiv 256 = n / 256 := Int.tdiv_eq_ediv_of_nonneg h
  refine ⟨?_, by omega, by omega⟩
  show w (n.tdiv 256) = _
  rw [e, w_id (by omega) (by omega)]
set_option maxRecDepth 100000 in
theorem con59_ok : con59.ok Tryd.prog w0 := by
  intro args bs p rs out e hp
  simp only [con59] at e
  split at e <;> first | (simp at e; done) | skip
  split at e <;> first | (simp at e; done) | skip
  rename_i v u _ _ a ha hu
  simp only [Option.some.injEq, Prod.mk.injEq] at e
  obtain ⟨rfl, rfl, rfl⟩ := e
  obtain ⟨h1, h2⟩ := hp
  rw [intV_eq ha, intV_eq hu]
  refine pureS (cs := []) (f := 59) Tryd.func59 (by kernel_rfl) (fun c hc => by simp at hc) ?_
  rw [eval59]
  have e1 : decide (a < 0) = false := by simp; omega
  obtain ⟨a1, a2, a3⟩ := q1_nn h1 (by omega)
  obtain ⟨b1, b2, b3⟩ := q1_nn a2 a3
  obtain ⟨c1, c2, c3⟩ := q1_nn b2 b3
  obtain ⟨d1, d2, d3⟩ := q1_nn c2 c3
  have e2 : decide (q1 (q1 (q1 (q1 a))) > 0) = false := by
    rw [a1, b1, c1, d1]
    simp only [decide_eq_false_iff_not]
    omega
  rw [e1, e2]
  exact ⟨trivial, rfl⟩
abbrev seg32 (K : List Value → AHeap → Prop) (L : List Item → List AV → AHeap → Prop) (t : List Item) (fr : List AV) (h : AHeap) : Prop :=
  segK3 Tryd.prog ft32 (semI Tryd.prog (fun _ => ft0) (callsOf G [con58, con59]) 400 20 (retT G nt1 K)) Tryd.f32 [5] 400 t fr (fun t fr h => match t with
  | .code (.region 5 _ _) :: _ => canonT G nt1 (L t) fr h
  | _ => False) h
section
variable (n : Nat) (rw : Bool) (cl : List Value) (s : ByteArray) (i : Int) (K : List Value → AHeap → Prop) (L : List Item → List AV → AHeap → Prop)
abbrev bn (i : Int) (n : Nat) (p : Prop) : Prop := bif decide (0 ≤ i) && decide (i < (n : Int)) then p else False
abbrev okP (cl : List Value) (i : Int) (k : Nat) (p : Prop) : Prop := bif ox cl i k then p else False
abbrev sz8 : List UInt8 := [0, 0, 0, 0, 0, 0, 0, 0]
def addS (s : ByteArray) (cl : List Value) (i : Int) : ByteArray := { data := { toList := s.data.toList ++ ([UInt8.ofNat (IntKind.u8.wrap (ix cl i 0)).toNat, UInt8.ofNat (IntKind.u8.wrap (ix cl i 1)).toNat, UInt8.ofNat (IntKind.u8.wrap (ix cl i 2)).toNat, UInt8.ofNat 0] ++ pb4 (w (ix cl i 3 + 2147483648))) } }
abbrev nx32 (n : Nat) (rw : Bool) (cl : List Value) (s : ByteArray) (i : Int) (L : List Item → List AV → AHeap → Prop) : Prop :=
  bif (s.size + 8).ble 1099511627776 then (PlainL cl ∧ True) ∧ L todo32 (fr32 n (addS s cl i) (w (i + 1))) (heapB G [some (.cells cl rw)]) else False
abbrev p59 (cl : List Value) (i : Int) : Prop := True ∧ True ∧ 0 ≤ w (ix cl i 3 + 2147483648) ∧ w (ix cl i 3 + 2147483648) < 4294967296
theorem start32 : seg32 K L [.code (Tryd.f32.body.getD .skip)] (startF Tryd.f32 [SL G n 4]) (heapB G [some (.cells cl rw)])
    = (bif decide ((n : Int) > 128) then (PlainL cl ∧ True) ∧ K [.string { data := { toList := [] } }, I 10] (heapB G [some (.cells cl rw)])
      else (PlainL cl ∧ True) ∧ L todo32 (fr32 n { data := { toList := [] } } 0) (heapB G [some (.cells cl rw)])) := by kernel_rfl
theorem head32 : seg32 K L todo32 (fr32 n s i) (heapB G [some (.cells cl rw)])
    = (bif decide (i < (n : Int)) then bn i n (bif (0 + i.toNat * 4 + 4).ble cl.length && (ox cl i 0 && (ox cl i 1 && (ox cl i 2 && (ox cl i 3 && true)))) then
        (True ∧ True ∧ True) ∧ bif !right ⟨ix cl i 0, ix cl i 1, ix cl i 2, ix cl i 3⟩ then (PlainL cl ∧ True) ∧ K [.string { data := { toList := [] } }, I 1] (heapB G [some (.cells cl rw)])
        else (bn i n (okP cl i 0 (bn i n (okP cl i 1 (bn i n (okP cl i 2 (bn i n (okP cl i 3 (bif ox cl i 3 && ix cl i 3 == ix cl i 3 && true then bif ox cl i 3 && ix cl i 3 == ix cl i 3 && true then p59 cl i ∧ nx32 n rw cl s i L else False else False)))))))))
          ∧ (bn i n (okP cl i 0 (bn i n (okP cl i 1 (bn i n (okP cl i 2 (bn i n (okP cl i 3 (bif ox cl i 3 && ix cl i 3 == ix cl i 3 && true then p59 cl i ∧ nx32 n rw cl s i L else False)))))))))
          ∧ (bn i n (okP cl i 0 (bn i n (okP cl i 1 (bn i n (okP cl i 2 (bn i n (okP cl i 3 (p59 cl i ∧ bif ox cl i 2 && ix cl i 2 == ix cl i 2 && (ox cl i 1 && ix cl i 1 == ix cl i 1 && (ox cl i 0 && ix cl i 0 == ix cl i 0 && true)) then nx32 n rw cl s i L else False)))))))))
        else False)
      else (PlainL cl ∧ True) ∧ K [.string s, I 0] (heapB G [some (.cells cl rw)])) := by kernel_rfl
end
abbrev Sem32 (w0 : World) (K : List Value → AHeap → Prop) (t : List Item) (fr : List AV) (h : AHeap) : Prop := Agm.Sem Tryd.prog w0 (Tryd.prog.globals.size + nt1.flags.length) Tryd.f32 (retT G nt1 K) t fr h
theorem leaf32 {K : List Value → AHeap → Prop} : ∀ t fr h, (match t with
    | .code (.region 5 _ _) :: _ => canonT G nt1 (Sem32 w0 K t) fr h
    | _ => False) → Sem32 w0 K t fr h := by
  intro t fr h e
  split at e
  · exact canonT_semN (nt := nt1) rfl e
  · exact e.elim
theorem ok32 : ∀ c ∈ [con58, con59], c.ok Tryd.prog w0 := fun c hc => by
  simp only [List.mem_cons, List.not_mem_nil, or_false] at hc
  rcases hc with rfl | rfl
  · exact con58_ok
  · exact con59_ok
theorem addS_size {s : ByteArray} {cl : List Value} {i : Int} : (addS s cl i).size = s.size + 8 := by
  show (addS s cl i).data.toList.length = s.data.toList.length + 8
  simp [addS]
/-- From a place on: are all right? -/
def putF (l : List Ins) : Nat → Nat → Int
  | 0, _ => 0
  | f + 1, i => bif decide (i < l.length) then bif right (l.getD i insD) then putF l f (i + 1) else 1 else 0
set_option maxRecDepth 100000 in
theorem loop32 {K : List Value → AHeap → Prop} {rw : Bool} {l : List Ins} (hl : l.length ≤ 128) : ∀ (f i : Nat) (s : ByteArray), l.length - i < f → i ≤ l.length → s.size ≤ 8 * i →
    (∀ s, K [.string s, I (putF l f i)] (heapB G [some (.cells (insC l) rw)])) → Sem32 w0 K todo32 (fr32 l.length s i) (heapB G [some (.cells (insC l) rw)]) := by
  intro f
  induction f with
  | zero => intro i s h1; omega
  | succ f ih =>
    intro i s h1 h2 h3 hK
    refine seg_semI3 (F := ft32) mixed (callsOf_ok ok32) leaf32 [5] 20 400 ((head32 l.length rw (insC l) s i K _).mpr ?_)
    have hp : PlainL (insC l) ∧ True := ⟨plain_insC l, trivial⟩
    rw [putF] at hK
    refine bifP (fun c0 => ?_) (fun c0 => ?_)
    · simp only [decide_eq_true_eq] at c0
      have hi : i < l.length := by omega
      obtain ⟨e1, ⟨e2, e3, e4, e5⟩, e6, e7, e8, e9⟩ := at_insC hi
      have hg := getD_in hi
      have hw1 : w ((i : Int) + 1) = ((i + 1 : Nat) : Int) := by rw [w_id (by omega) (by omega)]; omega
      rw [decide_eq_true hi, cond_true, ← hg] at hK
      have qq : (0 : Int) ≤ (i : Int) := by omega
      simp only [bn, okP, qq, c0, e1, e2, e3, e4, e5, decide_true, Bool.and_self, cond_true]
      refine ⟨⟨trivial, trivial, trivial⟩, ?_⟩
      have hx : right ⟨ix (insC l) i 0, ix (insC l) i 1, ix (insC l) i 2, ix (insC l) i 3⟩ = right l[i] := by
        show r29 (ix (insC l) i 0) (ix (insC l) i 1) (ix (insC l) i 2) (ix (insC l) i 3) = _
        rw [e6, e7, e8, e9]
      rw [hx]
      refine bifN (fun o1 => ?_) (fun o1 => ?_)
      · rw [o1, cond_false] at hK
        exact ⟨hp, hK _⟩
      · rw [o1, cond_true] at hK
        obtain ⟨w1, w2⟩ := right_w o1
        have hp59 : p59 (insC l) i := by
          unfold p59
          rw [e9]
          exact ⟨trivial, trivial, w1, w2⟩
        have hsz : (s.size + 8).ble 1099511627776 = true := Nat.ble_eq_true_of_le (by omega)
        have hn : nx32 l.length rw (insC l) s i (Sem32 w0 K) := by
          unfold nx32
          rw [hsz, hw1]
          exact ⟨hp, ih (i + 1) _ (by omega) (by omega) (by rw [addS_size]; omega) hK⟩
        simp only [beq_self_eq_true, Bool.and_self, cond_true]
        exact ⟨⟨hp59, hn⟩, ⟨hp59, hn⟩, hp59, hn⟩
    · simp only [decide_eq_false_iff_not] at c0
      have hi : ¬ i < l.length := by omega
      rw [decide_eq_false hi, cond_false] at hK
      exact ⟨hp, hK _⟩
/-- Put's number. -/
def putN (l : List Ins) : Int := bif decide ((l.length : Int) > 128) then 10 else putF l (l.length + 1) 0
noncomputable def lN0 (args : List Value) (bs : List (Option ABlk)) (rs : List Ins → List Value) : Option (Prop × List Value × List OutB) := match args, bs with
  | [s], [some (.cells cl rw)] => match slN s 0 4 with
    | some n => some (cl = insC (unIns cl) ∧ (unIns cl).length = n, rs (unIns cl), [(true, some (.cells cl rw))])
    | none => none
  | _, _ => none
theorem lN0_some {args : List Value} {bs : List (Option ABlk)} {rs : List Ins → List Value} {p : Prop} {rs' : List Value} {out : List OutB} (e : lN0 args bs rs = some (p, rs', out)) (hp : p) :
    ∃ (l : List Ins) (rw : Bool), args = [SL G l.length 4] ∧ bs = [some (.cells (insC l) rw)] ∧ rs' = rs l ∧ out = [(true, some (.cells (insC l) rw))] := by
  unfold lN0 at e
  split at e
  · rename_i s cs rw
    split at e
    · rename_i n hn
      simp only [Option.some.injEq, Prod.mk.injEq] at e
      obtain ⟨rfl, rfl, rfl⟩ := e
      obtain ⟨h1, h2⟩ := hp
      exact ⟨unIns cs, rw, by rw [slN_eq hn, h2]; rfl, by rw [← h1], rfl, by rw [← h1]⟩
    · simp at e
  · simp at e
noncomputable def con32 : Con := { f := 32, gh := [⟨0, none, 4⟩], paths := pt1, spec := fun args bs => lN0 args bs fun l => [.chan none, I (putN l)] }
set_option maxRecDepth 100000 in
theorem con32_ok : con32.ok Tryd.prog w0 := by
  intro args bs p rs out e hp
  simp only [con32] at e
  obtain ⟨l, rw, rfl, rfl, rfl, rfl⟩ := lN0_some e hp
  refine CallS_junk (h := heapB Tryd.prog.globals.size [some (.cells (insC l) rw)]) (H := heapB Tryd.prog.globals.size [some (.cells (insC l) rw)]) ?_
  have hn : (heapB Tryd.prog.globals.size [some (.cells (insC l) rw)]).next = Tryd.prog.globals.size + nt1.flags.length := by rw [heapB_next]; rfl
  refine retT_call (nt := nt1) hn (call_sem (cd := Tryd.f32.body.getD .skip) Tryd.func32 (by kernel_rfl) ?_)
  rw [hn]
  refine seg_semI3 (F := ft32) mixed (callsOf_ok ok32) leaf32 [5] 20 400 ((start32 l.length rw (insC l) _ _).mpr ?_)
  have hp : PlainL (insC l) ∧ True := ⟨plain_insC l, trivial⟩
  unfold putN
  refine bifP (fun c => ?_) (fun c => ?_)
  · rw [c]
    exact ⟨hp, ⟨_, rfl⟩, rfl⟩
  · rw [c]
    simp only [decide_eq_false_iff_not] at c
    exact ⟨hp, loop32 (by omega) (l.length + 1) 0 _ (by omega) (by omega) (by simp [ByteArray.size]) fun s => ⟨⟨s, rfl⟩, rfl⟩⟩

abbrev rT (r : List Value) (b : Bool) : Prop := True ∧ [B b] = r
abbrev ckK (S : List Value) (q : Int) (r : List Value) (p : Prop) : Prop := bif decide (0 ≤ q) && decide (q < 8) then bif okB (nth S (1 + q.toNat * 1)) then bif !boolO (nth S (1 + q.toNat * 1)) then rT r false else p else False else False
abbrev atS (S : List Value) (s : Int) (p : Prop) : Prop := bif decide (0 ≤ s) && decide (s < 8) then bif (9 + s.toNat * 2 + 2).ble S.length && (okI .i64 (nth S (9 + s.toNat * 2 + 0)) && (okI .i64 (nth S (9 + s.toNat * 2 + 1)) && true)) then p else False else False
abbrev fiS (S : List Value) (s imm size bound : Int) (r : List Value) : Prop := bif decide (w (intO (nth S (9 + s.toNat * 2 + 0)) + imm) ≥ 0) then rT r (decide (w (w (intO (nth S (9 + s.toNat * 2 + 1)) + imm) + size) ≤ bound)) else rT r false
abbrev g3 (k2 : Bool) (imm : Int) (r : List Value) : Prop := bif imm == 3 then rT r k2 else rT r false
abbrev gN (m : Int) (n : Int) (k2 k3 : Bool) (l2 h2 l3 h3 imm : Int) (r : List Value) (p : Prop) : Prop :=
  bif imm == m then bif k2 then bif k3 then bif decide (l3 ≥ 0) then bif decide (h3 ≤ n) then bif decide (l2 ≥ 0) then bif decide (w (h2 + h3) ≤ 512) then rT r true else p else p else p else p else p else p else p
section
variable (c k0 k1 k2 k3 k4 k5 k6 k7 : Bool) (l0 h0 l1 h1 l2 h2 l3 h3 l4 h4 l5 h5 l6 h6 l7 h7 : Int) (d s imm : Int) (r : List Value)
theorem evF0 : pureSeg [] Tryd.f35 [AG (stL c k0 k1 k2 k3 k4 k5 k6 k7 l0 h0 l1 h1 l2 h2 l3 h3 l4 h4 l5 h5 l6 h6 l7 h7), AG [I 0, I d, I s, I imm]] r = (atS (stL c k0 k1 k2 k3 k4 k5 k6 k7 l0 h0 l1 h1 l2 h2 l3 h3 l4 h4 l5 h5 l6 h6 l7 h7) s (rT r true)) := by kernel_rfl
theorem evF1 : pureSeg [] Tryd.f35 [AG (stL c k0 k1 k2 k3 k4 k5 k6 k7 l0 h0 l1 h1 l2 h2 l3 h3 l4 h4 l5 h5 l6 h6 l7 h7), AG [I 1, I d, I s, I imm]] r = (ckK (stL c k0 k1 k2 k3 k4 k5 k6 k7 l0 h0 l1 h1 l2 h2 l3 h3 l4 h4 l5 h5 l6 h6 l7 h7) s r (atS (stL c k0 k1 k2 k3 k4 k5 k6 k7 l0 h0 l1 h1 l2 h2 l3 h3 l4 h4 l5 h5 l6 h6 l7 h7) s (rT r true))) := by kernel_rfl
theorem evF2 : pureSeg [] Tryd.f35 [AG (stL c k0 k1 k2 k3 k4 k5 k6 k7 l0 h0 l1 h1 l2 h2 l3 h3 l4 h4 l5 h5 l6 h6 l7 h7), AG [I 2, I d, I s, I imm]] r = (ckK (stL c k0 k1 k2 k3 k4 k5 k6 k7 l0 h0 l1 h1 l2 h2 l3 h3 l4 h4 l5 h5 l6 h6 l7 h7) d r (ckK (stL c k0 k1 k2 k3 k4 k5 k6 k7 l0 h0 l1 h1 l2 h2 l3 h3 l4 h4 l5 h5 l6 h6 l7 h7) s r (atS (stL c k0 k1 k2 k3 k4 k5 k6 k7 l0 h0 l1 h1 l2 h2 l3 h3 l4 h4 l5 h5 l6 h6 l7 h7) s (rT r true)))) := by kernel_rfl
theorem evF3 : pureSeg [] Tryd.f35 [AG (stL c k0 k1 k2 k3 k4 k5 k6 k7 l0 h0 l1 h1 l2 h2 l3 h3 l4 h4 l5 h5 l6 h6 l7 h7), AG [I 3, I d, I s, I imm]] r = (ckK (stL c k0 k1 k2 k3 k4 k5 k6 k7 l0 h0 l1 h1 l2 h2 l3 h3 l4 h4 l5 h5 l6 h6 l7 h7) d r (ckK (stL c k0 k1 k2 k3 k4 k5 k6 k7 l0 h0 l1 h1 l2 h2 l3 h3 l4 h4 l5 h5 l6 h6 l7 h7) s r (atS (stL c k0 k1 k2 k3 k4 k5 k6 k7 l0 h0 l1 h1 l2 h2 l3 h3 l4 h4 l5 h5 l6 h6 l7 h7) s (rT r true)))) := by kernel_rfl
theorem evF4 : pureSeg [] Tryd.f35 [AG (stL c k0 k1 k2 k3 k4 k5 k6 k7 l0 h0 l1 h1 l2 h2 l3 h3 l4 h4 l5 h5 l6 h6 l7 h7), AG [I 4, I d, I s, I imm]] r = (ckK (stL c k0 k1 k2 k3 k4 k5 k6 k7 l0 h0 l1 h1 l2 h2 l3 h3 l4 h4 l5 h5 l6 h6 l7 h7) d r (atS (stL c k0 k1 k2 k3 k4 k5 k6 k7 l0 h0 l1 h1 l2 h2 l3 h3 l4 h4 l5 h5 l6 h6 l7 h7) s (rT r true))) := by kernel_rfl
theorem evF5 : pureSeg [] Tryd.f35 [AG (stL c k0 k1 k2 k3 k4 k5 k6 k7 l0 h0 l1 h1 l2 h2 l3 h3 l4 h4 l5 h5 l6 h6 l7 h7), AG [I 5, I d, I s, I imm]] r = (ckK (stL c k0 k1 k2 k3 k4 k5 k6 k7 l0 h0 l1 h1 l2 h2 l3 h3 l4 h4 l5 h5 l6 h6 l7 h7) d r (atS (stL c k0 k1 k2 k3 k4 k5 k6 k7 l0 h0 l1 h1 l2 h2 l3 h3 l4 h4 l5 h5 l6 h6 l7 h7) s (rT r true))) := by kernel_rfl
theorem evF6 : pureSeg [] Tryd.f35 [AG (stL c k0 k1 k2 k3 k4 k5 k6 k7 l0 h0 l1 h1 l2 h2 l3 h3 l4 h4 l5 h5 l6 h6 l7 h7), AG [I 6, I d, I s, I imm]] r = (ckK (stL c k0 k1 k2 k3 k4 k5 k6 k7 l0 h0 l1 h1 l2 h2 l3 h3 l4 h4 l5 h5 l6 h6 l7 h7) d r (atS (stL c k0 k1 k2 k3 k4 k5 k6 k7 l0 h0 l1 h1 l2 h2 l3 h3 l4 h4 l5 h5 l6 h6 l7 h7) s (rT r true))) := by kernel_rfl
theorem evF7 : pureSeg [] Tryd.f35 [AG (stL c k0 k1 k2 k3 k4 k5 k6 k7 l0 h0 l1 h1 l2 h2 l3 h3 l4 h4 l5 h5 l6 h6 l7 h7), AG [I 7, I d, I s, I imm]] r = (ckK (stL c k0 k1 k2 k3 k4 k5 k6 k7 l0 h0 l1 h1 l2 h2 l3 h3 l4 h4 l5 h5 l6 h6 l7 h7) s r (atS (stL c k0 k1 k2 k3 k4 k5 k6 k7 l0 h0 l1 h1 l2 h2 l3 h3 l4 h4 l5 h5 l6 h6 l7 h7) s (fiS (stL c k0 k1 k2 k3 k4 k5 k6 k7 l0 h0 l1 h1 l2 h2 l3 h3 l4 h4 l5 h5 l6 h6 l7 h7) s imm 1 512 r))) := by kernel_rfl
theorem evF8 : pureSeg [] Tryd.f35 [AG (stL c k0 k1 k2 k3 k4 k5 k6 k7 l0 h0 l1 h1 l2 h2 l3 h3 l4 h4 l5 h5 l6 h6 l7 h7), AG [I 8, I d, I s, I imm]] r = (ckK (stL c k0 k1 k2 k3 k4 k5 k6 k7 l0 h0 l1 h1 l2 h2 l3 h3 l4 h4 l5 h5 l6 h6 l7 h7) s r (atS (stL c k0 k1 k2 k3 k4 k5 k6 k7 l0 h0 l1 h1 l2 h2 l3 h3 l4 h4 l5 h5 l6 h6 l7 h7) s (fiS (stL c k0 k1 k2 k3 k4 k5 k6 k7 l0 h0 l1 h1 l2 h2 l3 h3 l4 h4 l5 h5 l6 h6 l7 h7) s imm 2 512 r))) := by kernel_rfl
theorem evF9 : pureSeg [] Tryd.f35 [AG (stL c k0 k1 k2 k3 k4 k5 k6 k7 l0 h0 l1 h1 l2 h2 l3 h3 l4 h4 l5 h5 l6 h6 l7 h7), AG [I 9, I d, I s, I imm]] r = (ckK (stL c k0 k1 k2 k3 k4 k5 k6 k7 l0 h0 l1 h1 l2 h2 l3 h3 l4 h4 l5 h5 l6 h6 l7 h7) s r (atS (stL c k0 k1 k2 k3 k4 k5 k6 k7 l0 h0 l1 h1 l2 h2 l3 h3 l4 h4 l5 h5 l6 h6 l7 h7) s (fiS (stL c k0 k1 k2 k3 k4 k5 k6 k7 l0 h0 l1 h1 l2 h2 l3 h3 l4 h4 l5 h5 l6 h6 l7 h7) s imm 1 16 r))) := by kernel_rfl
theorem evF10 : pureSeg [] Tryd.f35 [AG (stL c k0 k1 k2 k3 k4 k5 k6 k7 l0 h0 l1 h1 l2 h2 l3 h3 l4 h4 l5 h5 l6 h6 l7 h7), AG [I 10, I d, I s, I imm]] r = (ckK (stL c k0 k1 k2 k3 k4 k5 k6 k7 l0 h0 l1 h1 l2 h2 l3 h3 l4 h4 l5 h5 l6 h6 l7 h7) s r (atS (stL c k0 k1 k2 k3 k4 k5 k6 k7 l0 h0 l1 h1 l2 h2 l3 h3 l4 h4 l5 h5 l6 h6 l7 h7) s (fiS (stL c k0 k1 k2 k3 k4 k5 k6 k7 l0 h0 l1 h1 l2 h2 l3 h3 l4 h4 l5 h5 l6 h6 l7 h7) s imm 1 64 r))) := by kernel_rfl
theorem evF11 : pureSeg [] Tryd.f35 [AG (stL c k0 k1 k2 k3 k4 k5 k6 k7 l0 h0 l1 h1 l2 h2 l3 h3 l4 h4 l5 h5 l6 h6 l7 h7), AG [I 11, I d, I s, I imm]] r = (ckK (stL c k0 k1 k2 k3 k4 k5 k6 k7 l0 h0 l1 h1 l2 h2 l3 h3 l4 h4 l5 h5 l6 h6 l7 h7) d r (ckK (stL c k0 k1 k2 k3 k4 k5 k6 k7 l0 h0 l1 h1 l2 h2 l3 h3 l4 h4 l5 h5 l6 h6 l7 h7) s r (atS (stL c k0 k1 k2 k3 k4 k5 k6 k7 l0 h0 l1 h1 l2 h2 l3 h3 l4 h4 l5 h5 l6 h6 l7 h7) s (atS (stL c k0 k1 k2 k3 k4 k5 k6 k7 l0 h0 l1 h1 l2 h2 l3 h3 l4 h4 l5 h5 l6 h6 l7 h7) d (fiS (stL c k0 k1 k2 k3 k4 k5 k6 k7 l0 h0 l1 h1 l2 h2 l3 h3 l4 h4 l5 h5 l6 h6 l7 h7) d imm 1 64 r))))) := by kernel_rfl
theorem evF12 : pureSeg [] Tryd.f35 [AG (stL c k0 k1 k2 k3 k4 k5 k6 k7 l0 h0 l1 h1 l2 h2 l3 h3 l4 h4 l5 h5 l6 h6 l7 h7), AG [I 12, I d, I s, I imm]] r = (atS (stL c k0 k1 k2 k3 k4 k5 k6 k7 l0 h0 l1 h1 l2 h2 l3 h3 l4 h4 l5 h5 l6 h6 l7 h7) s (rT r true)) := by kernel_rfl
theorem evF13 : pureSeg [] Tryd.f35 [AG (stL c k0 k1 k2 k3 k4 k5 k6 k7 l0 h0 l1 h1 l2 h2 l3 h3 l4 h4 l5 h5 l6 h6 l7 h7), AG [I 13, I d, I s, I imm]] r = (ckK (stL c k0 k1 k2 k3 k4 k5 k6 k7 l0 h0 l1 h1 l2 h2 l3 h3 l4 h4 l5 h5 l6 h6 l7 h7) d r (ckK (stL c k0 k1 k2 k3 k4 k5 k6 k7 l0 h0 l1 h1 l2 h2 l3 h3 l4 h4 l5 h5 l6 h6 l7 h7) s r (atS (stL c k0 k1 k2 k3 k4 k5 k6 k7 l0 h0 l1 h1 l2 h2 l3 h3 l4 h4 l5 h5 l6 h6 l7 h7) s (rT r true)))) := by kernel_rfl
theorem evF14 : pureSeg [] Tryd.f35 [AG (stL c k0 k1 k2 k3 k4 k5 k6 k7 l0 h0 l1 h1 l2 h2 l3 h3 l4 h4 l5 h5 l6 h6 l7 h7), AG [I 14, I d, I s, I imm]] r = (ckK (stL c k0 k1 k2 k3 k4 k5 k6 k7 l0 h0 l1 h1 l2 h2 l3 h3 l4 h4 l5 h5 l6 h6 l7 h7) d r (ckK (stL c k0 k1 k2 k3 k4 k5 k6 k7 l0 h0 l1 h1 l2 h2 l3 h3 l4 h4 l5 h5 l6 h6 l7 h7) s r (atS (stL c k0 k1 k2 k3 k4 k5 k6 k7 l0 h0 l1 h1 l2 h2 l3 h3 l4 h4 l5 h5 l6 h6 l7 h7) s (rT r true)))) := by kernel_rfl
theorem evF15 : pureSeg [] Tryd.f35 [AG (stL c k0 k1 k2 k3 k4 k5 k6 k7 l0 h0 l1 h1 l2 h2 l3 h3 l4 h4 l5 h5 l6 h6 l7 h7), AG [I 15, I d, I s, I imm]] r = (ckK (stL c k0 k1 k2 k3 k4 k5 k6 k7 l0 h0 l1 h1 l2 h2 l3 h3 l4 h4 l5 h5 l6 h6 l7 h7) d r (ckK (stL c k0 k1 k2 k3 k4 k5 k6 k7 l0 h0 l1 h1 l2 h2 l3 h3 l4 h4 l5 h5 l6 h6 l7 h7) s r (atS (stL c k0 k1 k2 k3 k4 k5 k6 k7 l0 h0 l1 h1 l2 h2 l3 h3 l4 h4 l5 h5 l6 h6 l7 h7) s (rT r true)))) := by kernel_rfl
theorem evF16 : pureSeg [] Tryd.f35 [AG (stL c k0 k1 k2 k3 k4 k5 k6 k7 l0 h0 l1 h1 l2 h2 l3 h3 l4 h4 l5 h5 l6 h6 l7 h7), AG [I 16, I d, I s, I imm]] r = (ckK (stL c k0 k1 k2 k3 k4 k5 k6 k7 l0 h0 l1 h1 l2 h2 l3 h3 l4 h4 l5 h5 l6 h6 l7 h7) d r (ckK (stL c k0 k1 k2 k3 k4 k5 k6 k7 l0 h0 l1 h1 l2 h2 l3 h3 l4 h4 l5 h5 l6 h6 l7 h7) s r (atS (stL c k0 k1 k2 k3 k4 k5 k6 k7 l0 h0 l1 h1 l2 h2 l3 h3 l4 h4 l5 h5 l6 h6 l7 h7) s (rT r true)))) := by kernel_rfl
theorem evF17 : pureSeg [] Tryd.f35 [AG (stL c k0 k1 k2 k3 k4 k5 k6 k7 l0 h0 l1 h1 l2 h2 l3 h3 l4 h4 l5 h5 l6 h6 l7 h7), AG [I 17, I d, I s, I imm]] r = (atS (stL c k0 k1 k2 k3 k4 k5 k6 k7 l0 h0 l1 h1 l2 h2 l3 h3 l4 h4 l5 h5 l6 h6 l7 h7) s (rT r true)) := by kernel_rfl
theorem evF18 : pureSeg [] Tryd.f35 [AG (stL c k0 k1 k2 k3 k4 k5 k6 k7 l0 h0 l1 h1 l2 h2 l3 h3 l4 h4 l5 h5 l6 h6 l7 h7), AG [I 18, I d, I s, I imm]] r = (atS (stL c k0 k1 k2 k3 k4 k5 k6 k7 l0 h0 l1 h1 l2 h2 l3 h3 l4 h4 l5 h5 l6 h6 l7 h7) s (rT r true)) := by kernel_rfl
theorem evF19 : pureSeg [] Tryd.f35 [AG (stL c k0 k1 k2 k3 k4 k5 k6 k7 l0 h0 l1 h1 l2 h2 l3 h3 l4 h4 l5 h5 l6 h6 l7 h7), AG [I 19, I d, I s, I imm]] r = (atS (stL c k0 k1 k2 k3 k4 k5 k6 k7 l0 h0 l1 h1 l2 h2 l3 h3 l4 h4 l5 h5 l6 h6 l7 h7) s (gN 1 16 k2 k3 l2 h2 l3 h3 imm r (gN 2 24 k2 k3 l2 h2 l3 h3 imm r (g3 k2 imm r)))) := by kernel_rfl
theorem evF20 : pureSeg [] Tryd.f35 [AG (stL c k0 k1 k2 k3 k4 k5 k6 k7 l0 h0 l1 h1 l2 h2 l3 h3 l4 h4 l5 h5 l6 h6 l7 h7), AG [I 20, I d, I s, I imm]] r = (bif !k0 then rT r false else atS (stL c k0 k1 k2 k3 k4 k5 k6 k7 l0 h0 l1 h1 l2 h2 l3 h3 l4 h4 l5 h5 l6 h6 l7 h7) s (rT r true)) := by kernel_rfl
end
theorem ckK_ok {S : List Value} {q : Int} {r : List Value} {p : Prop} (hS : IsSt S) (h0 : 0 ≤ q) (h8 : q < 8) (h1 : kI S q = false → [B false] = r) (h2 : kI S q = true → p) : ckK S q r p := by
  obtain ⟨c, k0, k1, k2, k3, k4, k5, k6, k7, l0, h0', l1, h1', l2, h2', l3, h3, l4, h4, l5, h5, l6, h6, l7, h7, hcs⟩ := isSt_eq hS
  subst hcs
  have e := stB (c := c) (k0 := k0) (k1 := k1) (k2 := k2) (k3 := k3) (k4 := k4) (k5 := k5) (k6 := k6) (k7 := k7) (l0 := l0) (h0 := h0') (l1 := l1) (h1 := h1') (l2 := l2) (h2 := h2') (l3 := l3) (h3 := h3) (l4 := l4) (h4 := h4) (l5 := l5) (h5 := h5) (l6 := l6) (h6 := h6) (l7 := l7) (h7 := h7) h0 h8
  show bif _ then _ else _
  rw [decide_eq_true h0, decide_eq_true h8, Bool.and_self, cond_true, e, cond_true]
  exact bifN (fun h => ⟨trivial, h1 h⟩) (fun h => h2 h)
theorem atS_ok {S : List Value} {s : Int} {p : Prop} (hS : IsSt S) (h0 : 0 ≤ s) (h8 : s < 8) (h : p) : atS S s p := by
  obtain ⟨c, k0, k1, k2, k3, k4, k5, k6, k7, l0, h0', l1, h1', l2, h2', l3, h3, l4, h4, l5, h5, l6, h6, l7, h7, hcs⟩ := isSt_eq hS
  subst hcs
  obtain ⟨e1, e2, e3⟩ := stI (c := c) (k0 := k0) (k1 := k1) (k2 := k2) (k3 := k3) (k4 := k4) (k5 := k5) (k6 := k6) (k7 := k7) (l0 := l0) (h0 := h0') (l1 := l1) (h1 := h1') (l2 := l2) (h2 := h2') (l3 := l3) (h3 := h3) (l4 := l4) (h4 := h4) (l5 := l5) (h5 := h5) (l6 := l6) (h6 := h6) (l7 := l7) (h7 := h7) h0 h8
  show bif _ then _ else _
  rw [decide_eq_true h0, decide_eq_true h8, Bool.and_self, cond_true, e1, e2]
  have e4 : (9 + s.toNat * 2 + 2).ble (stL c k0 k1 k2 k3 k4 k5 k6 k7 l0 h0' l1 h1' l2 h2' l3 h3 l4 h4 l5 h5 l6 h6 l7 h7).length = true := e3
  rw [e4]
  exact h
theorem fiS_ok {S : List Value} {s imm size bound : Int} {r : List Value} (h : [B (r84 (lI S s) (hI S s) imm size bound)] = r) : fiS S s imm size bound r := by
  unfold r84 at h
  refine bifP (fun c => ?_) (fun c => ?_)
  · have c' : decide (IntKind.i64.wrap (lI S s + imm) ≥ 0) = true := c
    rw [c', cond_true] at h
    exact ⟨trivial, h⟩
  · have c' : decide (IntKind.i64.wrap (lI S s + imm) ≥ 0) = false := c
    rw [c', cond_false] at h
    exact ⟨trivial, h⟩
theorem lk_ok {S : List Value} {s imm size bound : Int} {r : List Value} (hS : IsSt S) (h0 : 0 ≤ s) (h8 : s < 8) (h : [B (lkB S s imm size bound)] = r) : ckK S s r (atS S s (fiS S s imm size bound r)) := by
  unfold lkB at h
  refine ckK_ok hS h0 h8 (fun e => ?_) (fun e => atS_ok hS h0 h8 (fiS_ok ?_))
  · rw [e] at h; exact h
  · rw [e] at h; exact h
theorem gN_ok {m n : Int} {k2 k3 : Bool} {l2 h2 l3 h3 imm : Int} {r : List Value} {p : Prop} (hl : w (l2 + 0) = l2) (hh : w (h2 + 0) = h2) (h1 : imm = m → [B (r95v k2 k3 l2 h2 l3 h3 n)] = r) (hf : imm = m → r95v k2 k3 l2 h2 l3 h3 n = false → p) (h2' : imm ≠ m → p) : gN m n k2 k3 l2 h2 l3 h3 imm r p := by
  refine bifP (fun c => ?_) (fun c => h2' (beq_eq_false_iff_ne.1 c))
  have hm := beq_iff_eq.1 c
  replace h1 := h1 hm
  replace hf := hf hm
  unfold r95v r84 at h1 hf
  have hl' : IntKind.i64.wrap (l2 + 0) = l2 := hl
  have hh' : IntKind.i64.wrap (h2 + 0) = h2 := hh
  rw [hl', hh'] at h1 hf
  refine bifP (fun c1 => ?_) (fun c1 => hf (by rw [c1]; rfl))
  refine bifP (fun c2 => ?_) (fun c2 => hf (by rw [c1, c2]; rfl))
  refine bifP (fun c3 => ?_) (fun c3 => hf (by rw [c1, c2, c3]; rfl))
  refine bifP (fun c4 => ?_) (fun c4 => hf (by rw [c1, c2, c3, c4]; rfl))
  refine bifP (fun c5 => ?_) (fun c5 => hf (by rw [c1, c2, c3, c4, c5]; rfl))
  refine bifP (fun c6 => ?_) (fun c6 => hf (by rw [c1, c2, c3, c4, c5]; exact c6))
  rw [c1, c2, c3, c4, c5] at h1
  have c6' : decide (IntKind.i64.wrap (h2 + h3) ≤ 512) = true := c6
  simp only [Bool.not_true, cond_false, cond_true, c6'] at h1
  exact ⟨trivial, h1⟩
set_option maxRecDepth 100000 in
theorem fine_ok {cs : List Value} {op d s imm : Int} (hS : IsSt cs) (hB : SpB cs 0) (hr : right ⟨op, d, s, imm⟩ = true) : pureSeg [] Tryd.f35 [AG cs, AG [I op, I d, I s, I imm]] [B (r46 cs op d s imm)] := by
  have ho : ¬ (op < 0 ∨ 20 < op) := fun h => by rw [right_out h] at hr; cases hr
  obtain ⟨⟨d0, d8⟩, s0, s8⟩ := right_regs hr
  have h51 := right_r51 hr
  simp only at d0 d8 s0 s8 h51
  have b2 := hB 2 (by decide)
  have hS' := hS
  obtain ⟨c, k0, k1, k2, k3, k4, k5, k6, k7, l0, h0', l1, h1', l2, h2', l3, h3, l4, h4, l5, h5, l6, h6, l7, h7, hcs⟩ := isSt_eq hS
  have : op = 0 ∨ op = 1 ∨ op = 2 ∨ op = 3 ∨ op = 4 ∨ op = 5 ∨ op = 6 ∨ op = 7 ∨ op = 8 ∨ op = 9 ∨ op = 10 ∨ op = 11 ∨ op = 12 ∨ op = 13 ∨ op = 14 ∨ op = 15 ∨ op = 16 ∨ op = 17 ∨ op = 18 ∨ op = 19 ∨ op = 20 := by omega
  rcases this with rfl | rfl | rfl | rfl | rfl | rfl | rfl | rfl | rfl | rfl | rfl | rfl | rfl | rfl | rfl | rfl | rfl | rfl | rfl | rfl | rfl
  · rw [hcs, evF0, ← hcs]
    exact atS_ok hS' s0 s8 ⟨trivial, rfl⟩
  · rw [hcs, evF1, ← hcs]
    exact ckK_ok hS' s0 s8 (fun e => by show _ = [B (kI cs s)]; rw [e]) fun e => atS_ok hS' s0 s8 ⟨trivial, by show _ = [B (kI cs s)]; rw [e]⟩
  · rw [hcs, evF2, ← hcs]
    exact ckK_ok hS' d0 d8 (fun e => by show _ = [B (kI cs d && kI cs s)]; rw [e]; rfl) fun e => ckK_ok hS' s0 s8 (fun e2 => by show _ = [B (kI cs d && kI cs s)]; rw [e, e2]; rfl) fun e2 => atS_ok hS' s0 s8 ⟨trivial, by show _ = [B (kI cs d && kI cs s)]; rw [e, e2]; rfl⟩
  · rw [hcs, evF3, ← hcs]
    exact ckK_ok hS' d0 d8 (fun e => by show _ = [B (kI cs d && kI cs s)]; rw [e]; rfl) fun e => ckK_ok hS' s0 s8 (fun e2 => by show _ = [B (kI cs d && kI cs s)]; rw [e, e2]; rfl) fun e2 => atS_ok hS' s0 s8 ⟨trivial, by show _ = [B (kI cs d && kI cs s)]; rw [e, e2]; rfl⟩
  · rw [hcs, evF4, ← hcs]
    exact ckK_ok hS' d0 d8 (fun e => by show _ = [B (kI cs d)]; rw [e]) fun e => atS_ok hS' s0 s8 ⟨trivial, by show _ = [B (kI cs d)]; rw [e]⟩
  · rw [hcs, evF5, ← hcs]
    exact ckK_ok hS' d0 d8 (fun e => by show _ = [B (kI cs d)]; rw [e]) fun e => atS_ok hS' s0 s8 ⟨trivial, by show _ = [B (kI cs d)]; rw [e]⟩
  · rw [hcs, evF6, ← hcs]
    exact ckK_ok hS' d0 d8 (fun e => by show _ = [B (kI cs d)]; rw [e]) fun e => atS_ok hS' s0 s8 ⟨trivial, by show _ = [B (kI cs d)]; rw [e]⟩
  · rw [hcs, evF7, ← hcs]
    exact lk_ok hS' s0 s8 rfl
  · rw [hcs, evF8, ← hcs]
    exact lk_ok hS' s0 s8 rfl
  · rw [hcs, evF9, ← hcs]
    exact lk_ok hS' s0 s8 rfl
  · rw [hcs, evF10, ← hcs]
    exact lk_ok hS' s0 s8 rfl
  · rw [hcs, evF11, ← hcs]
    exact ckK_ok hS' d0 d8 (fun e => by show _ = [B (bif kI cs d && kI cs s then r84 (lI cs d) (hI cs d) imm 1 64 else false)]; rw [e]; rfl) fun e => ckK_ok hS' s0 s8 (fun e2 => by show _ = [B (bif kI cs d && kI cs s then r84 (lI cs d) (hI cs d) imm 1 64 else false)]; rw [e, e2]; rfl) fun e2 => atS_ok hS' s0 s8 (atS_ok hS' d0 d8 (fiS_ok (by show _ = [B (bif kI cs d && kI cs s then r84 (lI cs d) (hI cs d) imm 1 64 else false)]; rw [e, e2]; rfl)))
  · rw [hcs, evF12, ← hcs]
    exact atS_ok hS' s0 s8 ⟨trivial, rfl⟩
  · rw [hcs, evF13, ← hcs]
    exact ckK_ok hS' d0 d8 (fun e => by show _ = [B (kI cs d && kI cs s)]; rw [e]; rfl) fun e => ckK_ok hS' s0 s8 (fun e2 => by show _ = [B (kI cs d && kI cs s)]; rw [e, e2]; rfl) fun e2 => atS_ok hS' s0 s8 ⟨trivial, by show _ = [B (kI cs d && kI cs s)]; rw [e, e2]; rfl⟩
  · rw [hcs, evF14, ← hcs]
    exact ckK_ok hS' d0 d8 (fun e => by show _ = [B (kI cs d && kI cs s)]; rw [e]; rfl) fun e => ckK_ok hS' s0 s8 (fun e2 => by show _ = [B (kI cs d && kI cs s)]; rw [e, e2]; rfl) fun e2 => atS_ok hS' s0 s8 ⟨trivial, by show _ = [B (kI cs d && kI cs s)]; rw [e, e2]; rfl⟩
  · rw [hcs, evF15, ← hcs]
    exact ckK_ok hS' d0 d8 (fun e => by show _ = [B (kI cs d && kI cs s)]; rw [e]; rfl) fun e => ckK_ok hS' s0 s8 (fun e2 => by show _ = [B (kI cs d && kI cs s)]; rw [e, e2]; rfl) fun e2 => atS_ok hS' s0 s8 ⟨trivial, by show _ = [B (kI cs d && kI cs s)]; rw [e, e2]; rfl⟩
  · rw [hcs, evF16, ← hcs]
    exact ckK_ok hS' d0 d8 (fun e => by show _ = [B (kI cs d && kI cs s)]; rw [e]; rfl) fun e => ckK_ok hS' s0 s8 (fun e2 => by show _ = [B (kI cs d && kI cs s)]; rw [e, e2]; rfl) fun e2 => atS_ok hS' s0 s8 ⟨trivial, by show _ = [B (kI cs d && kI cs s)]; rw [e, e2]; rfl⟩
  · rw [hcs, evF17, ← hcs]
    exact atS_ok hS' s0 s8 ⟨trivial, rfl⟩
  · rw [hcs, evF18, ← hcs]
    exact atS_ok hS' s0 s8 ⟨trivial, rfl⟩
  · rw [hcs, evF19, ← hcs]
    refine atS_ok hS' s0 s8 ?_
    subst hcs
    have i1 : 1 ≤ imm ∧ imm ≤ 3 := by
      have h51' : (bif decide (imm ≥ 1) then decide (imm ≤ 3) else false) = true := h51
      cases e : decide (imm ≥ 1) with
      | false => rw [e] at h51'; cases h51'
      | true => rw [e, cond_true] at h51'; simp only [decide_eq_true_eq] at e h51'; omega
    have L2 : In40 l2 ∧ In40 h2' := b2
    unfold In40 at L2
    have w1 : w (l2 + 0) = l2 := by rw [w_id (by omega) (by omega)]; omega
    have w2 : w (h2' + 0) = h2' := by rw [w_id (by omega) (by omega)]; omega
    have e0 : r46 (stL c k0 k1 k2 k3 k4 k5 k6 k7 l0 h0' l1 h1' l2 h2' l3 h3 l4 h4 l5 h5 l6 h6 l7 h7) 19 d s imm = (bif imm == 1 then r95v k2 k3 l2 h2' l3 h3 16 else bif imm == 2 then r95v k2 k3 l2 h2' l3 h3 24 else k2) := rfl
    rw [e0]
    refine gN_ok w1 w2 (fun e => ?_) (fun e ef => ?_) (fun e => gN_ok w1 w2 (fun e' => ?_) (fun e' ef => ?_) (fun e' => ?_))
    · subst e; rfl
    · subst e
      have : (bif (1 : Int) == 1 then r95v k2 k3 l2 h2' l3 h3 16 else bif (1 : Int) == 2 then r95v k2 k3 l2 h2' l3 h3 24 else k2) = false := ef
      rw [this]
      exact ⟨trivial, rfl⟩
    · subst e'; rfl
    · subst e'
      have : (bif (2 : Int) == 1 then r95v k2 k3 l2 h2' l3 h3 16 else bif (2 : Int) == 2 then r95v k2 k3 l2 h2' l3 h3 24 else k2) = false := ef
      rw [this]
      exact ⟨trivial, rfl⟩
    · have e3 : imm = 3 := by omega
      subst e3
      exact ⟨trivial, rfl⟩
  · rw [hcs, evF20, ← hcs]
    refine bifN (fun e => ⟨trivial, ?_⟩) (fun e => atS_ok hS' s0 s8 ⟨trivial, ?_⟩)
    · subst hcs; show _ = [B k0]; rw [e]
    · subst hcs; show _ = [B k0]; rw [e]
noncomputable def con35 : Con := { f := 35, gh := [], paths := [], spec := fun args bs => match args, bs with
  | [.agg cs, v], [] => match aggV v with
    | some [op, d, s, imm] => some (IsSt cs.toList ∧ SpB cs.toList 0 ∧ right ⟨op, d, s, imm⟩ = true, [B (r46 cs.toList op d s imm)], [])
    | _ => none
  | _, _ => none }
set_option maxRecDepth 100000 in
theorem con35_ok : con35.ok Tryd.prog w0 := by
  intro args bs p rs out e hp
  simp only [con35] at e
  split at e <;> first | (simp at e; done) | skip
  split at e <;> first | (simp at e; done) | skip
  rename_i cs v _ _ op d s imm hv
  simp only [Option.some.injEq, Prod.mk.injEq] at e
  obtain ⟨rfl, rfl, rfl⟩ := e
  obtain ⟨h1, h2, h3⟩ := hp
  rw [aggV_eq hv]
  exact pureS (f := 35) (cs := []) Tryd.func35 (by kernel_rfl) (fun c hc => by simp at hc) (fine_ok h1 h2 h3)

noncomputable def ft39 : FT := { loc := fun _ => false, mask := fun id => bif Nat.beq id 4 then live 74 [2, 3, 4, 5] else [] }
abbrev nt39 : Nt := { gh := [], flags := [], paths := [⟨2, [], true⟩, ⟨3, [], true⟩, ⟨4, [], true⟩], tr := [] }
noncomputable def todo39 : List Item := todoOf Tryd.f39 4
noncomputable def fr39 (i : Int) : List AV := frm 74 [(2, .v (PT G)), (3, .v (PT (G + 1))), (4, .v (PT (G + 2))), (5, .v (I i))]
noncomputable def hp39 (a b r : List Value) : AHeap := heapB G [some (.cells a true), some (.cells b true), some (.cells r true)]
abbrev seg39 (K : List Value → AHeap → Prop) (L : List Item → List AV → AHeap → Prop) (t : List Item) (fr : List AV) (h : AHeap) : Prop :=
  segK3 Tryd.prog ft39 (semI Tryd.prog (fun _ => ft0) (callsOf G []) 400 20 (retT G ntP K)) Tryd.f39 [4] 60 t fr (fun t fr h => match t with
  | .code (.region 4 _ _) :: _ => canonT G nt39 (L t) fr h
  | _ => False) h

abbrev b8 (i : Int) (p : Prop) : Prop := bif decide (0 ≤ i) && decide (i < 8) then p else False
abbrev nx39 (a b r : List Value) (i : Int) (L : List Item → List AV → AHeap → Prop) : Prop := (PlainL a ∧ PlainL b ∧ PlainL r ∧ True) ∧ L todo39 (fr39 (w (i + 1))) (hp39 a b r)
abbrev ze39 (a b r : List Value) (i : Int) (L : List Item → List AV → AHeap → Prop) : Prop :=
  b8 i (bif (1 + i.toNat * 1 + 1).ble a.length then b8 i (bif (9 + i.toNat * 2 + 2).ble (splice a (1 + i.toNat * 1) [B false]).length then nx39 (splice (splice a (1 + i.toNat * 1) [B false]) (9 + i.toNat * 2) [I 0, I 0]) b r i L else False) else False)
abbrev hi39 (a b r : List Value) (i : Int) (L : List Item → List AV → AHeap → Prop) : Prop :=
  b8 i (bif okI .i64 (nth b (9 + i.toNat * 2 + 1)) then b8 i (bif okI .i64 (nth a (9 + i.toNat * 2 + 1)) then
    bif decide (intO (nth b (9 + i.toNat * 2 + 1)) > intO (nth a (9 + i.toNat * 2 + 1))) then
      b8 i (bif okI .i64 (nth b (9 + i.toNat * 2 + 1)) then b8 i (bif 1 == 1 && (9 + i.toNat * 2 + 1 + 1).ble a.length then nx39 (splice a (9 + i.toNat * 2 + 1) [I (intO (nth b (9 + i.toNat * 2 + 1)))]) b r i L else False) else False)
    else nx39 a b r i L else False) else False)
abbrev okc25 (a : List Value) : Bool := Nat.ble 25 a.length && (okB (nth a 0) && (okB (nth a 1) && (okB (nth a 2) && (okB (nth a 3) && (okB (nth a 4) && (okB (nth a 5) && (okB (nth a 6) && (okB (nth a 7) && (okB (nth a 8) && (okI .i64 (nth a 9) && (okI .i64 (nth a 10) && (okI .i64 (nth a 11) && (okI .i64 (nth a 12) && (okI .i64 (nth a 13) && (okI .i64 (nth a 14) && (okI .i64 (nth a 15) && (okI .i64 (nth a 16) && (okI .i64 (nth a 17) && (okI .i64 (nth a 18) && (okI .i64 (nth a 19) && (okI .i64 (nth a 20) && (okI .i64 (nth a 21) && (okI .i64 (nth a 22) && (okI .i64 (nth a 23) && (okI .i64 (nth a 24) && true)))))))))))))))))))))))))
theorem start39 (c k0 k1 k2 k3 k4 k5 k6 k7 : Bool) (l0 h0 l1 h1 l2 h2 l3 h3 l4 h4 l5 h5 l6 h6 l7 h7 : Int) (c' k0' k1' k2' k3' k4' k5' k6' k7' : Bool) (l0' h0' l1' h1' l2' h2' l3' h3' l4' h4' l5' h5' l6' h6' l7' h7' : Int) (K : List Value → AHeap → Prop) (L : List Item → List AV → AHeap → Prop) :
    seg39 K L [.code (Tryd.f39.body.getD .skip)] (startF Tryd.f39 [AG (stL c k0 k1 k2 k3 k4 k5 k6 k7 l0 h0 l1 h1 l2 h2 l3 h3 l4 h4 l5 h5 l6 h6 l7 h7), AG (stL c' k0' k1' k2' k3' k4' k5' k6' k7' l0' h0' l1' h1' l2' h2' l3' h3' l4' h4' l5' h5' l6' h6' l7' h7')]) (heapB G [])
    = (bif !c then True ∧ K [AG (stL c' k0' k1' k2' k3' k4' k5' k6' k7' l0' h0' l1' h1' l2' h2' l3' h3' l4' h4' l5' h5' l6' h6' l7' h7')] (heapB G [])
      else (PlainL (stL c k0 k1 k2 k3 k4 k5 k6 k7 l0 h0 l1 h1 l2 h2 l3 h3 l4 h4 l5 h5 l6 h6 l7 h7) ∧ PlainL (stL c' k0' k1' k2' k3' k4' k5' k6' k7' l0' h0' l1' h1' l2' h2' l3' h3' l4' h4' l5' h5' l6' h6' l7' h7') ∧ PlainL z25 ∧ True) ∧ L todo39 (fr39 0) (hp39 (stL c k0 k1 k2 k3 k4 k5 k6 k7 l0 h0 l1 h1 l2 h2 l3 h3 l4 h4 l5 h5 l6 h6 l7 h7) (stL c' k0' k1' k2' k3' k4' k5' k6' k7' l0' h0' l1' h1' l2' h2' l3' h3' l4' h4' l5' h5' l6' h6' l7' h7') z25)) := by kernel_rfl
theorem head39 (i : Int) (a b r : List Value) (K : List Value → AHeap → Prop) (L : List Item → List AV → AHeap → Prop) :
    seg39 K L todo39 (fr39 i) (hp39 a b r)
    = (bif decide (i < 8) then
        b8 i (bif okB (nth a (1 + i.toNat * 1)) then bif !boolO (nth a (1 + i.toNat * 1)) then ze39 a b r i L else
        b8 i (bif okB (nth b (1 + i.toNat * 1)) then bif !boolO (nth b (1 + i.toNat * 1)) then ze39 a b r i L else
          b8 i (bif okI .i64 (nth b (9 + i.toNat * 2 + 0)) then b8 i (bif okI .i64 (nth a (9 + i.toNat * 2 + 0)) then
            bif decide (intO (nth b (9 + i.toNat * 2 + 0)) < intO (nth a (9 + i.toNat * 2 + 0))) then
              b8 i (bif okI .i64 (nth b (9 + i.toNat * 2 + 0)) then b8 i (bif 1 == 1 && (9 + i.toNat * 2 + 0 + 1).ble a.length then hi39 (splice a (9 + i.toNat * 2 + 0) [I (intO (nth b (9 + i.toNat * 2 + 0)))]) b r i L else False) else False)
            else hi39 a b r i L
          else False) else False)
        else False) else False)
      else bif okc25 a then bif 25 == 25 && Nat.ble 25 r.length then True ∧ K [AG (lit25 a)] (heapB G []) else False else False) := by kernel_rfl

theorem nth_ext {us vs : List Value} (hl : us.length = vs.length) (h : ∀ i, i < us.length → nth us i = nth vs i) : us = vs := by
  apply List.ext_getElem?
  intro i
  by_cases hi : i < us.length
  · rw [← nth_eq, ← nth_eq]; exact h i hi
  · rw [List.getElem?_eq_none (by omega), List.getElem?_eq_none (by omega)]
theorem splice_id {cs : List Value} {n : Nat} {x : Value} (h : nth cs n = some x) : splice cs n [x] = cs := by
  have hn : n < cs.length := by
    rw [nth_eq] at h
    exact (List.getElem?_eq_some_iff.1 h).1
  have hl : n + [x].length ≤ cs.length := by simp; omega
  refine nth_ext (splice_len hl) fun i _ => ?_
  by_cases e : i = n
  · subst e
    rw [nth_splice_at x (by omega), h]
  · exact nth_splice_out hl (by simp; omega)
theorem splice_two {cs : List Value} {n : Nat} {x y : Value} (h : n + 2 ≤ cs.length) : splice (splice cs n [x]) (n + 1) [y] = splice cs n [x, y] := by
  have h1 : n + [x].length ≤ cs.length := by simp; omega
  have l1 := splice_len h1
  have h2 : n + 1 + [y].length ≤ (splice cs n [x]).length := by rw [l1]; simp; omega
  have h3 : n + [x, y].length ≤ cs.length := by simp; omega
  refine nth_ext (by rw [splice_len h2, l1, splice_len h3]) fun i _ => ?_
  by_cases e : i = n
  · subst e
    rw [nth_splice_out h2 (by omega), nth_splice_at x (by omega)]
    exact (nth_splice_in (k := 0) h3 (by simp)).symm
  · by_cases e1 : i = n + 1
    · subst e1
      rw [nth_splice_at y (by rw [l1]; omega)]
      exact (nth_splice_in (k := 1) h3 (by simp)).symm
    · rw [nth_splice_out h2 (by simp; omega), nth_splice_out h1 (by simp; omega), nth_splice_out h3 (by simp; omega)]
abbrev Sem39 (w0 : World) (K : List Value → AHeap → Prop) (t : List Item) (fr : List AV) (h : AHeap) : Prop := Agm.Sem Tryd.prog w0 (Tryd.prog.globals.size + ntP.flags.length) Tryd.f39 (retT G ntP K) t fr h
theorem leaf39 {K : List Value → AHeap → Prop} : ∀ t fr h, (match t with
    | .code (.region 4 _ _) :: _ => canonT G nt39 (Sem39 w0 K t) fr h
    | _ => False) → Sem39 w0 K t fr h := by
  intro t fr h e
  split at e
  · exact canonT_semN (nt := nt39) rfl e
  · exact e.elim
theorem okc25_st {a : List Value} (h : IsSt a) : okc25 a = true := by
  obtain ⟨c, k0, k1, k2, k3, k4, k5, k6, k7, l0, h0, l1, h1, l2, h2, l3, h3, l4, h4, l5, h5, l6, h6, l7, h7, hcs⟩ := isSt_eq h
  subst hcs
  rfl
theorem isSt_ty {a : List Value} (h : IsSt a) : TyF a 0 := by
  obtain ⟨c, k0, k1, k2, k3, k4, k5, k6, k7, l0, h0, l1, h1, l2, h2, l3, h3, l4, h4, l5, h5, l6, h6, l7, h7, hcs⟩ := isSt_eq h
  subst hcs
  exact tyF_st
theorem jn0_st {a b : List Value} {i : Nat} (h : IsSt a) (hi : i < 8) : IsSt (jn b 0 i a) := by
  unfold jn
  rw [Nat.zero_add, Nat.zero_add]
  have e1 : (1 + i) = 1 + (i : Int).toNat * 1 := by simp
  have e2 : (9 + i * 2) = 9 + (i : Int).toNat * 2 := by simp
  cases boolO (nth a (1 + i)) && boolO (nth b (1 + i)) with
  | true =>
    rw [cond_true, e1, e2]
    exact isSt_spI (isSt_spB h (by omega) (by omega) _) (by omega) (by omega) _ _
  | false =>
    rw [cond_false, e1, e2]
    exact isSt_spI (isSt_spB h (by omega) (by omega) _) (by omega) (by omega) _ _
set_option maxRecDepth 100000 in
set_option maxHeartbeats 4000000 in
theorem loop39 {b : List Value} {K : List Value → AHeap → Prop} (hb : IsSt b) : ∀ (n i : Nat) (a : List Value), i + n = 8 → IsSt a → K [AG (lit25 (joinFrom b 0 n i a))] (heapB G []) → Sem39 w0 K todo39 (fr39 i) (hp39 a b z25) := by
  have pz : PlainL z25 := isSt_plain (by rfl)
  intro n
  induction n with
  | zero =>
    intro i a hi ha hK
    refine seg_semI3 (F := ft39) mixed (callsOf_ok ok_none) leaf39 [4] 20 60 ((head39 i a b z25 K _).mpr ?_)
    rw [decide_eq_false (show ¬ (i : Int) < 8 by omega), cond_false, okc25_st ha]
    exact ⟨trivial, hK⟩
  | succ n ih =>
    intro i a hi ha hK
    refine seg_semI3 (F := ft39) mixed (callsOf_ok ok_none) leaf39 [4] 20 60 ((head39 i a b z25 K _).mpr ?_)
    have hlt : i < 8 := by omega
    have q0 : (0 : Int) ≤ (i : Int) := by omega
    have q8 : (i : Int) < 8 := by omega
    have hw1 : w ((i : Int) + 1) = ((i + 1 : Nat) : Int) := by rw [w_id (by omega) (by omega)]; omega
    have ta := isSt_ty ha
    have tb := isSt_ty hb
    have la := isSt_len ha
    have fin := ih (i + 1) (jn b 0 i a) (by omega) (jn0_st ha hlt) hK
    have pj := isSt_plain (jn0_st (b := b) ha hlt)
    have pb := isSt_plain hb
    have a1 := ta.kn i hlt
    have a3 := ta.lo i hlt
    have a4 := ta.hi i hlt
    have b1 := tb.kn i hlt
    have b3 := tb.lo i hlt
    have b4 := tb.hi i hlt
    simp only [Nat.zero_add] at a1 a3 a4 b1 b3 b4
    have nx : ∀ a', a' = jn b 0 i a → nx39 a' b z25 i (Sem39 w0 K) := by
      rintro _ rfl
      unfold nx39
      rw [hw1]
      exact ⟨⟨pj, pb, pz, trivial⟩, fin⟩
    have ze : (boolO (nth a (1 + i)) && boolO (nth b (1 + i))) = false → ze39 a b z25 i (Sem39 w0 K) := by
      intro h
      unfold ze39 b8
      rw [decide_eq_true q0, decide_eq_true q8, Int.toNat_natCast, Nat.mul_one]
      have l1 : (1 + i + 1).ble a.length = true := Nat.ble_eq_true_of_le (by omega)
      have l2 : (9 + i * 2 + 2).ble (splice a (1 + i) [B false]).length = true := Nat.ble_eq_true_of_le (by rw [splice_len (by simp; omega)]; omega)
      rw [l1, l2]
      refine nx _ ?_
      unfold jn
      rw [Nat.zero_add, Nat.zero_add, h]
      rfl
    rw [decide_eq_true q8, cond_true]
    unfold b8
    rw [decide_eq_true q0, decide_eq_true q8, Int.toNat_natCast, Nat.mul_one]
    simp only [Bool.and_self, cond_true, a1, a3, b1, b3]
    refine bifN (fun h => ze (by rw [h]; rfl)) (fun h => ?_)
    refine bifN (fun h' => ze (by rw [h, h']; rfl)) (fun h' => ?_)
    -- both are known
    have hA : nth a (1 + i) = some (B true) := by rw [okB_get a1, h]
    have hlo := okI_get a3
    have hhi := okI_get a4
    have ej : jn b 0 i a = splice a (9 + i * 2) [I (r72b (intO (nth a (9 + i * 2 + 0))) (intO (nth a (9 + i * 2 + 1))) (intO (nth b (9 + i * 2 + 0))) (intO (nth b (9 + i * 2 + 1)))),
        I (r72c (intO (nth a (9 + i * 2 + 0))) (intO (nth a (9 + i * 2 + 1))) (intO (nth b (9 + i * 2 + 0))) (intO (nth b (9 + i * 2 + 1))))] := by
      unfold jn
      rw [Nat.zero_add, Nat.zero_add, h, h', Bool.and_self, cond_true, splice_id hA]
    have hi : ∀ a' x, a' = splice a (9 + i * 2 + 0) [I x] → r72b (intO (nth a (9 + i * 2 + 0))) (intO (nth a (9 + i * 2 + 1))) (intO (nth b (9 + i * 2 + 0))) (intO (nth b (9 + i * 2 + 1))) = x → hi39 a' b z25 i (Sem39 w0 K) := by
      rintro _ x rfl hx
      have hl0 : 9 + i * 2 + 0 + [I x].length ≤ a.length := by simp; omega
      have l1 := splice_len hl0
      have e1 : nth (splice a (9 + i * 2 + 0) [I x]) (9 + i * 2 + 1) = nth a (9 + i * 2 + 1) := nth_splice_out hl0 (by simp)
      unfold hi39 b8
      rw [decide_eq_true q0, decide_eq_true q8, Int.toNat_natCast, l1, e1, a4, b4]
      have l2 : (9 + i * 2 + 1 + 1).ble a.length = true := Nat.ble_eq_true_of_le (by omega)
      rw [l2]
      simp only [Bool.and_self, cond_true, beq_self_eq_true]
      refine bifP (fun c => nx _ ?_) (fun c => nx _ ?_)
      · simp only [decide_eq_true_eq] at c
        rw [ej, hx, Nat.add_zero, splice_two (by omega)]
        have : r72c (intO (nth a (9 + i * 2))) (intO (nth a (9 + i * 2 + 1))) (intO (nth b (9 + i * 2))) (intO (nth b (9 + i * 2 + 1))) = intO (nth b (9 + i * 2 + 1)) := if_pos c
        rw [this]
      · simp only [decide_eq_false_iff_not] at c
        rw [ej, hx, Nat.add_zero]
        have : r72c (intO (nth a (9 + i * 2))) (intO (nth a (9 + i * 2 + 1))) (intO (nth b (9 + i * 2))) (intO (nth b (9 + i * 2 + 1))) = intO (nth a (9 + i * 2 + 1)) := if_neg c
        rw [this, ← splice_two (by omega)]
        refine (splice_id ?_).symm
        rw [nth_splice_out (by simp; omega) (by simp)]
        exact hhi
    refine bifP (fun c => ?_) (fun c => ?_)
    · simp only [decide_eq_true_eq] at c
      have l2 : (9 + i * 2 + 0 + 1).ble a.length = true := Nat.ble_eq_true_of_le (by omega)
      simp only [l2, beq_self_eq_true, Bool.and_self, cond_true]
      exact hi _ _ rfl (if_pos c)
    · simp only [decide_eq_false_iff_not] at c
      exact hi _ (intO (nth a (9 + i * 2 + 0))) (splice_id hlo).symm (if_neg c)
/-- Two states, joined. -/
def joinS (a b : List Value) : List Value := bif !boolO (nth a 0) then b else joinFrom b 0 8 0 a
noncomputable def con39 : Con := { f := 39, gh := [], paths := [], spec := fun args bs => match args, bs with
  | [.agg a, .agg b], [] => some (IsSt a.toList ∧ IsSt b.toList, [AG (lit25 (joinS a.toList b.toList))], [])
  | _, _ => none }
theorem plain_z25 : PlainL z25 := isSt_plain (by rfl)
set_option maxRecDepth 100000 in
theorem con39_ok : con39.ok Tryd.prog w0 := by
  intro args bs p rs out e hp
  simp only [con39] at e
  split at e <;> first | (simp at e; done) | skip
  rename_i A B'
  simp only [Option.some.injEq, Prod.mk.injEq] at e
  obtain ⟨rfl, rfl, rfl⟩ := e
  obtain ⟨h1, h2⟩ := hp
  obtain ⟨a, rfl⟩ : ∃ a : List Value, A = a.toArray := ⟨A.toList, by simp⟩
  obtain ⟨b, rfl⟩ : ∃ b : List Value, B' = b.toArray := ⟨B'.toList, by simp⟩
  change CallS Tryd.prog w0 39 [AG a, AG b] (heapB Tryd.prog.globals.size []) fun rs' h' => rs' = [AG (lit25 (joinS a b))] ∧ h' = heapB Tryd.prog.globals.size []
  have hA : IsSt a := h1
  have hB : IsSt b := h2
  clear h1 h2
  have hn : (heapB Tryd.prog.globals.size []).next = Tryd.prog.globals.size + ntP.flags.length := by rw [heapB_next]; rfl
  refine retT_call (nt := ntP) hn (call_sem (cd := Tryd.f39.body.getD .skip) Tryd.func39 (by kernel_rfl) ?_)
  rw [hn]
  have hA' := hA
  have hB' := hB
  obtain ⟨c, k0, k1, k2, k3, k4, k5, k6, k7, l0, h0, l1, h1, l2, h2, l3, h3, l4, h4, l5, h5, l6, h6, l7, h7, ha⟩ := isSt_eq hA
  obtain ⟨c', k0', k1', k2', k3', k4', k5', k6', k7', l0', h0', l1', h1', l2', h2', l3', h3', l4', h4', l5', h5', l6', h6', l7', h7', hb⟩ := isSt_eq hB
  subst ha hb
  refine seg_semI3 (F := ft39) mixed (callsOf_ok ok_none) leaf39 [4] 20 60 ((start39 c k0 k1 k2 k3 k4 k5 k6 k7 l0 h0 l1 h1 l2 h2 l3 h3 l4 h4 l5 h5 l6 h6 l7 h7 c' k0' k1' k2' k3' k4' k5' k6' k7' l0' h0' l1' h1' l2' h2' l3' h3' l4' h4' l5' h5' l6' h6' l7' h7' _ _).mpr ?_)
  refine bifN (fun e => ?_) (fun e => ?_)
  · refine ⟨trivial, ?_, rfl⟩
    subst e
    rfl
  · subst e
    exact ⟨⟨isSt_plain hA', isSt_plain hB', plain_z25, trivial⟩, loop39 hB' 8 0 _ rfl hA' ⟨rfl, rfl⟩⟩
/-! Joins in a block of states. -/
theorem splice_in {cs A xs : List Value} {off j : Nat} (h : off + A.length ≤ cs.length) (hj : j + xs.length ≤ A.length) : splice (splice cs off A) (off + j) xs = splice cs off (splice A j xs) := by
  have l1 := splice_len h
  have h2 : off + j + xs.length ≤ (splice cs off A).length := by rw [l1]; omega
  have l3 := splice_len hj
  have h3 : off + (splice A j xs).length ≤ cs.length := by rw [l3]; omega
  refine nth_ext (by rw [splice_len h2, l1, splice_len h3]) fun i _ => ?_
  by_cases e : off ≤ i ∧ i < off + A.length
  · obtain ⟨k, rfl⟩ : ∃ k, i = off + k := ⟨i - off, by omega⟩
    rw [nth_splice_in (cs := cs) (xs := splice A j xs) h3 (by omega)]
    by_cases e2 : j ≤ k ∧ k < j + xs.length
    · obtain ⟨q, rfl⟩ : ∃ q, k = j + q := ⟨k - j, by omega⟩
      rw [show off + (j + q) = off + j + q by omega, nth_splice_in h2 (by omega), nth_splice_in hj (by omega)]
    · rw [nth_splice_out h2 (by omega), nth_splice_in h (by omega), nth_splice_out hj (by omega)]
  · rw [nth_splice_out h2 (by omega), nth_splice_out h (by omega), nth_splice_out h3 (by omega)]
theorem jn_in {cs A os : List Value} {off i : Nat} (h : off + A.length ≤ cs.length) (hA : A.length = 25) (hi : i < 8) : jn os off i (splice cs off A) = splice cs off (jn os 0 i A) := by
  have n1 : nth (splice cs off A) (off + 1 + i) = nth A (0 + 1 + i) := by rw [show off + 1 + i = off + (0 + 1 + i) by omega]; exact nth_splice_in h (by omega)
  have n2 : nth (splice cs off A) (off + 9 + i * 2 + 0) = nth A (0 + 9 + i * 2 + 0) := by rw [show off + 9 + i * 2 + 0 = off + (0 + 9 + i * 2 + 0) by omega]; exact nth_splice_in h (by omega)
  have n3 : nth (splice cs off A) (off + 9 + i * 2 + 1) = nth A (0 + 9 + i * 2 + 1) := by rw [show off + 9 + i * 2 + 1 = off + (0 + 9 + i * 2 + 1) by omega]; exact nth_splice_in h (by omega)
  unfold jn
  rw [n1, n2, n3]
  generalize (boolO (nth A (0 + 1 + i)) && boolO (nth os (1 + i))) = b
  have l1 : (splice A (0 + 1 + i) [B b]).length = 25 := by rw [splice_len (by simp; omega), hA]
  rw [show off + 1 + i = off + (0 + 1 + i) by omega, show off + 9 + i * 2 = off + (0 + 9 + i * 2) by omega, splice_in h (by simp; omega)]
  cases b with
  | true => rw [cond_true, splice_in (by rw [l1]; omega) (by rw [l1]; simp; omega)]
  | false => rw [cond_false, splice_in (by rw [l1]; omega) (by rw [l1]; simp; omega)]
theorem join_in {cs os : List Value} {off : Nat} : ∀ (n i : Nat) (A : List Value), off + A.length ≤ cs.length → A.length = 25 → i + n ≤ 8 → joinFrom os off n i (splice cs off A) = splice cs off (joinFrom os 0 n i A)
  | 0, _, _, _, _, _ => rfl
  | n + 1, i, A, h, hA, hi => by
    rw [joinFrom, joinFrom, jn_in h hA (by omega)]
    have l := jn_len (os := os) (off := 0) (i := i) (C := A) (by omega) (by omega)
    exact join_in n (i + 1) _ (by rw [l]; exact h) (by rw [l]; exact hA) (by omega)
theorem splice_self {cs : List Value} {i : Nat} (h : (i + 1) * 25 ≤ cs.length) : splice cs (i * 25) (stAt cs i) = cs := by
  unfold splice stAt
  have hl : ((cs.drop (i * 25)).take 25).length = 25 := by rw [List.length_take, List.length_drop]; omega
  rw [hl, ← List.drop_drop, List.append_assoc, List.take_append_drop, List.take_append_drop]
/-- A join in a block of states is the document's, put in its place. -/
theorem join48_S {cs os : List Value} {i : Nat} (h : (i + 1) * 25 ≤ cs.length) : join48 cs (i * 25) os = splice cs (i * 25) (joinS (stAt cs i) os) := by
  have hl : (stAt cs i).length = 25 := by unfold stAt; rw [List.length_take, List.length_drop]; omega
  have h0 : nth (stAt cs i) 0 = nth cs (i * 25) := stAt_zero
  unfold join48 joinS
  rw [h0]
  cases boolO (nth cs (i * 25)) with
  | false => rfl
  | true =>
    simp only [Bool.not_true, cond_true, cond_false]
    have := join_in (cs := cs) (os := os) (off := i * 25) 8 0 (stAt cs i) (by rw [hl]; omega) hl (by omega)
    rw [splice_self h] at this
    exact this
theorem joinS_st {a b : List Value} (ha : IsSt a) (hb : IsSt b) : IsSt (joinS a b) := by
  unfold joinS
  refine bif_st hb ?_
  have key : ∀ (n i : Nat) (a : List Value), i + n ≤ 8 → IsSt a → IsSt (joinFrom b 0 n i a) := by
    intro n
    induction n with
    | zero => intro i a _ h; exact h
    | succ n ih => intro i a hi h; exact ih (i + 1) _ (by omega) (jn0_st h (by omega))
  exact key 8 0 a (by omega) ha

abbrev tw37 (S : List Value) (q : Int) : Bool := (9 + q.toNat * 2 + 2).ble S.length && (okI .i64 (nth S (9 + q.toNat * 2 + 0)) && (okI .i64 (nth S (9 + q.toNat * 2 + 1)) && true))
abbrev sp37 (S : List Value) (q : Int) : Value := .agg ⟨[I (lI S q), I (hI S q)]⟩
abbrev rc37 (S : List Value) (q : Int) : Bool := tw37 S q && veq 4 (sp37 S q) (sp37 S q)
abbrev T3 : Prop := True ∧ True ∧ True
abbrev k37 (K : List Value → AHeap → Prop) (a b : Int) : Prop := True ∧ K [.agg ⟨[I a, I b]⟩] (heapB G [])
abbrev se37 (a b : Int) (p : Prop) : Prop := bif a == a && (b == b && true) then p else False
abbrev ti37 (a imm : Int) : Prop := True ∧ True ∧ (-1099511627776 ≤ a ∧ a ≤ 1099511627776) ∧ -2147483648 ≤ imm ∧ imm < 2147483648
abbrev bo37 (S : List Value) (op d s imm : Int) (K : List Value → AHeap → Prop) : Prop :=
  bif op == 0 then k37 K imm imm else bif op == 1 then k37 K (lI S s) (hI S s)
  else bif op == 2 then T3 ∧ se37 (hI S s) (hI S d) (T3 ∧ k37 K (rU23 (w (lI S d + lI S s))) (rU23 (w (hI S d + hI S s))))
  else bif op == 3 then T3 ∧ se37 (lI S s) (hI S d) (T3 ∧ k37 K (rU23 (w (lI S d - hI S s))) (rU23 (w (hI S d - lI S s))))
  else bif op == 4 then T3 ∧ se37 imm (hI S d) (T3 ∧ k37 K (rU23 (w (lI S d + imm))) (rU23 (w (hI S d + imm))))
  else bif op == 5 then ti37 (lI S d) imm ∧ se37 imm (hI S d) (ti37 (hI S d) imm ∧ T3 ∧ k37 K (r63b (r77 (lI S d) imm) (r77 (hI S d) imm)) (r63c (r77 (lI S d) imm) (r77 (hI S d) imm)))
  else bif op == 6 then T3 ∧ se37 imm (hI S d) (T3 ∧ k37 K (r65 (lI S d) imm) (r65 (hI S d) imm))
  else bif op == 8 then k37 K 0 65535 else bif op == 19 then k37 K (-1) 1 else k37 K 0 255
abbrev te37 (S : List Value) (op d s imm : Int) (K : List Value → AHeap → Prop) : Prop :=
  bif decide (0 ≤ d) && decide (d < 8) then bif tw37 S d then bif decide (0 ≤ s) && decide (s < 8) then bif tw37 S s then
    bif rc37 S s && (s == s && (rc37 S d && (d == d && true))) then bif rc37 S s && (s == s && (rc37 S d && (d == d && true))) then bif rc37 S s && (s == s && true) then bo37 S op d s imm K
    else False else False else False else False else False else False else False
theorem eval37 (c k0 k1 k2 k3 k4 k5 k6 k7 : Bool) (l0 h0 l1 h1 l2 h2 l3 h3 l4 h4 l5 h5 l6 h6 l7 h7 : Int) (op d s imm : Int) (K : List Value → AHeap → Prop) :
    evSeg Tryd.f37 [conU23, con63, con65, conT24] ntP [AG (stL c k0 k1 k2 k3 k4 k5 k6 k7 l0 h0 l1 h1 l2 h2 l3 h3 l4 h4 l5 h5 l6 h6 l7 h7), AG [I op, I d, I s, I imm]] [] K = (te37 (stL c k0 k1 k2 k3 k4 k5 k6 k7 l0 h0 l1 h1 l2 h2 l3 h3 l4 h4 l5 h5 l6 h6 l7 h7) op d s imm K ∧ te37 (stL c k0 k1 k2 k3 k4 k5 k6 k7 l0 h0 l1 h1 l2 h2 l3 h3 l4 h4 l5 h5 l6 h6 l7 h7) op d s imm K) := by kernel_rfl
def cmL (S : List Value) (op d s imm : Int) : Int :=
  bif op == 0 then imm else bif op == 1 then lI S s else bif op == 2 then rU23 (w (lI S d + lI S s)) else bif op == 3 then rU23 (w (lI S d - hI S s)) else bif op == 4 then rU23 (w (lI S d + imm))
  else bif op == 5 then r63b (r77 (lI S d) imm) (r77 (hI S d) imm) else bif op == 6 then r65 (lI S d) imm else bif op == 8 then 0 else bif op == 19 then -1 else 0
def cmH (S : List Value) (op d s imm : Int) : Int :=
  bif op == 0 then imm else bif op == 1 then hI S s else bif op == 2 then rU23 (w (hI S d + hI S s)) else bif op == 3 then rU23 (w (hI S d - lI S s)) else bif op == 4 then rU23 (w (hI S d + imm))
  else bif op == 5 then r63c (r77 (lI S d) imm) (r77 (hI S d) imm) else bif op == 6 then r65 (hI S d) imm else bif op == 8 then 65535 else bif op == 19 then 1 else 255
theorem tw37_ok {S : List Value} {q : Int} (hS : IsSt S) (h0 : 0 ≤ q) (h8 : q < 8) : tw37 S q = true ∧ rc37 S q = true := by
  obtain ⟨c, k0, k1, k2, k3, k4, k5, k6, k7, l0, h0', l1, h1', l2, h2', l3, h3, l4, h4, l5, h5, l6, h6, l7, h7, hcs⟩ := isSt_eq hS
  subst hcs
  obtain ⟨e1, e2, e3⟩ := stI (c := c) (k0 := k0) (k1 := k1) (k2 := k2) (k3 := k3) (k4 := k4) (k5 := k5) (k6 := k6) (k7 := k7) (l0 := l0) (h0 := h0') (l1 := l1) (h1 := h1') (l2 := l2) (h2 := h2') (l3 := l3) (h3 := h3) (l4 := l4) (h4 := h4) (l5 := l5) (h5 := h5) (l6 := l6) (h6 := h6) (l7 := l7) (h7 := h7) h0 h8
  have e4 : (9 + q.toNat * 2 + 2).ble (stL c k0 k1 k2 k3 k4 k5 k6 k7 l0 h0' l1 h1' l2 h2' l3 h3 l4 h4 l5 h5 l6 h6 l7 h7).length = true := e3
  have ht : tw37 (stL c k0 k1 k2 k3 k4 k5 k6 k7 l0 h0' l1 h1' l2 h2' l3 h3 l4 h4 l5 h5 l6 h6 l7 h7) q = true := by
    unfold tw37
    rw [e1, e2, e4]; rfl
  refine ⟨ht, ?_⟩
  unfold rc37
  rw [ht, veq_ints]; rfl
theorem bo37_ok {S : List Value} {op d s imm : Int} {K : List Value → AHeap → Prop} (hd : In40 (lI S d) ∧ In40 (hI S d)) (hi : -2147483648 ≤ imm ∧ imm < 2147483648) (h : K [.agg ⟨[I (cmL S op d s imm), I (cmH S op d s imm)]⟩] (heapB G [])) : bo37 S op d s imm K := by
  have se : ∀ {a b : Int} {p : Prop}, p → se37 a b p := fun {a b p} hp => by
    unfold se37
    rw [beq_self_eq_true, beq_self_eq_true]
    exact hp
  have t3 : T3 := ⟨trivial, trivial, trivial⟩
  unfold cmL cmH at h
  refine bifP (fun c => ?_) (fun c => ?_)
  · rw [c] at h; exact ⟨trivial, h⟩
  rw [c, cond_false, cond_false] at h
  clear c
  refine bifP (fun c => ?_) (fun c => ?_)
  · rw [c] at h; exact ⟨trivial, h⟩
  rw [c, cond_false, cond_false] at h
  clear c
  refine bifP (fun c => ?_) (fun c => ?_)
  · rw [c] at h; exact ⟨t3, se ⟨t3, trivial, h⟩⟩
  rw [c, cond_false, cond_false] at h
  clear c
  refine bifP (fun c => ?_) (fun c => ?_)
  · rw [c] at h; exact ⟨t3, se ⟨t3, trivial, h⟩⟩
  rw [c, cond_false, cond_false] at h
  clear c
  refine bifP (fun c => ?_) (fun c => ?_)
  · rw [c] at h; exact ⟨t3, se ⟨t3, trivial, h⟩⟩
  rw [c, cond_false, cond_false] at h
  clear c
  refine bifP (fun c => ?_) (fun c => ?_)
  · rw [c] at h; exact ⟨⟨trivial, trivial, hd.1, hi⟩, se ⟨⟨trivial, trivial, hd.2, hi⟩, t3, trivial, h⟩⟩
  rw [c, cond_false, cond_false] at h
  clear c
  refine bifP (fun c => ?_) (fun c => ?_)
  · rw [c] at h; exact ⟨t3, se ⟨t3, trivial, h⟩⟩
  rw [c, cond_false, cond_false] at h
  clear c
  refine bifP (fun c => ?_) (fun c => ?_)
  · rw [c] at h; exact ⟨trivial, h⟩
  rw [c, cond_false, cond_false] at h
  clear c
  refine bifP (fun c => ?_) (fun c => ?_)
  · rw [c] at h; exact ⟨trivial, h⟩
  rw [c, cond_false, cond_false] at h
  exact ⟨trivial, h⟩
theorem spb_reg {cs : List Value} (h : SpB cs 0) {d : Int} (h0 : 0 ≤ d) (h8 : d < 8) : In40 (lI cs d) ∧ In40 (hI cs d) := by
  obtain ⟨n, rfl⟩ := Int.eq_ofNat_of_zero_le h0
  have := h n (by omega)
  rw [lI_eq, hI_eq]
  exact this
noncomputable def con37 : Con := { f := 37, gh := [], paths := [], spec := fun args bs => match args, bs with
  | [.agg cs, v], [] => match aggV v with
    | some [op, d, s, imm] => some (IsSt cs.toList ∧ SpB cs.toList 0 ∧ right ⟨op, d, s, imm⟩ = true, [.agg ⟨[I (cmL cs.toList op d s imm), I (cmH cs.toList op d s imm)]⟩], [])
    | _ => none
  | _, _ => none }
theorem ok37 : ∀ c ∈ [conU23, con63, con65, conT24], c.ok Tryd.prog w0 := fun c hc => by
  simp only [List.mem_cons, List.not_mem_nil, or_false] at hc
  rcases hc with rfl | rfl | rfl | rfl
  · exact conU23_ok
  · exact con63_ok
  · exact con65_ok
  · exact conT24_ok
set_option maxRecDepth 100000 in
theorem con37_ok : con37.ok Tryd.prog w0 := by
  intro args bs p rs out e hp
  simp only [con37] at e
  split at e <;> first | (simp at e; done) | skip
  split at e <;> first | (simp at e; done) | skip
  rename_i A v _ op d s imm hv
  simp only [Option.some.injEq, Prod.mk.injEq] at e
  obtain ⟨rfl, rfl, rfl⟩ := e
  obtain ⟨hS, hB, hr⟩ := hp
  rw [aggV_eq hv]
  obtain ⟨a, rfl⟩ : ∃ a : List Value, A = a.toArray := ⟨A.toList, by simp⟩
  change CallS Tryd.prog w0 37 [AG a, AG [I op, I d, I s, I imm]] (heapB Tryd.prog.globals.size []) fun rs' h' => rs' = [.agg ⟨[I (cmL a op d s imm), I (cmH a op d s imm)]⟩] ∧ h' = heapB Tryd.prog.globals.size []
  have hA : IsSt a := hS
  have hC : SpB a 0 := hB
  clear hS hB hv
  obtain ⟨⟨d0, d8⟩, s0, s8⟩ := right_regs hr
  have hi := right_imm hr
  simp only at d0 d8 s0 s8 hi
  obtain ⟨t1, t2⟩ := tw37_ok hA d0 d8
  obtain ⟨u1, u2⟩ := tw37_ok hA s0 s8
  have b2 := spb_reg hC d0 d8
  have fin : te37 a op d s imm fun rs' h' => rs' = [.agg ⟨[I (cmL a op d s imm), I (cmH a op d s imm)]⟩] ∧ h' = heapB Tryd.prog.globals.size [] := by
    unfold te37
    rw [decide_eq_true d0, decide_eq_true d8, decide_eq_true s0, decide_eq_true s8, t1, t2, u1, u2, beq_self_eq_true, beq_self_eq_true]
    exact bo37_ok b2 hi ⟨rfl, rfl⟩
  obtain ⟨c, k0, k1, k2, k3, k4, k5, k6, k7, l0, h0, l1, h1, l2, h2, l3, h3, l4, h4, l5, h5, l6, h6, l7, h7, ha⟩ := isSt_eq hA
  subst ha
  exact ev_callS (nt := ntP) (cs := [conU23, con63, con65, conT24]) Tryd.func37 (by kernel_rfl) ok37 rfl ((eval37 c k0 k1 k2 k3 k4 k5 k6 k7 l0 h0 l1 h1 l2 h2 l3 h3 l4 h4 l5 h5 l6 h6 l7 h7 op d s imm _).mpr ⟨fin, fin⟩)
/-! What comes behind an instruction. -/
def nxS (cs : List Value) (op d s imm : Int) : List Value :=
  bif decide (r36 op d s imm ≥ 0) then splice (splice cs (9 + (r36 op d s imm).toNat * 2) [I (cmL cs op d s imm), I (cmH cs op d s imm)]) (1 + (r36 op d s imm).toNat * 1) [B true] else cs
theorem splice_comm {cs xs ys : List Value} {m n : Nat} (h1 : m + xs.length ≤ n) (h2 : n + ys.length ≤ cs.length) : splice (splice cs n ys) m xs = splice (splice cs m xs) n ys := by
  have a1 := splice_len h2
  have h3 : m + xs.length ≤ cs.length := by omega
  have a2 := splice_len h3
  have h4 : m + xs.length ≤ (splice cs n ys).length := by omega
  have h5 : n + ys.length ≤ (splice cs m xs).length := by omega
  refine nth_ext (by rw [splice_len h4, a1, splice_len h5, a2]) fun i _ => ?_
  by_cases e : m ≤ i ∧ i < m + xs.length
  · obtain ⟨k, rfl⟩ : ∃ k, i = m + k := ⟨i - m, by omega⟩
    rw [nth_splice_in h4 (by omega), nth_splice_out h5 (by omega), nth_splice_in h3 (by omega)]
  · rw [nth_splice_out h4 (by omega)]
    by_cases e2 : n ≤ i ∧ i < n + ys.length
    · obtain ⟨k, rfl⟩ : ∃ k, i = n + k := ⟨i - n, by omega⟩
      rw [nth_splice_in h2 (by omega), nth_splice_in h5 (by omega)]
    · rw [nth_splice_out h2 (by omega), nth_splice_out h5 (by omega), nth_splice_out h3 (by omega)]
theorem set_S {cs : List Value} {d a b : Int} (hS : IsSt cs) (h0 : 0 ≤ d) (h8 : d < 8) : splice (splice cs (9 + d.toNat * 2) [I a, I b]) (1 + d.toNat * 1) [B true] = setA cs 0 d a b := by
  have := isSt_len hS
  unfold setA
  rw [Nat.zero_add, Nat.zero_add]
  exact splice_comm (by simp; omega) (by simp; omega)
theorem rU_eq (a : Int) : rU23 a = r28 a := by
  unfold rU23 r28
  by_cases h : a < -1099511627776
  · rw [decide_eq_true h]
    simp only [cond_true]
    repeat' split
    all_goals omega
  · rw [decide_eq_false h, cond_false]
    by_cases h2 : a > 1099511627776
    · rw [decide_eq_true h2]
      simp only [cond_true]
      repeat' split
      all_goals omega
    · rw [decide_eq_false h2]
      simp only [cond_false]
      repeat' split
      all_goals omega
theorem nx_c46 {cs : List Value} {op d s imm : Int} (hS : IsSt cs) (hr : right ⟨op, d, s, imm⟩ = true) (h46 : r46 cs op d s imm = true) : nxS cs op d s imm = c46 cs op d s imm := by
  have ho : ¬ (op < 0 ∨ 20 < op) := fun h => by rw [right_out h] at hr; cases hr
  obtain ⟨⟨d0, d8⟩, s0, s8⟩ := right_regs hr
  have hi := right_imm hr
  have h51 := right_r51 hr
  simp only at d0 d8 s0 s8 h51 hi
  have wr : ∀ o, o ≤ 10 → r36 o d s imm = d := fun o h => by unfold r36; rw [decide_eq_true h]; rfl
  have set : ∀ o a b, o ≤ 10 → cmL cs o d s imm = a → cmH cs o d s imm = b → nxS cs o d s imm = setA cs 0 d a b := fun o a b h h1 h2 => by
    unfold nxS
    rw [wr o h, h1, h2, decide_eq_true (show d ≥ 0 by omega), cond_true]
    exact set_S hS d0 d8
  have id28 : r28 imm = imm := r28_id (by unfold In40; omega)
  have : op = 0 ∨ op = 1 ∨ op = 2 ∨ op = 3 ∨ op = 4 ∨ op = 5 ∨ op = 6 ∨ op = 7 ∨ op = 8 ∨ op = 9 ∨ op = 10 ∨ op = 11 ∨ op = 12 ∨ op = 13 ∨ op = 14 ∨ op = 15 ∨ op = 16 ∨ op = 17 ∨ op = 18 ∨ op = 19 ∨ op = 20 := by omega
  rcases this with rfl | rfl | rfl | rfl | rfl | rfl | rfl | rfl | rfl | rfl | rfl | rfl | rfl | rfl | rfl | rfl | rfl | rfl | rfl | rfl | rfl
  · refine set 0 _ _ (by decide) ?_ ?_
    · show imm = r28 imm
      rw [id28]
    · show imm = r28 imm
      rw [id28]
  · have hk : kI cs s = true := h46
    have e : c46 cs 1 d s imm = (bif kI cs s then setA cs 0 d (lI cs s) (hI cs s) else cs) := rfl
    rw [e, hk]
    exact set 1 _ _ (by decide) rfl rfl
  · have hk : (kI cs d && kI cs s) = true := h46
    have e : c46 cs 2 d s imm = (bif kI cs d && kI cs s then setA cs 0 d (r12b (lI cs d) (hI cs d) (lI cs s) (hI cs s)) (r12c (lI cs d) (hI cs d) (lI cs s) (hI cs s)) else cs) := rfl
    rw [e, hk]
    exact set 2 _ _ (by decide) (rU_eq _) (rU_eq _)
  · have hk : (kI cs d && kI cs s) = true := h46
    have e : c46 cs 3 d s imm = (bif kI cs d && kI cs s then setA cs 0 d (r68b (lI cs d) (hI cs d) (lI cs s) (hI cs s)) (r68c (lI cs d) (hI cs d) (lI cs s) (hI cs s)) else cs) := rfl
    rw [e, hk]
    exact set 3 _ _ (by decide) (rU_eq _) (rU_eq _)
  · have hk : kI cs d = true := h46
    have e : c46 cs 4 d s imm = (bif kI cs d then setA cs 0 d (r12b (lI cs d) (hI cs d) (r14b imm) (r14c imm)) (r12c (lI cs d) (hI cs d) (r14b imm) (r14c imm)) else cs) := rfl
    rw [e, hk]
    refine set 4 _ _ (by decide) ?_ ?_
    · show rU23 (w (lI cs d + imm)) = r28 (w (lI cs d + r28 imm))
      rw [rU_eq, id28]
    · show rU23 (w (hI cs d + imm)) = r28 (w (hI cs d + r28 imm))
      rw [rU_eq, id28]
  · have hk : kI cs d = true := h46
    have e : c46 cs 5 d s imm = (bif kI cs d then setA cs 0 d (r52b (lI cs d) (hI cs d) imm) (r52c (lI cs d) (hI cs d) imm) else cs) := rfl
    rw [e, hk]
    refine set 5 _ _ (by decide) ?_ ?_
    · show r63b (r77 (lI cs d) imm) (r77 (hI cs d) imm) = r52b (lI cs d) (hI cs d) imm
      unfold r63b r52b
      generalize r77 (lI cs d) imm = x
      generalize r77 (hI cs d) imm = y
      by_cases h : x > y
      · rw [decide_eq_true h, if_pos (by omega)]; rfl
      · rw [decide_eq_false h, if_neg (by omega)]; rfl
    · show r63c (r77 (lI cs d) imm) (r77 (hI cs d) imm) = r52c (lI cs d) (hI cs d) imm
      unfold r63c r52c
      generalize r77 (lI cs d) imm = x
      generalize r77 (hI cs d) imm = y
      by_cases h : x > y
      · rw [decide_eq_true h, if_neg (by omega)]; rfl
      · rw [decide_eq_false h]
        by_cases h2 : y > x
        · rw [if_pos h2]; rfl
        · rw [if_neg h2]; show y = x; omega
  · have hk : kI cs d = true := h46
    have e : c46 cs 6 d s imm = (bif kI cs d then setA cs 0 d (r69b (lI cs d) (hI cs d) imm) (r69c (lI cs d) (hI cs d) imm) else cs) := rfl
    have i0 : imm ≥ 0 := by
      have h51' : decide (imm ≥ 0) = true := h51
      simpa using h51'
    have key : ∀ x : Int, r65 x imm = (if imm < if 0 > x then 0 else x then imm else if 0 > x then 0 else x) := fun x => by
      unfold r65
      by_cases h : x < 0
      · rw [decide_eq_true h, if_pos (show 0 > x from h), if_neg (by omega)]; rfl
      · rw [decide_eq_false h, if_neg (show ¬ 0 > x from h), cond_false]
        by_cases h2 : x > imm
        · rw [decide_eq_true h2, if_pos (by omega)]; rfl
        · rw [decide_eq_false h2, if_neg (by omega)]; rfl
    rw [e, hk]
    exact set 6 _ _ (by decide) (key _) (key _)
  · have hk : lkB cs s imm 1 512 = true := h46
    have e : c46 cs 7 d s imm = (bif lkB cs s imm 1 512 then setA cs 0 d 0 255 else cs) := rfl
    rw [e, hk]
    exact set 7 _ _ (by decide) rfl rfl
  · have hk : lkB cs s imm 2 512 = true := h46
    have e : c46 cs 8 d s imm = (bif lkB cs s imm 2 512 then setA cs 0 d 0 65535 else cs) := rfl
    rw [e, hk]
    exact set 8 _ _ (by decide) rfl rfl
  · have hk : lkB cs s imm 1 16 = true := h46
    have e : c46 cs 9 d s imm = (bif lkB cs s imm 1 16 then setA cs 0 d 0 255 else cs) := rfl
    rw [e, hk]
    exact set 9 _ _ (by decide) rfl rfl
  · have hk : lkB cs s imm 1 64 = true := h46
    have e : c46 cs 10 d s imm = (bif lkB cs s imm 1 64 then setA cs 0 d 0 255 else cs) := rfl
    rw [e, hk]
    exact set 10 _ _ (by decide) rfl rfl
  · rfl
  · rfl
  · rfl
  · rfl
  · rfl
  · rfl
  · rfl
  · rfl
  · have e : c46 cs 19 d s imm = (bif imm == 1 then (bif r95 cs 16 then setA cs 0 0 (-1) 1 else cs) else cs) := rfl
    have h46' : (bif imm == 1 then r95 cs 16 else bif imm == 2 then r95 cs 24 else kO cs 2) = true := h46
    have e2 : r36 19 d s imm = (bif imm == 1 then 0 else -1) := rfl
    rw [e]
    unfold nxS
    rw [e2]
    cases c : imm == 1 with
    | false => rfl
    | true =>
      rw [c] at h46'
      have h46'' : r95 cs 16 = true := h46'
      rw [h46'']
      exact set_S hS (by decide) (by decide)
  · rfl

noncomputable abbrev cs21 : List Con := [con32, con33, con34, con35, con36, con37, con64, con39, con40]
noncomputable def ft21 : FT := { loc := fun _ => false, mask := fun id => bif Nat.beq id 10 || Nat.beq id 44 then live 223 [0, 9] else bif Nat.beq id 12 then live 223 [0, 9, 10] else bif Nat.beq id 19 then live 223 [0, 9, 10, 11, 12, 13] else bif Nat.beq id 23 then live 223 [0, 9, 10, 11, 12] else bif Nat.beq id 27 || Nat.beq id 31 || Nat.beq id 38 || Nat.beq id 40 then live 223 [0, 9, 10, 11, 12, 14] else bif Nat.beq id 33 then live 223 [0, 9, 10, 11, 12, 14, 16] else [] }
abbrev nt21a : Nt := { gh := [], flags := [true], paths := [⟨9, [], true⟩], tr := [] }
abbrev nt21b : Nt := { gh := [], flags := [true], paths := [⟨9, [], true⟩, ⟨11, [], true⟩], tr := [] }
abbrev nt21c : Nt := { gh := [], flags := [true], paths := [⟨9, [], true⟩, ⟨11, [], true⟩, ⟨14, [], true⟩], tr := [] }
abbrev nt21o : Nt := { gh := [], flags := [true], paths := [⟨0, [], true⟩], tr := [(0, [])] }
noncomputable def td21 (id : Nat) : List Item := todoOf Tryd.f21 id
noncomputable def t21a : List Item := td21 10
noncomputable def t21b : List Item := td21 12
noncomputable def t21c : List Item := td21 19
noncomputable def t21d : List Item := td21 23
noncomputable def t21e : List Item := td21 27
noncomputable def t21f : List Item := td21 31
noncomputable def t21g : List Item := td21 33
noncomputable def t21h : List Item := td21 38
noncomputable def t21i : List Item := td21 40
noncomputable def t21j : List Item := td21 44
/-- The answer: with states, or without any. -/
abbrev post21 (K1 K2 : List Value → AHeap → Prop) : Post := fun rs h => match rs with
  | [.slice none _ _, _, _, _] => retT G nt1 K1 rs h
  | [_, _, _, _] => retT G nt21o K2 rs h
  | _ => False
abbrev seg21 (K1 K2 : List Value → AHeap → Prop) (L : List Item → List AV → AHeap → Prop) (t : List Item) (fr : List AV) (h : AHeap) : Prop :=
  segK3 Tryd.prog ft21 (semI Tryd.prog (fun _ => ft0) (callsOf G cs21) 400 20 (post21 K1 K2)) Tryd.f21 [10, 12, 19, 23, 27, 31, 33, 38, 40, 44] 400 t fr (fun t fr h => match t with
  | .code (.region 10 _ _) :: _ => canonT G nt21a (L t) fr h
  | .code (.region 12 _ _) :: _ => canonT G nt21a (L t) fr h
  | .code (.region 44 _ _) :: _ => canonT G nt21a (L t) fr h
  | .code (.region 19 _ _) :: _ => canonT G nt21b (L t) fr h
  | .code (.region 23 _ _) :: _ => canonT G nt21b (L t) fr h
  | .code (.region _ _ _) :: _ => canonT G nt21c (L t) fr h
  | _ => False) h
noncomputable def fr21a (n N : Nat) : List AV := frm 223 [(0, .v (SL G n 4)), (9, .v (SL (G + 1) N 25))]
noncomputable def fr21b (n N : Nat) (i : Int) : List AV := frm 223 [(0, .v (SL G n 4)), (9, .v (SL (G + 1) N 25)), (10, .v (I i))]
noncomputable def fr21c (n N : Nat) (i : Int) (jp : Bool) (k : Int) : List AV := frm 223 [(0, .v (SL G n 4)), (9, .v (SL (G + 1) N 25)), (10, .v (I i)), (11, .v (PT (G + 2))), (12, .v (B jp)), (13, .v (I k))]
noncomputable def fr21d (n N : Nat) (i : Int) (jp : Bool) : List AV := frm 223 [(0, .v (SL G n 4)), (9, .v (SL (G + 1) N 25)), (10, .v (I i)), (11, .v (PT (G + 2))), (12, .v (B jp))]
noncomputable def fr21e (n N : Nat) (i : Int) (jp : Bool) : List AV := frm 223 [(0, .v (SL G n 4)), (9, .v (SL (G + 1) N 25)), (10, .v (I i)), (11, .v (PT (G + 2))), (12, .v (B jp)), (14, .v (PT (G + 3)))]
noncomputable def fr21g (n N : Nat) (i : Int) (jp : Bool) (k : Int) : List AV := frm 223 [(0, .v (SL G n 4)), (9, .v (SL (G + 1) N 25)), (10, .v (I i)), (11, .v (PT (G + 2))), (12, .v (B jp)), (14, .v (PT (G + 3))), (16, .v (I k))]
noncomputable def hA21 (cl : List Value) (rw : Bool) (C : List Value) : AHeap := heapB G [some (.cells cl rw), some (.cells C true)]
noncomputable def hB21 (cl : List Value) (rw : Bool) (C : List Value) (op d s imm : Int) : AHeap := heapB G [some (.cells cl rw), some (.cells C true), some (.cells [I op, I d, I s, I imm] true)]
noncomputable def hC21 (cl : List Value) (rw : Bool) (C : List Value) (op d s imm : Int) (ss : List Value) : AHeap := heapB G [some (.cells cl rw), some (.cells C true), some (.cells [I op, I d, I s, I imm] true), some (.cells ss true)]

section
variable (n N : Nat) (rw : Bool) (cl C : List Value) (i k : Int) (jp : Bool) (op d s imm : Int) (ss : List Value) (K1 K2 : List Value → AHeap → Prop) (L : List Item → List AV → AHeap → Prop)
abbrev bN (q : Int) (N : Nat) (p : Prop) : Prop := bif decide (0 ≤ q) && decide (q < (N : Int)) then p else False
abbrev ldS (C : List Value) (q : Int) (p : Prop) : Prop := bif (0 + q.toNat * 25 + 25).ble C.length && okS C q then p else False
abbrev r21 (cl : List Value) (rw : Bool) (K1 : List Value → AHeap → Prop) (a e : Int) : Prop := (PlainL cl ∧ True) ∧ K1 [.slice none 0 0, I 0, I a, I e] (heapB G [some (.cells cl rw)])
abbrev P4 (cl C : List Value) (op d s imm : Int) : Prop := PlainL cl ∧ PlainL C ∧ PlainL [I op, I d, I s, I imm] ∧ True
abbrev P5 (cl C : List Value) (op d s imm : Int) (ss : List Value) : Prop := PlainL cl ∧ PlainL C ∧ PlainL [I op, I d, I s, I imm] ∧ PlainL ss ∧ True
abbrev lnP (cl : List Value) (n : Nat) (p : Prop) : Prop := (PlainL cl ∧ True) ∧ (PlainL cl ∧ True) ∧ cl = insC (unIns cl) ∧ (unIns cl).length = n ∧ n < 1000000000 ∧ p
theorem start21 : seg21 K1 K2 L [.code (Tryd.f21.body.getD .skip)] (startF Tryd.f21 [SL G n 4]) (heapB G [some (.cells cl rw)])
    = (((PlainL cl ∧ True) ∧ (PlainL cl ∧ True) ∧ cl = insC (unIns cl) ∧ (unIns cl).length = n) ∧
      bif putN (unIns cl) != 0 then r21 cl rw K1 0 (putN (unIns cl)) else bif (n : Int) == 0 then r21 cl rw K1 0 11
      else lnP cl n True ∧ bif decide (lopI (unIns cl) ≥ 0) then r21 cl rw K1 (lopI (unIns cl)) 11
      else bif decide (0 ≤ w ((n : Int) + 1)) && decide (w ((n : Int) + 1) ≤ w ((n : Int) + 1)) && decide (w ((n : Int) + 1) ≤ 1099511627776) && room (w ((n : Int) + 1)).toNat 144 then
        (PlainL cl ∧ PlainL (List.replicate (w ((n : Int) + 1)).toNat z25).flatten ∧ True) ∧ L t21a (fr21a n (w ((n : Int) + 1)).toNat) (hA21 cl rw (List.replicate (w ((n : Int) + 1)).toNat z25).flatten)
      else False) := by kernel_rfl
abbrev C3 (C : List Value) : List Value := splice (splice (splice C 0 [B true]) 2 [B true]) 11 [I 0, I 16]
theorem mid21a : seg21 K1 K2 L t21a (fr21a n N) (hA21 cl rw C)
    = (bif decide (0 < (N : Int)) then bif decide (0 < (N : Int)) then bif decide (0 < (N : Int)) then
      bif Nat.ble 1 C.length then bif Nat.ble 3 (splice C 0 [B true]).length then bif Nat.ble 13 (splice (splice C 0 [B true]) 2 [B true]).length then
      (PlainL cl ∧ PlainL (C3 C) ∧ True) ∧ L t21b (fr21b n N 0) (hA21 cl rw (C3 C))
      else False else False else False else False else False else False) := by kernel_rfl
abbrev nj21 (n N : Nat) (rw : Bool) (cl C : List Value) (i : Int) (jp : Bool) (L : List Item → List AV → AHeap → Prop) : Prop := P4 cl C (ix cl i 0) (ix cl i 1) (ix cl i 2) (ix cl i 3) ∧ L t21c (fr21c n N i jp 0) (hB21 cl rw C (ix cl i 0) (ix cl i 1) (ix cl i 2) (ix cl i 3))
theorem head21 : seg21 K1 K2 L t21b (fr21b n N i) (hA21 cl rw C)
    = (bif decide (i < (n : Int)) then bN i n (bif (0 + i.toNat * 4 + 4).ble cl.length && (ox cl i 0 && (ox cl i 1 && (ox cl i 2 && (ox cl i 3 && true)))) then
        bif decide (ix cl i 0 ≥ 12) then bif decide (ix cl i 0 ≤ 16) then bif decide (ix cl i 3 ≤ i) then r21 cl rw K1 i 11 else bif decide (ix cl i 3 ≥ (n : Int)) then r21 cl rw K1 i 11
          else nj21 n N rw cl C i (decide (ix cl i 0 ≤ 16)) L else nj21 n N rw cl C i (decide (ix cl i 0 ≤ 16)) L
        else nj21 n N rw cl C i false L else False)
      else (PlainL cl ∧ PlainL C ∧ True) ∧ L t21j (fr21a n N) (hA21 cl rw C)) := by kernel_rfl
abbrev nk21 (n N : Nat) (rw : Bool) (cl C : List Value) (i : Int) (op d s imm : Int) (k : Int) (L : List Item → List AV → AHeap → Prop) : Prop := P4 cl C op d s imm ∧ L t21c (fr21c n N i true (w (k + 1))) (hB21 cl rw C op d s imm)
theorem jump21 : seg21 K1 K2 L t21c (fr21c n N i true k) (hB21 cl rw C op d s imm)
    = (bif decide (k < (n : Int)) then bN k n (bif okI .i64 (nth cl (0 + k.toNat * 4 + 0)) then bif ix cl k 0 == 17 then
        lnP cl n (0 ≤ k ∧ k < (n : Int)) ∧ bif inD (unIns cl) k imm then lnP cl n (0 ≤ k ∧ k < (n : Int)) ∧ bif !inD (unIns cl) k i then r21 cl rw K1 i 11
          else nk21 n N rw cl C i op d s imm k L else nk21 n N rw cl C i op d s imm k L else nk21 n N rw cl C i op d s imm k L else False)
      else P4 cl C op d s imm ∧ L t21d (fr21d n N i true) (hB21 cl rw C op d s imm)) := by kernel_rfl
theorem jump21f : seg21 K1 K2 L t21c (fr21c n N i false k) (hB21 cl rw C op d s imm)
    = (bif decide (k < (n : Int)) then P4 cl C op d s imm ∧ L t21d (fr21d n N i false) (hB21 cl rw C op d s imm) else P4 cl C op d s imm ∧ L t21d (fr21d n N i false) (hB21 cl rw C op d s imm)) := by kernel_rfl
theorem fine21 : seg21 K1 K2 L t21d (fr21d n N i jp) (hB21 cl rw C op d s imm)
    = (bN i N (bif okB (nth C (0 + i.toNat * 25 + 0)) then bif !boolO (nth C (0 + i.toNat * 25 + 0)) then (PlainL cl ∧ PlainL C ∧ True) ∧ L t21b (fr21b n N (w (i + 1))) (hA21 cl rw C)
      else bN i N (ldS C i ((True ∧ True ∧ IsSt (sta C i) ∧ SpB (sta C i) 0 ∧ right ⟨op, d, s, imm⟩ = true) ∧ bif !r46 (sta C i) op d s imm then r21 cl rw K1 i 11
        else bN i N (ldS C i (P5 cl C op d s imm (sta C i) ∧ L t21e (fr21e n N i jp) (hC21 cl rw C op d s imm (sta C i)))))) else False)) := by kernel_rfl
abbrev sp21 (C ss : List Value) (i op d s imm : Int) : List Value := splice ss (9 + (r36 op d s imm).toNat * 2) [I (cmL (sta C i) op d s imm), I (cmH (sta C i) op d s imm)]
theorem comes21 : seg21 K1 K2 L t21e (fr21e n N i jp) (hC21 cl rw C op d s imm ss)
    = ((True ∧ True ∧ True) ∧ bif decide (r36 op d s imm ≥ 0) then bN i N (ldS C i ((True ∧ True ∧ IsSt (sta C i) ∧ SpB (sta C i) 0 ∧ right ⟨op, d, s, imm⟩ = true) ∧
        b8 (r36 op d s imm) (bif 2 == 2 && (9 + (r36 op d s imm).toNat * 2 + 2).ble ss.length then b8 (r36 op d s imm) (bif (1 + (r36 op d s imm).toNat * 1 + 1).ble (sp21 C ss i op d s imm).length then
          P5 cl C op d s imm (splice (sp21 C ss i op d s imm) (1 + (r36 op d s imm).toNat * 1) [B true]) ∧ L t21f (fr21e n N i jp) (hC21 cl rw C op d s imm (splice (sp21 C ss i op d s imm) (1 + (r36 op d s imm).toNat * 1) [B true]))
          else False) else False)))
      else P5 cl C op d s imm ss ∧ L t21f (fr21e n N i jp) (hC21 cl rw C op d s imm ss)) := by kernel_rfl
theorem wide21 : seg21 K1 K2 L t21f (fr21e n N i jp) (hC21 cl rw C op d s imm ss)
    = (bif op == 17 then P5 cl C op d s imm ss ∧ L t21g (fr21g n N i jp (w (i + 1))) (hC21 cl rw C op d s imm ss)
      else P5 cl C op d s imm ss ∧ L t21h (fr21e n N i jp) (hC21 cl rw C op d s imm ss)) := by kernel_rfl
abbrev wR (cl : List Value) (k : Int) : Int := r36 (ix cl k 0) (ix cl k 1) (ix cl k 2) (ix cl k 3)
abbrev nw21 (n N : Nat) (rw : Bool) (cl C : List Value) (i : Int) (jp : Bool) (op d s imm : Int) (ss : List Value) (k : Int) (L : List Item → List AV → AHeap → Prop) : Prop := P5 cl C op d s imm ss ∧ L t21g (fr21g n N i jp (w (k + 1))) (hC21 cl rw C op d s imm ss)
theorem wid21 : seg21 K1 K2 L t21g (fr21g n N i jp k) (hC21 cl rw C op d s imm ss)
    = (lnP cl n (0 ≤ i ∧ i < (n : Int)) ∧ bif decide (k < endL ((unIns cl).drop (i.toNat + 1)) 0 (i.toNat + 1)) then
        bN k n (bif (0 + k.toNat * 4 + 4).ble cl.length && (ox cl k 0 && (ox cl k 1 && (ox cl k 2 && (ox cl k 3 && true)))) then (True ∧ True ∧ True) ∧
          bif decide (wR cl k ≥ 0) then b8 (wR cl k) (bif okB (nth ss (1 + (wR cl k).toNat * 1)) then bif boolO (nth ss (1 + (wR cl k).toNat * 1)) then
            b8 (wR cl k) (bif (9 + (wR cl k).toNat * 2 + 2).ble ss.length then nw21 n N rw cl C i jp op d s imm (splice ss (9 + (wR cl k).toNat * 2) [I (-1099511627776), I 1099511627776]) k L else False)
            else nw21 n N rw cl C i jp op d s imm ss k L else False)
          else nw21 n N rw cl C i jp op d s imm ss k L else False)
      else P5 cl C op d s imm ss ∧ L t21h (fr21e n N i jp) (hC21 cl rw C op d s imm ss)) := by kernel_rfl
abbrev jC (C ss : List Value) (q : Int) : List Value := splice C (0 + q.toNat * 25) (lit25 (joinS (sta C q) (lit25 ss)))
theorem go21 : seg21 K1 K2 L t21h (fr21e n N i jp) (hC21 cl rw C op d s imm ss)
    = (bif jp then bN imm N (ldS C imm (bif okc25 ss then (True ∧ True ∧ IsSt (sta C imm) ∧ IsSt (lit25 ss)) ∧ bif imm == imm && true then bN imm N (bif 25 == 25 && (0 + imm.toNat * 25 + 25).ble C.length then
          P5 cl (jC C ss imm) op d s imm ss ∧ L t21i (fr21e n N i jp) (hC21 cl rw (jC C ss imm) op d s imm ss) else False) else False else False))
      else P5 cl C op d s imm ss ∧ L t21i (fr21e n N i jp) (hC21 cl rw C op d s imm ss)) := by kernel_rfl
abbrev ni21 (n N : Nat) (rw : Bool) (cl C : List Value) (i : Int) (L : List Item → List AV → AHeap → Prop) : Prop := (PlainL cl ∧ PlainL C ∧ True) ∧ L t21b (fr21b n N (w (i + 1))) (hA21 cl rw C)
theorem on21 : seg21 K1 K2 L t21i (fr21e n N i jp) (hC21 cl rw C op d s imm ss)
    = (bif op != 12 then bif op != 20 then bif w (i + 1) == (n : Int) then r21 cl rw K1 i 11
        else bN (w (i + 1)) N (ldS C (w (i + 1)) (bif okc25 ss then (True ∧ True ∧ IsSt (sta C (w (i + 1))) ∧ IsSt (lit25 ss)) ∧ bN (w (i + 1)) N (bif 25 == 25 && (0 + (w (i + 1)).toNat * 25 + 25).ble C.length then
          ni21 n N rw cl (jC C ss (w (i + 1))) i L else False) else False))
        else ni21 n N rw cl C i L else ni21 n N rw cl C i L) := by kernel_rfl
theorem end21 : seg21 K1 K2 L t21j (fr21a n N) (hA21 cl rw C)
    = (lnP cl n True ∧ bif decide (fuI (unIns cl) > 4096) then r21 cl rw K1 0 12
      else bif decide (0 ≤ (n : Int)) && decide ((n : Int) ≤ (N : Int)) then
        (PlainL cl ∧ PlainL (C.take (((n : Int).toNat - 0) * 25)) ∧ True) ∧ K2 [.slice (some ⟨G + 1, 0 + 0 * 25, none⟩) ((n : Int).toNat - 0) 25, I (fuI (unIns cl)), I 0, I 0] (heapB G [some (.cells cl rw), some (.cells (C.take (((n : Int).toNat - 0) * 25)) true)])
      else False) := by kernel_rfl
end

abbrev Sem21 (w0 : World) (K1 K2 : List Value → AHeap → Prop) (t : List Item) (fr : List AV) (h : AHeap) : Prop :=
  Agm.Sem Tryd.prog w0 (Tryd.prog.globals.size + nt1.flags.length) Tryd.f21 (post21 K1 K2) t fr h
theorem leaf21 {K1 K2 : List Value → AHeap → Prop} : ∀ t fr h, (match t with
  | .code (.region 10 _ _) :: _ => canonT G nt21a (Sem21 w0 K1 K2 t) fr h
  | .code (.region 12 _ _) :: _ => canonT G nt21a (Sem21 w0 K1 K2 t) fr h
  | .code (.region 44 _ _) :: _ => canonT G nt21a (Sem21 w0 K1 K2 t) fr h
  | .code (.region 19 _ _) :: _ => canonT G nt21b (Sem21 w0 K1 K2 t) fr h
  | .code (.region 23 _ _) :: _ => canonT G nt21b (Sem21 w0 K1 K2 t) fr h
  | .code (.region _ _ _) :: _ => canonT G nt21c (Sem21 w0 K1 K2 t) fr h
  | _ => False) → Sem21 w0 K1 K2 t fr h := by
  intro t fr h e
  split at e
  · exact canonT_semN (nt := nt21a) rfl e
  · exact canonT_semN (nt := nt21a) rfl e
  · exact canonT_semN (nt := nt21a) rfl e
  · exact canonT_semN (nt := nt21b) rfl e
  · exact canonT_semN (nt := nt21b) rfl e
  · exact canonT_semN (nt := nt21c) rfl e
  · exact e.elim
theorem ok21 : ∀ c ∈ cs21, c.ok Tryd.prog w0 := fun c hc => by
  simp only [List.mem_cons, List.not_mem_nil, or_false] at hc
  rcases hc with rfl | rfl | rfl | rfl | rfl | rfl | rfl | rfl | rfl
  · exact con32_ok
  · exact con33_ok
  · exact con34_ok
  · exact con35_ok
  · exact con36_ok
  · exact con37_ok
  · exact con64_ok
  · exact con39_ok
  · exact con40_ok
/-! States with one more behind them. -/
theorem stsZ {cst : List Value} {n : Nat} (h : StsOk cst n) : StsOk (cst ++ z25) (n + 1) := by
  have hl := h.len
  have last : ∀ j, j < 25 → nth (cst ++ z25) (n * 25 + j) = nth z25 j := fun j hj => by
    rw [nth_eq, nth_eq, List.getElem?_append_right (by omega)]
    congr 1
    omega
  have first : ∀ k j, k < n → j < 25 → nth (cst ++ z25) (k * 25 + j) = nth cst (k * 25 + j) := fun k j hk hj => nthL (by omega)
  have tz : TyF z25 0 := isSt_ty (by rfl)
  refine ⟨by rw [List.length_append, hl]; simp; omega, fun k hk => ?_, fun k hk => ?_⟩
  · rcases Nat.lt_succ_iff_lt_or_eq.1 hk with hk | rfl
    · have t := h.st k hk
      refine ⟨by rw [List.length_append]; have := t.len; omega, fun r hr => ?_, fun r hr => ?_, fun r hr => ?_⟩
      · rw [nthL (by have := t.len; omega)]; exact t.kn r hr
      · rw [nthL (by have := t.len; omega)]; exact t.lo r hr
      · rw [nthL (by have := t.len; omega)]; exact t.hi r hr
    · refine ⟨by rw [List.length_append, hl]; simp, fun r hr => ?_, fun r hr => ?_, fun r hr => ?_⟩
      · rw [show k * 25 + 1 + r = k * 25 + (0 + 1 + r) by omega, last _ (by omega)]; exact tz.kn r hr
      · rw [show k * 25 + 9 + r * 2 + 0 = k * 25 + (0 + 9 + r * 2 + 0) by omega, last _ (by omega)]; exact tz.lo r hr
      · rw [show k * 25 + 9 + r * 2 + 1 = k * 25 + (0 + 9 + r * 2 + 1) by omega, last _ (by omega)]; exact tz.hi r hr
  · rcases Nat.lt_succ_iff_lt_or_eq.1 hk with hk | rfl
    · have := first k 0 hk (by omega)
      rw [Nat.add_zero] at this
      rw [this]; exact h.co k hk
    · have := last 0 (by omega)
      rw [Nat.add_zero] at this
      rw [this]; rfl
theorem plainZ {cst : List Value} (h : PlainL cst) : PlainL (cst ++ z25) := by
  intro x hx
  rcases List.mem_append.1 hx with hx | hx
  · exact h x hx
  · exact plain_z25 x hx
section
variable {K1 K2 : List Value → AHeap → Prop} {l : List Ins} {rw : Bool} {cst ss : List Value} {i : Nat} {op d s imm : Int} {jp : Bool}
/-- What is asked of the states at work. -/
structure Cst (l : List Ins) (cst : List Value) : Prop where
  sts : StsOk cst l.length
  pl : PlainL cst
  sp : SpAll cst l.length
theorem Cst.at (h : Cst l cst) {k : Nat} (hk : k < l.length) : okS (cst ++ z25) (k : Int) = true ∧ sta (cst ++ z25) (k : Int) = stAt cst k ∧ IsSt (stAt cst k) ∧ SpB (stAt cst k) 0 ∧ (0 + (k : Int).toNat * 25 + 25).ble (cst ++ z25).length = true := by
  have hz := stsZ h.sts
  obtain ⟨a1, a2, a3⟩ := sta_eq hz (k := k) (by omega)
  have hl := h.sts.len
  have e : stAt (cst ++ z25) k = stAt cst k := stAtL (by omega)
  rw [e] at a2 a3
  refine ⟨a1, a2, a3, stAt_spb (h.sp k hk), Nat.ble_eq_true_of_le ?_⟩
  rw [hz.len, Int.toNat_natCast]; omega
theorem ldS_ok {C : List Value} {q : Int} {p : Prop} (h1 : okS C q = true) (h2 : (0 + q.toNat * 25 + 25).ble C.length = true) (h : p) : ldS C q p := by
  unfold ldS
  rw [h1, h2]
  exact h
theorem bN_ok {q N : Nat} {p : Prop} (h : q < N) (hp : p) : bN (q : Int) N p := by
  unfold bN
  rw [decide_eq_true (show (0 : Int) ≤ (q : Int) by omega), decide_eq_true (show (q : Int) < (N : Int) by omega)]
  exact hp
theorem jC_eq (h : Cst l cst) {k : Nat} (hk : k < l.length) (hs : IsSt ss) : jC (cst ++ z25) ss (k : Int) = join48 cst (k * 25) ss ++ z25 := by
  obtain ⟨_, a2, a3, _, _⟩ := h.at hk
  have hl := h.sts.len
  have hj := joinS_st a3 hs
  unfold jC
  rw [a2, lit25_eq hs, lit25_eq hj, Int.toNat_natCast, Nat.zero_add, spliceL (by rw [isSt_len hj]; omega), join48_S (by omega)]
theorem Cst.join (h : Cst l cst) {k : Nat} (hk : k < l.length) (hs : IsSt ss) (hp : SpB ss 0) : Cst l (join48 cst (k * 25) ss) :=
  ⟨join48_sts h.sts hk hs, join48_plain h.pl hs, join_spb h.sts hk hs h.sp hp⟩
set_option maxRecDepth 100000 in
theorem on_sem (hn : l.length < 1000000000) (hi : i < l.length) (h : Cst l cst) (hs : IsSt ss) (hbad : (fin25 op l.length i cst ss).1 = false → K1 [.slice none 0 0, I 0, I i, I 11] (heapB G [some (.cells (insC l) rw)]))
    (hgood : (fin25 op l.length i cst ss).1 = true → Sem21 w0 K1 K2 t21b (fr21b l.length (l.length + 1) (i + 1 : Nat)) (hA21 (insC l) rw ((fin25 op l.length i cst ss).2 ++ z25))) (hpl : PlainL (fin25 op l.length i cst ss).2) :
    Sem21 w0 K1 K2 t21i (fr21e l.length (l.length + 1) i jp) (hC21 (insC l) rw (cst ++ z25) op d s imm ss) := by
  refine seg_semI3 (F := ft21) mixed (callsOf_ok ok21) leaf21 [10, 12, 19, 23, 27, 31, 33, 38, 40, 44] 20 400 ((on21 l.length (l.length + 1) rw (insC l) (cst ++ z25) i jp op d s imm ss K1 K2 _).mpr ?_)
  have hw1 : w ((i : Int) + 1) = ((i + 1 : Nat) : Int) := by rw [w_id (by omega) (by omega)]; omega
  have p1 := plain_insC l
  have pz := plainZ h.pl
  unfold fin25 at hbad hgood hpl
  rw [hw1]
  have nx : op == 12 || op == 20 → Sem21 w0 K1 K2 t21b (fr21b l.length (l.length + 1) (i + 1 : Nat)) (hA21 (insC l) rw (cst ++ z25)) → ni21 l.length (l.length + 1) rw (insC l) (cst ++ z25) i (Sem21 w0 K1 K2) := fun _ hh => by
    unfold ni21
    rw [hw1]
    exact ⟨⟨p1, pz, trivial⟩, hh⟩
  cases c1 : op == 12 with
  | true =>
    rw [c1] at hgood
    have e : (op != 12) = false := by unfold bne; rw [c1]; rfl
    rw [e]
    exact nx (by rw [c1]; rfl) (hgood rfl)
  | false =>
    rw [c1] at hgood hbad hpl
    have e : (op != 12) = true := by unfold bne; rw [c1]; rfl
    rw [e]
    cases c2 : op == 20 with
    | true =>
      rw [c2] at hgood
      have e : (op != 20) = false := by unfold bne; rw [c2]; rfl
      rw [e]
      exact nx (by rw [c1, c2]; rfl) (hgood rfl)
    | false =>
      rw [c2] at hgood hbad hpl
      have e : (op != 20) = true := by unfold bne; rw [c2]; rfl
      rw [e]
      simp only [cond_false, cond_true] at hgood hbad hpl ⊢
      refine bifP (fun c3 => ?_) (fun c3 => ?_)
      · rw [c3] at hbad
        exact ⟨⟨p1, trivial⟩, hbad rfl⟩
      · rw [c3] at hgood hpl
        simp only [cond_false] at hgood hpl
        have hlt : i + 1 < l.length := by
          have := beq_eq_false_iff_ne.mp c3
          omega
        obtain ⟨a1, a2, a3, a4, a5⟩ := h.at hlt
        refine bN_ok (by omega) (ldS_ok a1 a5 ?_)
        rw [okc25_st hs, a2, lit25_eq hs]
        refine ⟨⟨trivial, trivial, a3, hs⟩, bN_ok (by omega) ?_⟩
        rw [a5, jC_eq h hlt hs]
        unfold ni21
        rw [hw1]
        exact ⟨⟨p1, plainZ hpl, trivial⟩, hgood trivial⟩
set_option maxRecDepth 100000 in
theorem go_sem (hn : l.length < 1000000000) (hi : i < l.length) (h : Cst l cst) (hs : IsSt ss) (hp : SpB ss 0) (him : r44 op = true → 0 ≤ imm ∧ imm < (l.length : Int)) (hbad : (fin25 op l.length i (jmp25 op imm cst ss) ss).1 = false → K1 [.slice none 0 0, I 0, I i, I 11] (heapB G [some (.cells (insC l) rw)]))
    (hgood : (fin25 op l.length i (jmp25 op imm cst ss) ss).1 = true → Sem21 w0 K1 K2 t21b (fr21b l.length (l.length + 1) (i + 1 : Nat)) (hA21 (insC l) rw ((fin25 op l.length i (jmp25 op imm cst ss) ss).2 ++ z25))) (hpl : PlainL (fin25 op l.length i (jmp25 op imm cst ss) ss).2) :
    Sem21 w0 K1 K2 t21h (fr21e l.length (l.length + 1) i (r44 op)) (hC21 (insC l) rw (cst ++ z25) op d s imm ss) := by
  refine seg_semI3 (F := ft21) mixed (callsOf_ok ok21) leaf21 [10, 12, 19, 23, 27, 31, 33, 38, 40, 44] 20 400 ((go21 l.length (l.length + 1) rw (insC l) (cst ++ z25) i (r44 op) op d s imm ss K1 K2 _).mpr ?_)
  have p1 := plain_insC l
  have p4 := plain_ins4 op d s imm
  have ps := isSt_plain hs
  unfold jmp25 at hbad hgood hpl
  refine bifP (fun c => ?_) (fun c => ?_)
  · rw [c] at hbad hgood hpl
    simp only [cond_true] at hbad hgood hpl
    obtain ⟨i1, i2⟩ := him c
    obtain ⟨t, rfl⟩ := Int.eq_ofNat_of_zero_le i1
    have ht : t < l.length := by omega
    rw [Int.toNat_natCast] at hbad hgood hpl
    obtain ⟨a1, a2, a3, a4, a5⟩ := h.at ht
    have hj := h.join ht hs hp
    refine bN_ok (by omega) (ldS_ok a1 a5 ?_)
    rw [okc25_st hs, a2, lit25_eq hs, beq_self_eq_true]
    refine ⟨⟨trivial, trivial, a3, hs⟩, bN_ok (by omega) ?_⟩
    rw [a5, jC_eq h ht hs, c]
    exact ⟨⟨p1, plainZ hj.pl, p4, ps, trivial⟩, on_sem hn hi hj hs hbad hgood hpl⟩
  · rw [c] at hbad hgood hpl ⊢
    exact ⟨⟨p1, plainZ h.pl, p4, ps, trivial⟩, on_sem hn hi h hs hbad hgood hpl⟩
theorem wr_same {x : Ins} (hx : right x = true) : r36 x.op x.d x.s x.imm = wrI x := by
  have ho : ¬ (x.op < 0 ∨ 20 < x.op) := fun h => by
    have := right_out (d := x.d) (s := x.s) (imm := x.imm) h
    rw [show (⟨x.op, x.d, x.s, x.imm⟩ : Ins) = x from rfl, hx] at this
    cases this
  unfold wrI
  generalize x.op = o at ho ⊢
  have : o = 0 ∨ o = 1 ∨ o = 2 ∨ o = 3 ∨ o = 4 ∨ o = 5 ∨ o = 6 ∨ o = 7 ∨ o = 8 ∨ o = 9 ∨ o = 10 ∨ o = 11 ∨ o = 12 ∨ o = 13 ∨ o = 14 ∨ o = 15 ∨ o = 16 ∨ o = 17 ∨ o = 18 ∨ o = 19 ∨ o = 20 := by omega
  rcases this with rfl | rfl | rfl | rfl | rfl | rfl | rfl | rfl | rfl | rfl | rfl | rfl | rfl | rfl | rfl | rfl | rfl | rfl | rfl | rfl | rfl <;> rfl
set_option maxRecDepth 100000 in
theorem wid_sem (hl : ∀ x ∈ l, right x = true) (hn : l.length < 1000000000) (hi : i < l.length) (hcs : PlainL cst) {e : Nat} (he : enD l i = (e : Int)) (he2 : e ≤ l.length) : ∀ (m k : Nat) (ss : List Value), k + m = e → IsSt ss →
    Sem21 w0 K1 K2 t21h (fr21e l.length (l.length + 1) i jp) (hC21 (insC l) rw (cst ++ z25) op d s imm (widenL ((l.drop k).take m) ss)) →
    Sem21 w0 K1 K2 t21g (fr21g l.length (l.length + 1) i jp k) (hC21 (insC l) rw (cst ++ z25) op d s imm ss) := by
  have p1 := plain_insC l
  have p4 := plain_ins4 op d s imm
  have pz := plainZ hcs
  have ln : lnP (insC l) l.length (0 ≤ (i : Int) ∧ (i : Int) < (l.length : Int)) := by
    unfold lnP
    rw [unIns_insC]
    exact ⟨⟨p1, trivial⟩, ⟨p1, trivial⟩, rfl, rfl, hn, by omega, by omega⟩
  intro m
  induction m with
  | zero =>
    intro k ss hk hs hK
    refine seg_semI3 (F := ft21) mixed (callsOf_ok ok21) leaf21 [10, 12, 19, 23, 27, 31, 33, 38, 40, 44] 20 400 ((wid21 l.length (l.length + 1) rw (insC l) (cst ++ z25) i k jp op d s imm ss K1 K2 _).mpr ?_)
    rw [unIns_insC, Int.toNat_natCast]
    refine ⟨ln, ?_⟩
    have he' : endL (l.drop (i + 1)) 0 (i + 1) = (e : Int) := he
    rw [he', decide_eq_false (show ¬ (k : Int) < (e : Int) by omega), cond_false]
    exact ⟨⟨p1, pz, p4, isSt_plain hs, trivial⟩, hK⟩
  | succ m ih =>
    intro k ss hk hs hK
    refine seg_semI3 (F := ft21) mixed (callsOf_ok ok21) leaf21 [10, 12, 19, 23, 27, 31, 33, 38, 40, 44] 20 400 ((wid21 l.length (l.length + 1) rw (insC l) (cst ++ z25) i k jp op d s imm ss K1 K2 _).mpr ?_)
    rw [unIns_insC, Int.toNat_natCast]
    refine ⟨ln, ?_⟩
    have he' : endL (l.drop (i + 1)) 0 (i + 1) = (e : Int) := he
    have hkl : k < l.length := by omega
    rw [he', decide_eq_true (show (k : Int) < (e : Int) by omega), cond_true]
    obtain ⟨e1, ⟨e2, e3, e4, e5⟩, e6, e7, e8, e9⟩ := at_insC hkl
    refine bN_ok (by omega) ?_
    rw [e1]
    simp only [ox, e2, e3, e4, e5, Bool.and_self, cond_true]
    refine ⟨⟨trivial, trivial, trivial⟩, ?_⟩
    have hx := hl _ (List.getElem_mem hkl)
    have hw : wR (insC l) (k : Int) = wrI l[k] := by
      unfold wR
      rw [e6, e7, e8, e9]
      exact wr_same hx
    rw [hw]
    rw [List.drop_eq_getElem_cons hkl, List.take_succ_cons, widenL] at hK
    have hs1 := wide1_st hx hs
    have fin := ih (k + 1) (wide1 l[k] ss) (by omega) hs1 hK
    have hw1 : w ((k : Int) + 1) = ((k + 1 : Nat) : Int) := by rw [w_id (by omega) (by omega)]; omega
    have nx : ∀ ss', ss' = wide1 l[k] ss → nw21 l.length (l.length + 1) rw (insC l) (cst ++ z25) i jp op d s imm ss' k (Sem21 w0 K1 K2) := by
      rintro _ rfl
      unfold nw21
      rw [hw1]
      exact ⟨⟨p1, pz, p4, isSt_plain hs1, trivial⟩, fin⟩
    refine bifP (fun c => ?_) (fun c => ?_)
    · have h0 : 0 ≤ wrI l[k] := of_decide_eq_true c
      have h8 := (wrI_le hx).2
      have ts := isSt_ty hs
      obtain ⟨q, hq⟩ := Int.eq_ofNat_of_zero_le h0
      have hq8 : q < 8 := by omega
      have kn := ts.kn q hq8
      rw [Nat.zero_add] at kn
      unfold b8
      rw [decide_eq_true h0, decide_eq_true h8]
      have hlen : (9 + (wrI l[k]).toNat * 2 + 2).ble ss.length = true := Nat.ble_eq_true_of_le (by rw [isSt_len hs]; omega)
      have hkn : okB (nth ss (1 + (wrI l[k]).toNat * 1)) = true := by rw [hq, Int.toNat_natCast, Nat.mul_one]; exact kn
      rw [hkn, hlen]
      simp only [Bool.and_self, cond_true]
      have ew : wide1 l[k] ss = bif kI ss (wrI l[k]) then splice ss (9 + (wrI l[k]).toNat * 2) [I (-1099511627776), I 1099511627776] else ss := by unfold wide1; rw [c]; rfl
      refine bifP (fun c2 => nx _ ?_) (fun c2 => nx _ ?_)
      · have c2' : kI ss (wrI l[k]) = true := c2
        rw [ew, c2']; rfl
      · have c2' : kI ss (wrI l[k]) = false := c2
        rw [ew, c2']; rfl
    · exact nx _ (by unfold wide1; rw [c]; rfl)
set_option maxRecDepth 100000 in
theorem wide_sem (hl : ∀ x ∈ l, right x = true) (hn : l.length < 1000000000) {lp en : List Int} (hL : LpR l lp en) (hi : i < l.length) (hop : opA l i = op) (h : Cst l cst) (hs : IsSt ss)
    (hK : Sem21 w0 K1 K2 t21h (fr21e l.length (l.length + 1) i jp) (hC21 (insC l) rw (cst ++ z25) op d s imm (wid25 l en i op ss))) :
    Sem21 w0 K1 K2 t21f (fr21e l.length (l.length + 1) i jp) (hC21 (insC l) rw (cst ++ z25) op d s imm ss) := by
  refine seg_semI3 (F := ft21) mixed (callsOf_ok ok21) leaf21 [10, 12, 19, 23, 27, 31, 33, 38, 40, 44] 20 400 ((wide21 l.length (l.length + 1) rw (insC l) (cst ++ z25) i jp op d s imm ss K1 K2 _).mpr ?_)
  have p1 := plain_insC l
  have p4 := plain_ins4 op d s imm
  have pz := plainZ h.pl
  unfold wid25 at hK
  refine bifP (fun c => ?_) (fun c => ?_)
  · rw [c, cond_true] at hK
    have h17 : opA l i = 17 := by rw [hop]; exact beq_iff_eq.1 c
    obtain ⟨e, e1, e2, e3, _, _⟩ := hL.en i hi h17
    have he := hL.enD hi h17
    rw [e1] at he
    rw [e1, Int.toNat_natCast] at hK
    have hw1 : w ((i : Int) + 1) = ((i + 1 : Nat) : Int) := by rw [w_id (by omega) (by omega)]; omega
    rw [hw1]
    exact ⟨⟨p1, pz, p4, isSt_plain hs, trivial⟩, wid_sem hl hn hi h.pl he (by omega) (e - (i + 1)) (i + 1) ss (by omega) hs hK⟩
  · rw [c, cond_false] at hK
    exact ⟨⟨p1, pz, p4, isSt_plain hs, trivial⟩, hK⟩
set_option maxRecDepth 100000 in
theorem comes_sem (hi : i < l.length) (hr : right ⟨op, d, s, imm⟩ = true) (h : Cst l cst) (h46 : r46 (stAt cst i) op d s imm = true)
    (hK : Sem21 w0 K1 K2 t21f (fr21e l.length (l.length + 1) i jp) (hC21 (insC l) rw (cst ++ z25) op d s imm (c46 (stAt cst i) op d s imm))) :
    Sem21 w0 K1 K2 t21e (fr21e l.length (l.length + 1) i jp) (hC21 (insC l) rw (cst ++ z25) op d s imm (stAt cst i)) := by
  refine seg_semI3 (F := ft21) mixed (callsOf_ok ok21) leaf21 [10, 12, 19, 23, 27, 31, 33, 38, 40, 44] 20 400 ((comes21 l.length (l.length + 1) rw (insC l) (cst ++ z25) i jp op d s imm (stAt cst i) K1 K2 _).mpr ?_)
  have p1 := plain_insC l
  have p4 := plain_ins4 op d s imm
  have pz := plainZ h.pl
  obtain ⟨a1, a2, a3, a4, a5⟩ := h.at hi
  have hc := nx_c46 a3 hr h46
  have hst := c46_st (op := op) (imm := imm) a3 (right_regs hr)
  unfold nxS at hc
  rw [← hc] at hK hst
  unfold sp21
  rw [a2]
  refine ⟨⟨trivial, trivial, trivial⟩, bifP (fun c => ?_) (fun c => ?_)⟩
  · rw [c, cond_true] at hK hst
    have h0 : 0 ≤ r36 op d s imm := of_decide_eq_true c
    have h8 : r36 op d s imm < 8 := by
      have := wrI_le hr
      rw [← wr_same hr] at this
      exact this.2
    refine bN_ok (by omega) (ldS_ok a1 a5 ⟨⟨trivial, trivial, a3, a4, hr⟩, ?_⟩)
    have h25 := isSt_len a3
    have l1 : (9 + (r36 op d s imm).toNat * 2 + 2).ble (stAt cst i).length = true := Nat.ble_eq_true_of_le (by rw [h25]; omega)
    have l2 : (1 + (r36 op d s imm).toNat * 1 + 1).ble (splice (stAt cst i) (9 + (r36 op d s imm).toNat * 2) [I (cmL (stAt cst i) op d s imm), I (cmH (stAt cst i) op d s imm)]).length = true := Nat.ble_eq_true_of_le (by rw [splice_len (by rw [h25]; simp; omega), h25]; omega)
    unfold b8
    rw [decide_eq_true h0, decide_eq_true h8, l1, l2]
    exact ⟨⟨p1, pz, p4, isSt_plain hst, trivial⟩, hK⟩
  · rw [c, cond_false] at hK hst
    exact ⟨⟨p1, pz, p4, isSt_plain a3, trivial⟩, hK⟩
set_option maxRecDepth 100000 in
theorem fine_sem (hl : ∀ x ∈ l, right x = true) (hn : l.length < 1000000000) {lp en : List Int} (hL : LpR l lp en) (hi : i < l.length) (h : Cst l cst) (hbo : bad25 l.length lp en i (l.getD i insD).op (l.getD i insD).imm = false)
    (hbad : (stepF l lp en i cst).1 = false → K1 [.slice none 0 0, I 0, I i, I 11] (heapB G [some (.cells (insC l) rw)]))
    (hgood : (stepF l lp en i cst).1 = true → Sem21 w0 K1 K2 t21b (fr21b l.length (l.length + 1) (i + 1 : Nat)) (hA21 (insC l) rw ((stepF l lp en i cst).2 ++ z25))) :
    Sem21 w0 K1 K2 t21d (fr21d l.length (l.length + 1) i (r44 (l.getD i insD).op)) (hB21 (insC l) rw (cst ++ z25) (l.getD i insD).op (l.getD i insD).d (l.getD i insD).s (l.getD i insD).imm) := by
  refine seg_semI3 (F := ft21) mixed (callsOf_ok ok21) leaf21 [10, 12, 19, 23, 27, 31, 33, 38, 40, 44] 20 400 ((fine21 l.length (l.length + 1) rw (insC l) (cst ++ z25) i (r44 (l.getD i insD).op) (l.getD i insD).op (l.getD i insD).d (l.getD i insD).s (l.getD i insD).imm K1 K2 _).mpr ?_)
  have p1 := plain_insC l
  have pz := plainZ h.pl
  have hx : right (l.getD i insD) = true := hl _ (getD_mem hi)
  have p4 := plain_ins4 (l.getD i insD).op (l.getD i insD).d (l.getD i insD).s (l.getD i insD).imm
  have hpl2 := (stepF_sts (lp := lp) (en := en) hl hi h.sts h.pl).2
  obtain ⟨q1, q2⟩ := postS_st (en := en) hl h.sts hi
  have q3 := postS_spb (en := en) hl h.sts hi h.sp
  unfold postS at q1 q3
  obtain ⟨a1, a2, a3, a4, a5⟩ := h.at hi
  have hw1 : w ((i : Int) + 1) = ((i + 1 : Nat) : Int) := by rw [w_id (by omega) (by omega)]; omega
  have hcome : nth (cst ++ z25) (0 + (i : Int).toNat * 25 + 0) = nth cst (i * 25) := by
    rw [Nat.zero_add, Nat.add_zero, Int.toNat_natCast]
    exact nthL (by rw [h.sts.len]; omega)
  refine bN_ok (by omega) ?_
  rw [hcome, h.sts.co i hi]
  unfold stepF at hbad hgood hpl2
  rw [hbo] at hbad hgood hpl2
  simp only [cond_false] at hbad hgood hpl2
  have c46s := c46_st (op := (l.getD i insD).op) (imm := (l.getD i insD).imm) a3 (right_regs hx)
  have him : r44 (l.getD i insD).op = true → 0 ≤ (l.getD i insD).imm ∧ (l.getD i insD).imm < (l.length : Int) := fun hj => by
    have := jump_imm hbo hj (by omega)
    exact ⟨this.1, this.2.1⟩
  rw [cond_true, hw1, a2]
  refine bifP (fun c => ?_) (fun c => ?_)
  · rw [c] at hgood
    exact ⟨⟨p1, pz, trivial⟩, hgood rfl⟩
  · rw [c] at hbad hgood hpl2
    simp only [cond_false] at hbad hgood hpl2
    refine bN_ok (by omega) (ldS_ok a1 a5 ⟨⟨trivial, trivial, a3, a4, hx⟩, ?_⟩)
    refine bifP (fun c2 => ?_) (fun c2 => ?_)
    · rw [c2] at hbad
      exact ⟨⟨p1, trivial⟩, hbad rfl⟩
    · rw [c2] at hbad hgood hpl2
      simp only [cond_false] at hbad hgood hpl2
      have c2' : r46 (stAt cst i) (l.getD i insD).op (l.getD i insD).d (l.getD i insD).s (l.getD i insD).imm = true := not_true_of c2
      refine bN_ok (by omega) (ldS_ok a1 a5 ⟨⟨p1, pz, p4, isSt_plain a3, trivial⟩, ?_⟩)
      refine comes_sem hi hx h c2' (wide_sem hl hn hL hi rfl h c46s ?_)
      exact go_sem hn hi h q1 q3 him hbad hgood hpl2
set_option maxRecDepth 100000 in
theorem jump_sem (hn : l.length < 1000000000) (hcs : PlainL cst) (hbad : jmpD l i imm (l.length + 1) 0 = true → K1 [.slice none 0 0, I 0, I i, I 11] (heapB G [some (.cells (insC l) rw)]))
    (hgood : jmpD l i imm (l.length + 1) 0 = false → Sem21 w0 K1 K2 t21d (fr21d l.length (l.length + 1) i true) (hB21 (insC l) rw (cst ++ z25) op d s imm)) :
    Sem21 w0 K1 K2 t21c (fr21c l.length (l.length + 1) i true 0) (hB21 (insC l) rw (cst ++ z25) op d s imm) := by
  have p1 := plain_insC l
  have pz := plainZ hcs
  have p4 := plain_ins4 op d s imm
  have key : ∀ (f k : Nat), l.length - k < f → k ≤ l.length → (jmpD l i imm f k = true → K1 [.slice none 0 0, I 0, I i, I 11] (heapB G [some (.cells (insC l) rw)])) →
      (jmpD l i imm f k = false → Sem21 w0 K1 K2 t21d (fr21d l.length (l.length + 1) i true) (hB21 (insC l) rw (cst ++ z25) op d s imm)) →
      Sem21 w0 K1 K2 t21c (fr21c l.length (l.length + 1) i true k) (hB21 (insC l) rw (cst ++ z25) op d s imm) := by
    intro f
    induction f with
    | zero => intro k h1; omega
    | succ f ih =>
      intro k h1 h2 hb hg
      refine seg_semI3 (F := ft21) mixed (callsOf_ok ok21) leaf21 [10, 12, 19, 23, 27, 31, 33, 38, 40, 44] 20 400 ((jump21 l.length (l.length + 1) rw (insC l) (cst ++ z25) i k op d s imm K1 K2 _).mpr ?_)
      rw [jmpD] at hb hg
      refine bifP (fun c0 => ?_) (fun c0 => ?_)
      · simp only [decide_eq_true_eq] at c0
        have hk : k < l.length := by omega
        obtain ⟨e1, ⟨e2, e3, e4, e5⟩, e6⟩ := at_insC3 hk
        have hw1 : w ((k : Int) + 1) = ((k + 1 : Nat) : Int) := by rw [w_id (by omega) (by omega)]; omega
        rw [decide_eq_true hk, cond_true] at hb hg
        refine bN_ok hk ?_
        have e6' : ix (insC l) (k : Int) 0 = (l.getD k insD).op := e6
        rw [e2, e6', cond_true, unIns_insC]
        have ln : lnP (insC l) l.length (0 ≤ (k : Int) ∧ (k : Int) < (l.length : Int)) := by
          unfold lnP
          rw [unIns_insC]
          exact ⟨⟨p1, trivial⟩, ⟨p1, trivial⟩, rfl, rfl, hn, by omega, by omega⟩
        have nx : (jmpD l i imm f (k + 1) = true → K1 [.slice none 0 0, I 0, I i, I 11] (heapB G [some (.cells (insC l) rw)])) →
            (jmpD l i imm f (k + 1) = false → Sem21 w0 K1 K2 t21d (fr21d l.length (l.length + 1) i true) (hB21 (insC l) rw (cst ++ z25) op d s imm)) → nk21 l.length (l.length + 1) rw (insC l) (cst ++ z25) i op d s imm k (Sem21 w0 K1 K2) := fun a b => by
          unfold nk21
          rw [hw1]
          exact ⟨⟨p1, pz, p4, trivial⟩, ih (k + 1) (by omega) (by omega) a b⟩
        refine bifP (fun c1 => ?_) (fun c1 => ?_)
        · rw [c1] at hb hg
          refine ⟨ln, bifP (fun c2 => ?_) (fun c2 => ?_)⟩
          · rw [c2] at hb hg
            refine ⟨ln, bifN (fun c3 => ?_) (fun c3 => ?_)⟩
            · rw [c3] at hb
              exact ⟨⟨p1, trivial⟩, hb rfl⟩
            · rw [c3] at hb hg
              exact nx hb hg
          · rw [c2] at hb hg
            exact nx hb hg
        · rw [c1] at hb hg
          exact nx hb hg
      · simp only [decide_eq_false_iff_not] at c0
        rw [decide_eq_false (show ¬ k < l.length by omega)] at hg
        exact ⟨⟨p1, pz, p4, trivial⟩, hg rfl⟩
  exact key (l.length + 1) 0 (by omega) (by omega) hbad hgood
set_option maxRecDepth 100000 in
theorem jumpf_sem {k : Int} (hcs : PlainL cst) (hK : Sem21 w0 K1 K2 t21d (fr21d l.length (l.length + 1) i false) (hB21 (insC l) rw (cst ++ z25) op d s imm)) :
    Sem21 w0 K1 K2 t21c (fr21c l.length (l.length + 1) i false k) (hB21 (insC l) rw (cst ++ z25) op d s imm) := by
  refine seg_semI3 (F := ft21) mixed (callsOf_ok ok21) leaf21 [10, 12, 19, 23, 27, 31, 33, 38, 40, 44] 20 400 ((jump21f l.length (l.length + 1) rw (insC l) (cst ++ z25) i k op d s imm K1 K2 _).mpr ?_)
  have p1 := plain_insC l
  have pz := plainZ hcs
  have p4 := plain_ins4 op d s imm
  exact bifP (fun _ => ⟨⟨p1, pz, p4, trivial⟩, hK⟩) (fun _ => ⟨⟨p1, pz, p4, trivial⟩, hK⟩)
set_option maxRecDepth 100000 in
theorem end_sem (hn : l.length < 1000000000) (hlen : cst.length = l.length * 25) (hcs : PlainL cst) (h12 : decide (fuI l > 4096) = true → K1 [.slice none 0 0, I 0, I 0, I 12] (heapB G [some (.cells (insC l) rw)]))
    (hok : decide (fuI l > 4096) = false → K2 [SL (G + 1) l.length 25, I (fuI l), I 0, I 0] (heapB G [some (.cells (insC l) rw), some (.cells cst true)])) :
    Sem21 w0 K1 K2 t21j (fr21a l.length (l.length + 1)) (hA21 (insC l) rw (cst ++ z25)) := by
  refine seg_semI3 (F := ft21) mixed (callsOf_ok ok21) leaf21 [10, 12, 19, 23, 27, 31, 33, 38, 40, 44] 20 400 ((end21 l.length (l.length + 1) rw (insC l) (cst ++ z25) K1 K2 _).mpr ?_)
  have p1 := plain_insC l
  rw [unIns_insC]
  have ln : lnP (insC l) l.length True := by
    unfold lnP
    rw [unIns_insC]
    exact ⟨⟨p1, trivial⟩, ⟨p1, trivial⟩, rfl, rfl, hn, trivial⟩
  refine ⟨ln, bifP (fun c => ⟨⟨p1, trivial⟩, h12 c⟩) (fun c => ?_)⟩
  rw [decide_eq_true (show (0 : Int) ≤ (l.length : Int) by omega), decide_eq_true (show (l.length : Int) ≤ ((l.length + 1 : Nat) : Int) by omega)]
  have et : (cst ++ z25).take (((l.length : Int).toNat - 0) * 25) = cst := by
    rw [Int.toNat_natCast, Nat.sub_zero, ← hlen, List.take_left]
  rw [et, Int.toNat_natCast, Nat.sub_zero]
  exact ⟨⟨p1, hcs, trivial⟩, hok c⟩
set_option maxRecDepth 100000 in
set_option maxHeartbeats 4000000 in
theorem loop21 (hl : ∀ x ∈ l, right x = true) (hn : l.length < 1000000000) {lp en : List Int} (hL : LpR l lp en) : ∀ (f i : Nat) (cst : List Value), l.length - i < f → i ≤ l.length → Cst l cst →
    (bif decide ((walkF l lp en f i cst).1 ≥ 0) then K1 [.slice none 0 0, I 0, I (walkF l lp en f i cst).1, I 11] (heapB G [some (.cells (insC l) rw)])
      else bif decide (fuI l > 4096) then K1 [.slice none 0 0, I 0, I 0, I 12] (heapB G [some (.cells (insC l) rw)])
      else K2 [SL (G + 1) l.length 25, I (fuI l), I 0, I 0] (heapB G [some (.cells (insC l) rw), some (.cells (walkF l lp en f i cst).2 true)])) →
    Sem21 w0 K1 K2 t21b (fr21b l.length (l.length + 1) i) (hA21 (insC l) rw (cst ++ z25)) := by
  intro f
  induction f with
  | zero => intro i cst h1; omega
  | succ f ih =>
    intro i cst h1 h2 h hK
    refine seg_semI3 (F := ft21) mixed (callsOf_ok ok21) leaf21 [10, 12, 19, 23, 27, 31, 33, 38, 40, 44] 20 400 ((head21 l.length (l.length + 1) rw (insC l) (cst ++ z25) i K1 K2 _).mpr ?_)
    have p1 := plain_insC l
    have pz := plainZ h.pl
    rw [walkF] at hK
    refine bifP (fun c0 => ?_) (fun c0 => ?_)
    · simp only [decide_eq_true_eq] at c0
      have hi : i < l.length := by omega
      obtain ⟨e1, ⟨e2, e3, e4, e5⟩, e6, e7, e8, e9⟩ := at_insC hi
      rw [decide_eq_true hi, cond_true] at hK
      obtain ⟨s1, s2⟩ := stepF_sts (lp := lp) (en := en) hl hi h.sts h.pl
      have s3 := stepF_spb (lp := lp) (en := en) hl hi h.sts h.sp
      have hbad : (stepF l lp en i cst).1 = false → K1 [.slice none 0 0, I 0, I i, I 11] (heapB G [some (.cells (insC l) rw)]) := fun e => by
        rw [e] at hK
        have q : decide ((i : Int) ≥ 0) = true := by simp
        simp only [Bool.not_false, cond_true] at hK
        rw [q] at hK
        exact hK
      have hgood : (stepF l lp en i cst).1 = true → Sem21 w0 K1 K2 t21b (fr21b l.length (l.length + 1) (i + 1 : Nat)) (hA21 (insC l) rw ((stepF l lp en i cst).2 ++ z25)) := fun e => by
        rw [e] at hK
        exact ih (i + 1) _ (by omega) (by omega) ⟨s1, s2, s3⟩ hK
      refine bN_ok hi ?_
      rw [e1]
      simp only [ox, e2, e3, e4, e5, Bool.and_self, cond_true]
      have hg := getD_in hi
      have x0 : ix (insC l) (i : Int) 0 = (l.getD i insD).op := by rw [← hg]; exact e6
      have x1 : ix (insC l) (i : Int) 1 = (l.getD i insD).d := by rw [← hg]; exact e7
      have x2 : ix (insC l) (i : Int) 2 = (l.getD i insD).s := by rw [← hg]; exact e8
      have x3 : ix (insC l) (i : Int) 3 = (l.getD i insD).imm := by rw [← hg]; exact e9
      have hsame := bad_same hL (i := i) (op := (l.getD i insD).op) (imm := (l.getD i insD).imm)
      have bad : badD l i (l.getD i insD).op (l.getD i insD).imm = true → (stepF l lp en i cst).1 = false := fun e => by
        unfold stepF
        rw [hsame, e]; rfl
      have p4 := plain_ins4 (l.getD i insD).op (l.getD i insD).d (l.getD i insD).s (l.getD i insD).imm
      have fine : badD l i (l.getD i insD).op (l.getD i insD).imm = false → Sem21 w0 K1 K2 t21d (fr21d l.length (l.length + 1) i (r44 (l.getD i insD).op)) (hB21 (insC l) rw (cst ++ z25) (l.getD i insD).op (l.getD i insD).d (l.getD i insD).s (l.getD i insD).imm) := fun e =>
        fine_sem hl hn hL hi h (by rw [hsame]; exact e) hbad hgood
      unfold nj21
      rw [x0, x1, x2, x3]
      unfold badD at bad fine
      have e44 : r44 (l.getD i insD).op = bif decide ((l.getD i insD).op ≥ 12) then decide ((l.getD i insD).op ≤ 16) else false := rfl
      refine bifP (fun c1 => ?_) (fun c1 => ?_)
      · rw [c1, cond_true] at e44
        refine bifP (fun c2 => ?_) (fun c2 => ?_)
        · rw [c2] at e44
          rw [e44] at bad fine
          simp only [cond_true] at bad fine
          refine bifP (fun c3 => ?_) (fun c3 => ?_)
          · rw [c3] at bad
            exact ⟨⟨p1, trivial⟩, hbad (bad rfl)⟩
          · rw [c3] at bad fine
            refine bifP (fun c4 => ?_) (fun c4 => ?_)
            · rw [c4] at bad
              exact ⟨⟨p1, trivial⟩, hbad (bad rfl)⟩
            · rw [c4] at bad fine
              rw [c2]
              exact ⟨⟨p1, pz, p4, trivial⟩, jump_sem hn h.pl (fun e => hbad (bad e)) fine⟩
        · rw [c2] at e44
          rw [e44] at fine
          rw [c2]
          exact ⟨⟨p1, pz, p4, trivial⟩, jumpf_sem h.pl (fine rfl)⟩
      · rw [c1, cond_false] at e44
        rw [e44] at fine
        exact ⟨⟨p1, pz, p4, trivial⟩, jumpf_sem h.pl (fine rfl)⟩
    · simp only [decide_eq_false_iff_not] at c0
      have hi : ¬ i < l.length := by omega
      rw [decide_eq_false hi, cond_false] at hK
      have hneg : decide ((-1 : Int) ≥ 0) = false := rfl
      simp only [] at hK
      rw [hneg, cond_false] at hK
      refine ⟨⟨p1, pz, trivial⟩, end_sem hn h.sts.len h.pl (fun c => ?_) (fun c => ?_)⟩
      · rw [c] at hK; exact hK
      · rw [c] at hK; exact hK
end

theorem putF_zero {l : List Ins} (h : ∀ x ∈ l, right x = true) : ∀ (f i : Nat), putF l f i = 0
  | 0, _ => rfl
  | f + 1, i => by
    rw [putF]
    by_cases hi : i < l.length
    · rw [decide_eq_true hi, cond_true, h _ (getD_mem hi), cond_true]
      exact putF_zero h f (i + 1)
    · rw [decide_eq_false hi]; rfl
theorem putF_one {l : List Ins} : ∀ (f i : Nat), l.length - i < f → (∃ q, i ≤ q ∧ q < l.length ∧ right (l.getD q insD) = false) → putF l f i = 1
  | 0, _, h, _ => by omega
  | f + 1, i, h, ⟨q, h1, h2, h3⟩ => by
    rw [putF, decide_eq_true (show i < l.length by omega), cond_true]
    cases c : right (l.getD i insD) with
    | false => rfl
    | true =>
      rw [cond_true]
      refine putF_one f (i + 1) (by omega) ⟨q, ?_, h2, h3⟩
      rcases Nat.lt_or_eq_of_le h1 with h | h
      · exact h
      · subst h; rw [h3] at c; cases c
theorem putN_zero {l : List Ins} (hn : l.length ≤ 128) (h : ∀ x ∈ l, right x = true) : putN l = 0 := by
  unfold putN
  rw [decide_eq_false (show ¬ (l.length : Int) > 128 by omega), cond_false, putF_zero h]
theorem putN_bad {l : List Ins} (h : 128 < l.length ∨ ∃ x ∈ l, right x = false) : putN l = putE l.length ∧ (putN l != 0) = true := by
  unfold putN putE
  by_cases hn : 128 < l.length
  · rw [decide_eq_true (show (l.length : Int) > 128 by omega), cond_true, if_pos hn]
    exact ⟨rfl, rfl⟩
  · rw [decide_eq_false (show ¬ (l.length : Int) > 128 by omega), cond_false, if_neg hn]
    obtain ⟨x, h1, h2⟩ := h.resolve_left hn
    obtain ⟨q, hq, rfl⟩ := List.getElem_of_mem h1
    rw [putF_one (l.length + 1) 0 (by omega) ⟨q, by omega, hq, by rw [← getD_in hq]; exact h2⟩]
    exact ⟨rfl, rfl⟩
theorem zst_one (n : Nat) : (List.replicate (n + 1) z25).flatten = zst n ++ z25 := by
  unfold zst
  rw [Int.toNat_natCast, List.replicate_succ', List.flatten_append]
  simp
theorem C3_st0 {n : Nat} (h : 0 < n) : C3 (zst n ++ z25) = st0 n ++ z25 := by
  have hl := zst_len n
  unfold C3 st0 setA
  have l1 : (splice (zst n) 0 [B true]).length = n * 25 := by rw [splice_len (by rw [hl]; simp; omega), hl]
  have l2 : (splice (splice (zst n) 0 [B true]) 2 [B true]).length = n * 25 := by rw [splice_len (by rw [l1]; simp; omega), l1]
  rw [spliceL (by rw [hl]; simp; omega), spliceL (by rw [l1]; simp; omega), spliceL (by rw [l2]; simp; omega)]
  rfl
theorem st0_sp {n : Nat} (h : 0 < n) : SpAll (st0 n) n := by
  have hz : ∀ k j, k < n → j < 25 → nth (zst n) (k * 25 + j) = nth z25 j := zst_nth n
  have hl := zst_len n
  have l1 : (splice (zst n) 0 [B true]).length = n * 25 := by rw [splice_len (by rw [hl]; simp; omega), hl]
  have l2 : (splice (splice (zst n) 0 [B true]) (0 + 1 + (1 : Int).toNat * 1) [B true]).length = n * 25 := by rw [splice_len (by rw [l1]; simp; omega), l1]
  have e : ∀ k r q, k < n → r < 8 → q < 2 → nth (st0 n) (k * 25 + 9 + r * 2 + q) = some (I 0) ∨ nth (st0 n) (k * 25 + 9 + r * 2 + q) = some (I 16) := by
    intro k r q hk hr hq
    have z : nth z25 (9 + r * 2 + q) = some (I 0) := by
      rcases r with _ | _ | _ | _ | _ | _ | _ | _ | r <;> first | (rcases q with _ | _ | q <;> first | rfl | (exfalso; omega)) | (exfalso; omega)
    unfold st0 setA
    by_cases c : k * 25 + 9 + r * 2 + q = 11
    · rw [c]
      exact .inl (nth_splice_in (k := 0) (by rw [l2]; simp; omega) (by simp))
    · by_cases c2 : k * 25 + 9 + r * 2 + q = 12
      · rw [c2]
        exact .inr (nth_splice_in (k := 1) (by rw [l2]; simp; omega) (by simp))
      · refine .inl ?_
        rw [nth_splice_out (by rw [l2]; simp; omega) (by simp; omega), nth_splice_out (by rw [l1]; simp; omega) (by simp; omega), nth_splice_out (by rw [hl]; simp; omega) (by simp; omega),
          show k * 25 + 9 + r * 2 + q = k * 25 + (9 + r * 2 + q) by omega, hz k _ hk (by omega), z]
  intro k hk r hr
  unfold loA hiA
  refine ⟨?_, ?_⟩
  · rcases e k r 0 hk hr (by omega) with h | h <;> rw [h] <;> decide
  · rcases e k r 1 hk hr (by omega) with h | h <;> rw [h] <;> decide
section
variable {K1 K2 : List Value → AHeap → Prop} {l : List Ins} {rw : Bool}
set_option maxRecDepth 100000 in
theorem sem21c (h : 128 < l.length ∨ ∃ x ∈ l, right x = false) (hK : K1 [.slice none 0 0, I 0, I 0, I (putE l.length)] (heapB G [some (.cells (insC l) rw)])) :
    Sem21 w0 K1 K2 [.code (Tryd.f21.body.getD .skip)] (startF Tryd.f21 [SL G l.length 4]) (heapB G [some (.cells (insC l) rw)]) := by
  refine seg_semI3 (F := ft21) mixed (callsOf_ok ok21) leaf21 [10, 12, 19, 23, 27, 31, 33, 38, 40, 44] 20 400 ((start21 l.length rw (insC l) K1 K2 _).mpr ?_)
  have p1 := plain_insC l
  obtain ⟨e1, e2⟩ := putN_bad h
  rw [unIns_insC, e2, e1]
  exact ⟨⟨⟨p1, trivial⟩, ⟨p1, trivial⟩, rfl, rfl⟩, ⟨p1, trivial⟩, hK⟩
set_option maxRecDepth 100000 in
set_option maxHeartbeats 4000000 in
theorem sem21 (hn : l.length ≤ 128) (hl : ∀ x ∈ l, right x = true)
    (hK : match badAt l with
      | some (i, e) => K1 [.slice none 0 0, I 0, I i, I e] (heapB G [some (.cells (insC l) rw)])
      | none => K2 [SL (G + 1) l.length 25, I (fu l), I 0, I 0] (heapB G [some (.cells (insC l) rw), some (.cells (wk l).2 true)])) :
    Sem21 w0 K1 K2 [.code (Tryd.f21.body.getD .skip)] (startF Tryd.f21 [SL G l.length 4]) (heapB G [some (.cells (insC l) rw)]) := by
  refine seg_semI3 (F := ft21) mixed (callsOf_ok ok21) leaf21 [10, 12, 19, 23, 27, 31, 33, 38, 40, 44] 20 400 ((start21 l.length rw (insC l) K1 K2 _).mpr ?_)
  have p1 := plain_insC l
  have ln : lnP (insC l) l.length True := by
    unfold lnP
    rw [unIns_insC]
    exact ⟨⟨p1, trivial⟩, ⟨p1, trivial⟩, rfl, rfl, by omega, trivial⟩
  rw [unIns_insC, putN_zero hn hl]
  refine ⟨⟨⟨p1, trivial⟩, ⟨p1, trivial⟩, rfl, rfl⟩, ?_⟩
  have e0 : ((0 : Int) != 0) = false := rfl
  rw [e0, cond_false]
  unfold badAt at hK
  refine bifP (fun c => ?_) (fun c => ?_)
  · rw [c] at hK
    exact ⟨⟨p1, trivial⟩, hK⟩
  · rw [c] at hK
    simp only [cond_false] at hK
    have h0 : 0 < l.length := by
      have := beq_eq_false_iff_ne.mp c
      omega
    have elop : lopI l = (lo0 l).1 := (lo0_lop l).symm
    rw [elop]
    refine ⟨ln, bifP (fun c1 => ?_) (fun c1 => ?_)⟩
    · rw [c1] at hK
      exact ⟨⟨p1, trivial⟩, hK⟩
    · rw [c1] at hK
      simp only [cond_false] at hK
      have hneg := lo0_neg (of_decide_eq_false c1)
      have hL := lo0_right hneg
      have hw : w ((l.length : Int) + 1) = ((l.length + 1 : Nat) : Int) := by rw [w_id (by omega) (by omega)]; omega
      rw [hw, decide_eq_true (show (0 : Int) ≤ ((l.length + 1 : Nat) : Int) by omega), decide_eq_true (Int.le_refl _), decide_eq_true (show ((l.length + 1 : Nat) : Int) ≤ 1099511627776 by omega), Int.toNat_natCast]
      have hr : room (l.length + 1) 144 = true := Nat.ble_eq_true_of_le (by omega)
      rw [hr, zst_one]
      refine ⟨⟨p1, plainZ (zst_plain _), trivial⟩, ?_⟩
      refine seg_semI3 (F := ft21) mixed (callsOf_ok ok21) leaf21 [10, 12, 19, 23, 27, 31, 33, 38, 40, 44] 20 400 ((mid21a l.length (l.length + 1) rw (insC l) (zst l.length ++ z25) K1 K2 _).mpr ?_)
      have hzl := zst_len l.length
      have hzl2 : (zst l.length ++ z25).length = l.length * 25 + 25 := by rw [List.length_append, hzl]; rfl
      have s1 : (splice (zst l.length ++ z25) 0 [B true]).length = l.length * 25 + 25 := by rw [splice_len (by rw [hzl2]; simp only [List.length_cons, List.length_nil]; omega), hzl2]
      have s2 : (splice (splice (zst l.length ++ z25) 0 [B true]) 2 [B true]).length = l.length * 25 + 25 := by rw [splice_len (by rw [s1]; simp only [List.length_cons, List.length_nil]; omega), s1]
      rw [decide_eq_true (show (0 : Int) < ((l.length + 1 : Nat) : Int) by omega), hzl2, s1, s2]
      have b1 : Nat.ble 1 (l.length * 25 + 25) = true := Nat.ble_eq_true_of_le (by omega)
      have b3 : Nat.ble 3 (l.length * 25 + 25) = true := Nat.ble_eq_true_of_le (by omega)
      have b13 : Nat.ble 13 (l.length * 25 + 25) = true := Nat.ble_eq_true_of_le (by omega)
      rw [b1, b3, b13, C3_st0 h0]
      refine ⟨⟨p1, plainZ (st0_plain _), trivial⟩, ?_⟩
      refine loop21 hl (by omega) hL (l.length + 1) 0 (st0 l.length) (by omega) (by omega) ⟨st0_sts h0, st0_plain _, st0_sp h0⟩ ?_
      have efu : fuI l = fu l := (fuel_same hL (l.length + 1) 0 0).symm
      rw [efu]
      have hK' : match (bif decide ((wk l).1 ≥ 0) then some ((wk l).1, (11 : Int)) else bif decide (fu l > 4096) then some (0, 12) else none) with
        | some (i, e) => K1 [.slice none 0 0, I 0, I i, I e] (heapB G [some (.cells (insC l) rw)])
        | none => K2 [SL (G + 1) l.length 25, I (fu l), I 0, I 0] (heapB G [some (.cells (insC l) rw), some (.cells (wk l).2 true)]) := hK
      refine bifP (fun c2 => ?_) (fun c2 => ?_)
      · have c2' : decide ((wk l).1 ≥ 0) = true := c2
        rw [c2'] at hK'
        exact hK'
      · have c2' : decide ((wk l).1 ≥ 0) = false := c2
        rw [c2'] at hK'
        simp only [cond_false] at hK'
        refine bifP (fun c3 => ?_) (fun c3 => ?_)
        · rw [c3] at hK'
          exact hK'
        · rw [c3] at hK'
          exact hK'
end
/-- A program that is right. -/
noncomputable def con21 : Con := { f := 21, gh := [⟨0, none, 4⟩], paths := [⟨0, [], true⟩], spec := fun args bs => chkS args bs (fun l => badAt l = none) (fun l => [SL (G + 1) l.length 25, I (fu l), I 0, I 0]) (fun l => [(true, some (.cells (wk l).2 true))]) }
/-- One that is wrong. -/
noncomputable def con21b : Con := { f := 21, gh := [⟨0, none, 4⟩], paths := [⟨0, [], true⟩], spec := fun args bs => chkS args bs (fun l => (badAt l).isSome = true) (fun l => [.slice none 0 0, I 0, I (ba l).1, I (ba l).2]) (fun _ => []) }
/-- One that may not be put. -/
noncomputable def con21c : Con := { f := 21, gh := [⟨0, none, 4⟩], paths := [⟨0, [], true⟩], spec := fun args bs => putS args bs (fun l n => 128 < n ∨ ∃ x ∈ l, right x = false) fun n => [.slice none 0 0, I 0, I 0, I (putE n)] }
theorem post21_1 {K : List Value → AHeap → Prop} {rs : List Value} {h : AHeap} (e : post21 K (fun _ _ => False) rs h) : retT G nt1 K rs h := by
  unfold post21 at e
  split at e
  · exact e
  · exact absurd e (retT_false fun _ _ h => h)
  · exact e.elim
theorem post21_2 {K : List Value → AHeap → Prop} {rs : List Value} {h : AHeap} (e : post21 (fun _ _ => False) K rs h) : retT G nt21o K rs h := by
  unfold post21 at e
  split at e
  · exact absurd e (retT_false fun _ _ h => h)
  · exact e
  · exact e.elim
set_option maxRecDepth 100000 in
theorem con21_ok : con21.ok Tryd.prog w0 := by
  intro args bs p rs out e hp
  simp only [con21] at e
  obtain ⟨l, rw, rfl, rfl, hn, hl, hb, rfl, rfl⟩ := chkS_some e hp
  have hh : (heapB Tryd.prog.globals.size [some (.cells (insC l) rw)]).next = Tryd.prog.globals.size + nt21o.flags.length := by rw [heapB_next]; rfl
  change CallS Tryd.prog w0 21 [SL G l.length 4] (heapB Tryd.prog.globals.size [some (.cells (insC l) rw)]) fun rs' h' => rs' = [SL (G + 1) l.length 25, I (fu l), I 0, I 0] ∧ h' = heapB Tryd.prog.globals.size [some (.cells (insC l) rw), some (.cells (wk l).2 true)]
  refine retT_call (nt := nt21o) hh (CallS.mono (Q := post21 (fun _ _ => False) fun rs' h' => rs' = [SL (G + 1) l.length 25, I (fu l), I 0, I 0] ∧ h' = heapB Tryd.prog.globals.size [some (.cells (insC l) rw), some (.cells (wk l).2 true)]) (fun rs h e => post21_2 e) (call_sem (cd := Tryd.f21.body.getD .skip) Tryd.func21 (by kernel_rfl) ?_))
  rw [hh]
  refine sem21 hn hl ?_
  rw [hb]
  exact ⟨rfl, rfl⟩
set_option maxRecDepth 100000 in
theorem con21b_ok : con21b.ok Tryd.prog w0 := by
  intro args bs p rs out e hp
  simp only [con21b] at e
  obtain ⟨l, rw, rfl, rfl, hn, hl, hb, rfl, rfl⟩ := chkS_some e hp
  have hh : (heapB Tryd.prog.globals.size [some (.cells (insC l) rw)]).next = Tryd.prog.globals.size + nt1.flags.length := by rw [heapB_next]; rfl
  change CallS Tryd.prog w0 21 [SL G l.length 4] (heapB Tryd.prog.globals.size [some (.cells (insC l) rw)]) fun rs' h' => rs' = [.slice none 0 0, I 0, I (ba l).1, I (ba l).2] ∧ h' = heapB Tryd.prog.globals.size [some (.cells (insC l) rw)]
  refine retT_call (nt := nt1) hh (CallS.mono (Q := post21 (fun rs' h' => rs' = [.slice none 0 0, I 0, I (ba l).1, I (ba l).2] ∧ h' = heapB Tryd.prog.globals.size [some (.cells (insC l) rw)]) fun _ _ => False) (fun rs h e => post21_1 e) (call_sem (cd := Tryd.f21.body.getD .skip) Tryd.func21 (by kernel_rfl) ?_))
  rw [hh]
  refine sem21 hn hl ?_
  unfold ba
  cases hq : badAt l with
  | none => rw [hq] at hb; simp at hb
  | some p => exact ⟨rfl, rfl⟩
set_option maxRecDepth 100000 in
theorem con21c_ok : con21c.ok Tryd.prog w0 := by
  intro args bs p rs out e hp
  simp only [con21c] at e
  obtain ⟨l, rw, rfl, rfl, hb, rfl, rfl⟩ := putS_some e hp
  have hh : (heapB Tryd.prog.globals.size [some (.cells (insC l) rw)]).next = Tryd.prog.globals.size + nt1.flags.length := by rw [heapB_next]; rfl
  change CallS Tryd.prog w0 21 [SL G l.length 4] (heapB Tryd.prog.globals.size [some (.cells (insC l) rw)]) fun rs' h' => rs' = [.slice none 0 0, I 0, I 0, I (putE l.length)] ∧ h' = heapB Tryd.prog.globals.size [some (.cells (insC l) rw)]
  refine retT_call (nt := nt1) hh (CallS.mono (Q := post21 (fun rs' h' => rs' = [.slice none 0 0, I 0, I 0, I (putE l.length)] ∧ h' = heapB Tryd.prog.globals.size [some (.cells (insC l) rw)]) fun _ _ => False) (fun rs h e => post21_1 e) (call_sem (cd := Tryd.f21.body.getD .skip) Tryd.func21 (by kernel_rfl) ?_))
  rw [hh]
  exact sem21c hb ⟨rfl, rfl⟩
end Go.Proofs.YtadaindmgmielaaDoor
