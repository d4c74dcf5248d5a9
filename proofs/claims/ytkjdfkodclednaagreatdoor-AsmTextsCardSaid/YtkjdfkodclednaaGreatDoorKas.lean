/- errors.As at a number of an error, by its text. No condition. -/
import Derived.Test.YtkjdfkodclednaaGreatDoorRows
import Derived.WalkKit
import Derived.LaidEql
import Derived.Stop.Asserts
import Derived.RowKitTokens
namespace Go.Proofs.YtkjdfkodclednaaGreatDoor
open Go.RowKit Go.Extern.Stop Go.Stop Go.Extern

/-- errors.As(nil, target). -/
theorem as_nil (t : Value) (w : World) :
    Calls Tryz.prog 61 #[.nilIface, t] w fun e w' => e = .returned (.bool false) ∧ w' = w := by
  go_enter Tryz.func61, Tryz.ntmps61
  go_wp2
  go_ret
  exact ⟨rfl, rfl⟩

/-! ### CLOSED FACTS ON THE MODEL's ENTRIES FOR internal/reflectlite, at this program's types: 25: *p.E · 27: **p.E · 23: error · 45: reflectlite's rtype · 1: how many package-level variables the dump has -/
theorem AsK.valueOf27 (t : Addr) (w : World) : (ReflectliteValue.unpack (.iface 137 (.pointer (some t)))).run Tryz.prog w
    = .ok (.agg #[.pointer (some ⟨11, 137, none⟩), .pointer (some ⟨w.heap.size, 0, none⟩), .int .u64 150]) (w.alloc (.cells #[.pointer (some t)] 137)) := by kernel_rfl
theorem AsK.type27 (a : Addr) (w : World) : (ReflectliteValue.methodAny (ReflectliteValue.valueError "reflectlite.Value.Type" 0) (fun t _ _ _ => ReflectliteType.toType t) #[.agg #[.pointer (some ⟨11, 137, none⟩), .pointer (some a), .int .u64 150]]).run Tryz.prog w
    = .ok (.iface 201 (.agg #[.pointer (some ⟨11, 137, none⟩)])) w := by kernel_rfl
theorem AsK.methodKind (h : Value) (w : World) : (Go.method 386 201 (.agg #[h]) "Kind").run Tryz.prog w = .ok (196, h) w := by kernel_rfl
theorem AsK.kind27 (w : World) : ((ReflectliteType.abiMethod fun t => (fun a : Nat => Value.int IntKind.u8 (a : Int)) <$> Rtype.kind t) #[.pointer (some ⟨11, 137, none⟩)]).run Tryz.prog w = .ok (.int .u8 22) w := by kernel_rfl
theorem AsK.kind25 (w : World) : ((ReflectliteType.abiMethod fun t => (fun a : Nat => Value.int IntKind.u8 (a : Int)) <$> Rtype.kind t) #[.pointer (some ⟨11, 74, none⟩)]).run Tryz.prog w = .ok (.int .u8 2) w := by kernel_rfl

/-! ### THE ENTRIES THAT READ OR WRITE MEMORY: laws with a premise on the cell (after Derived/Lib/ReflectliteSlice.lean's manner: each unfolding a lemma of its own, by rfl) -/
theorem rlm (z : Sem Value) (f : TypeId → Addr → Nat → Nat → Sem Value) (v : Value) :
    ReflectliteValue.method z f #[v] = (do match ← ReflectliteValue.parts v with | none => z | some (t, a, fl) => f t a fl (fl % 32)) := rfl
theorem AsK.parts27 (a : Addr) (w : World) : (ReflectliteValue.parts (.agg #[.pointer (some ⟨11, 137, none⟩), .pointer (some a), .int .u64 150])).run Tryz.prog w = .ok (some (137, a, 150)) w := by kernel_rfl
/-- (Value).IsNil at the Value of a **p.E that is not nil. -/
theorem AsK.isNil27 (a p : Addr) (W : World) (ha : W.cell? a = some (.pointer (some p))) :
    (ReflectliteValue.method (ReflectliteValue.valueError "reflectlite.Value.IsNil" 0) ReflectliteValue.isNil #[.agg #[.pointer (some ⟨11, 137, none⟩), .pointer (some a), .int .u64 150]]).run Tryz.prog W = .ok (.bool false) W := by
  rw [rlm]
  simp only [Sem.run_bind, AsK.parts27, Result.andThen]
  simp [ReflectliteValue.isNil, loadVar, isAgg, underlying, (show Tryz.prog.underlying 137 = some (.pointer 74) by kernel_rfl), ha, Result.andThen]

theorem AsK.methodElem (h : Value) (w : World) : (Go.method 386 201 (.agg #[h]) "Elem").run Tryz.prog w = .ok (208, .agg #[h]) w := by kernel_rfl
theorem AsK.methodImplements (h : Value) (w : World) : (Go.method 386 201 (.agg #[h]) "Implements").run Tryz.prog w = .ok (209, .agg #[h]) w := by kernel_rfl
theorem AsK.methodAssignableTo (h : Value) (w : World) : (Go.method 386 201 (.agg #[h]) "AssignableTo").run Tryz.prog w = .ok (206, .agg #[h]) w := by kernel_rfl
theorem AsK.elem27 (w : World) : (ReflectliteType.method ReflectliteType.elem #[.agg #[.pointer (some ⟨11, 137, none⟩)]]).run Tryz.prog w = .ok (.iface 201 (.agg #[.pointer (some ⟨11, 74, none⟩)])) w := by kernel_rfl
theorem AsK.implements25 (w : World) : (ReflectliteType.relation "Implements" ReflectliteType.implements_ #[.agg #[.pointer (some ⟨11, 74, none⟩)], .iface 201 (.agg #[.pointer (some ⟨11, 31, none⟩)])]).run Tryz.prog w = .ok (.bool true) w := by kernel_rfl
theorem AsK.typeOf25 (v : Value) (w : World) : (ReflectliteType.typeOf #[.iface 74 v]).run Tryz.prog w = .ok (.iface 201 (.agg #[.pointer (some ⟨11, 74, none⟩)])) w := by kernel_rfl
theorem AsK.assignable25 (w : World) : (ReflectliteType.relation "AssignableTo" ReflectliteType.assignableTo #[.agg #[.pointer (some ⟨11, 74, none⟩)], .iface 201 (.agg #[.pointer (some ⟨11, 74, none⟩)])]).run Tryz.prog w = .ok (.bool true) w := by kernel_rfl
theorem AsK.valueOf25 (e : Int) (w : World) : (ReflectliteValue.unpack (.iface 74 (.int .i64 e))).run Tryz.prog w
    = .ok (.agg #[.pointer (some ⟨11, 74, none⟩), .pointer (some ⟨w.heap.size, 0, none⟩), .int .u64 130]) (w.alloc (.cells #[.int .i64 e] 74)) := by kernel_rfl

theorem AsK.elemOf27 (w : World) : (Rtype.elem? 137).run Tryz.prog w = .ok (some 74) w := by kernel_rfl
theorem AsK.mk25 (p : Addr) (w : World) : (ReflectliteValue.mk 74 p ReflectliteValue.flagAddr).run Tryz.prog w = .ok (.agg #[.pointer (some ⟨11, 74, none⟩), .pointer (some p), .int .u64 386]) w := by kernel_rfl
/-- (Value).Elem at the Value of a **p.E that is not nil: the Value of the *p.E variable that it points to, addressable. -/
theorem AsK.elemV27 (a p : Addr) (W : World) (ha : W.cell? a = some (.pointer (some p))) :
    (ReflectliteValue.method (ReflectliteValue.valueError "reflectlite.Value.Elem" 0) ReflectliteValue.elem #[.agg #[.pointer (some ⟨11, 137, none⟩), .pointer (some a), .int .u64 150]]).run Tryz.prog W
      = .ok (.agg #[.pointer (some ⟨11, 74, none⟩), .pointer (some p), .int .u64 386]) W := by
  rw [rlm]
  simp only [Sem.run_bind, AsK.parts27, Result.andThen]
  simp [ReflectliteValue.elem, loadVar, isAgg, underlying, (show Tryz.prog.underlying 137 = some (.pointer 74) by kernel_rfl), ha, Result.andThen, AsK.elemOf27, AsK.mk25]
theorem rls (v x : Value) : ReflectliteValue.set #[v, x] = (do
    let (some (dst, a, fl), some (src, b, _)) := (← ReflectliteValue.parts v, ← ReflectliteValue.parts x)
      | unsupported (.noEntry "extern/(internal/reflectlite.Value).Set.zeroValue")
    if fl / ReflectliteValue.flagAddr % 2 == 0 then unsupported (.noEntry "extern/(internal/reflectlite.Value).Set.unaddressable")
    let val ← loadVar src b
    if ← Rtype.directlyAssignable dst src then storeVar dst a val
    else if ← Rtype.implements dst src then
      if (← Rtype.kind src) == 20 then
        match val with
        | .nilIface => unsupported (.noEntry "extern/reflectlite: a nil value of one interface type handed on as a value of another")
        | _ => storeVar dst a val
      else storeVar dst a (.iface src val)
    else panicString ("reflectlite.Set: value of type " ++ (← Rtype.spelt src) ++ " is not assignable to type " ++ (← Rtype.spelt dst))
    pure (.tuple #[])) := rfl
theorem AsK.parts25a (a : Addr) (w : World) : (ReflectliteValue.parts (.agg #[.pointer (some ⟨11, 74, none⟩), .pointer (some a), .int .u64 386])).run Tryz.prog w = .ok (some (74, a, 386)) w := by kernel_rfl
theorem AsK.parts25 (a : Addr) (w : World) : (ReflectliteValue.parts (.agg #[.pointer (some ⟨11, 74, none⟩), .pointer (some a), .int .u64 130])).run Tryz.prog w = .ok (some (74, a, 130)) w := by kernel_rfl
theorem AsK.direct25 (w : World) : (Rtype.directlyAssignable 74 74).run Tryz.prog w = .ok true w := by kernel_rfl
theorem AsK.size25 (w : World) : (sizeOf 74).run Tryz.prog w = .ok 1 w := by kernel_rfl
/-- (Value).Set: the *p.E variable at 'ta' gets what the Value's own variable 'b' holds. -/
theorem AsK.set25 (ta b : Addr) (e : Int) (old : Value) (W : World) (hb : W.cell? b = some (.int .i64 e)) (ht : W.cell? ta = some old) (hf : W.frozen? ta = false) :
    (ReflectliteValue.set #[.agg #[.pointer (some ⟨11, 74, none⟩), .pointer (some ta), .int .u64 386], .agg #[.pointer (some ⟨11, 74, none⟩), .pointer (some b), .int .u64 130]]).run Tryz.prog W
      = .ok (.tuple #[]) (W.setCell ta (.int .i64 e)) := by
  rw [rls]
  simp only [Sem.run_bind, AsK.parts25a, AsK.parts25, Result.andThen]
  simp [ReflectliteValue.flagAddr, loadVar, isAgg, underlying, (show Tryz.prog.underlying 74 = some (.int .i64) by kernel_rfl), hb, Result.andThen, AsK.direct25, storeVar, Value.cells, storeCells, Addr.add]
  rw [run_store Tryz.prog W ta _ _ (by rfl)]
  simp [ht, hf]

set_option maxHeartbeats 4000000 in
set_option maxRecDepth 100000 in
theorem as_hit (e : Int) (t : Addr) (old : Value) (w : World) (hg : w.cell? ⟨1, 0, none⟩ = some (.iface 201 (.agg #[.pointer (some ⟨11, 31, none⟩)]))) (ht0 : w.cell? t = some old) (hf0 : w.frozen? t = false) :
    Calls Tryz.prog 61 #[.iface 74 (.int .i64 e), .iface 137 (.pointer (some t))] w fun ev w' => ev = .returned (.bool true) ∧ w' = ((((w.alloc (.cells #[.pointer (some t)] 137)).alloc (.cells #[.pointer (some ⟨11, 137, none⟩), .pointer (some ⟨w.heap.size, 0, none⟩), .int .u64 150] 167)).alloc (.cells #[.pointer (some ⟨11, 137, none⟩), .pointer (some ⟨w.heap.size, 0, none⟩), .int .u64 150] 167)).alloc (.cells #[.int .i64 e] 74)).setCell t (.int .i64 e) := by
  have h6 := @run_callFunc_extern Tryz.prog 93 _ (fun args => ReflectliteValue.unpack (args.getD 0 (.tuple #[]))) Tryz.func93 (by kernel_rfl) (by kernel_rfl) (by kernel_rfl) (by kernel_rfl)
  have h7 := @run_callFunc_extern Tryz.prog 94 _ (ReflectliteValue.methodAny (ReflectliteValue.valueError "reflectlite.Value.Type" 0) (fun t _ _ _ => ReflectliteType.toType t)) Tryz.func94 (by kernel_rfl) (by kernel_rfl) (by kernel_rfl) (by kernel_rfl)
  have h8 := @run_callFunc_extern Tryz.prog 95 _ (ReflectliteValue.method (ReflectliteValue.valueError "reflectlite.Value.IsNil" 0) ReflectliteValue.isNil) Tryz.func95 (by kernel_rfl) (by kernel_rfl) (by kernel_rfl) (by kernel_rfl)
  have h27 := @run_callFunc_extern Tryz.prog 196 _ (ReflectliteType.abiMethod fun t => do pure (.int .u8 (← Rtype.kind t))) Tryz.func196 (by kernel_rfl) (by kernel_rfl) (by kernel_rfl) (by kernel_rfl)
  have h37 := @run_callFunc_extern Tryz.prog 208 _ (ReflectliteType.method ReflectliteType.elem) Tryz.func208 (by kernel_rfl) (by kernel_rfl) (by kernel_rfl) (by kernel_rfl)
  have h38 := @run_callFunc_extern Tryz.prog 209 _ (ReflectliteType.relation "Implements" ReflectliteType.implements_) Tryz.func209 (by kernel_rfl) (by kernel_rfl) (by kernel_rfl) (by kernel_rfl)
  have h10 := @run_callFunc_extern Tryz.prog 128 _ ReflectliteType.typeOf Tryz.func128 (by kernel_rfl) (by kernel_rfl) (by kernel_rfl) (by kernel_rfl)
  have h35 := @run_callFunc_extern Tryz.prog 206 _ (ReflectliteType.relation "AssignableTo" ReflectliteType.assignableTo) Tryz.func206 (by kernel_rfl) (by kernel_rfl) (by kernel_rfl) (by kernel_rfl)
  have h11 := @run_callFunc_extern Tryz.prog 129 _ (ReflectliteValue.method (ReflectliteValue.valueError "reflectlite.Value.Elem" 0) ReflectliteValue.elem) Tryz.func129 (by kernel_rfl) (by kernel_rfl) (by kernel_rfl) (by kernel_rfl)
  have h12 := @run_callFunc_extern Tryz.prog 130 _ ReflectliteValue.set Tryz.func130 (by kernel_rfl) (by kernel_rfl) (by kernel_rfl) (by kernel_rfl)
  have tO := AsK.typeOf25
  have mA := AsK.methodAssignableTo
  have a25 := AsK.assignable25
  have v25 := AsK.valueOf25
  have f6 := AsK.valueOf27
  have f7 := AsK.type27
  have mK := AsK.methodKind
  have mE := AsK.methodElem
  have mI := AsK.methodImplements
  have k27 := AsK.kind27
  have k25 := AsK.kind25
  have e27 := AsK.elem27
  have i25 := AsK.implements25
  have n8 := AsK.isNil27 ⟨w.heap.size, 0, none⟩ t ((w.alloc (.cells #[.pointer (some t)] 137)).alloc (.cells #[.pointer (some ⟨11, 137, none⟩), .pointer (some ⟨w.heap.size, 0, none⟩), .int .u64 150] 167)) (by simp)
  have hlt : 1 < w.heap.size := World.block_lt_of_cell? w ⟨1, 0, none⟩ hg
  have hg2 : ((w.alloc (.cells #[.pointer (some t)] 137)).alloc (.cells #[.pointer (some ⟨11, 137, none⟩), .pointer (some ⟨w.heap.size, 0, none⟩), .int .u64 150] 167)).cell? ⟨1, 0, none⟩ = some (.iface 201 (.agg #[.pointer (some ⟨11, 31, none⟩)])) := by
    rw [World.cell?_alloc_lt _ _ ⟨1, 0, none⟩ (by simp; omega), World.cell?_alloc_lt _ _ ⟨1, 0, none⟩ hlt]; exact hg
  have htl : t.block < w.heap.size := by
    rcases Nat.lt_or_ge t.block w.heap.size with h | h
    · exact h
    · simp [World.cell?, Array.getElem?_eq_none h] at ht0
  have el := AsK.elemV27 ⟨w.heap.size, 0, none⟩ t (((w.alloc (.cells #[.pointer (some t)] 137)).alloc (.cells #[.pointer (some ⟨11, 137, none⟩), .pointer (some ⟨w.heap.size, 0, none⟩), .int .u64 150] 167)).alloc (.cells #[.pointer (some ⟨11, 137, none⟩), .pointer (some ⟨w.heap.size, 0, none⟩), .int .u64 150] 167)) (by rw [World.cell?_alloc_lt _ _ ⟨w.heap.size, 0, none⟩ (by simp; omega)]; simp)
  have st := AsK.set25 t ⟨w.heap.size + 1 + 1 + 1, 0, none⟩ e old ((((w.alloc (.cells #[.pointer (some t)] 137)).alloc (.cells #[.pointer (some ⟨11, 137, none⟩), .pointer (some ⟨w.heap.size, 0, none⟩), .int .u64 150] 167)).alloc (.cells #[.pointer (some ⟨11, 137, none⟩), .pointer (some ⟨w.heap.size, 0, none⟩), .int .u64 150] 167)).alloc (.cells #[.int .i64 e] 74))
    (by rw [World.cell?_alloc_at _ _ _ _ (by simp)]; rfl)
    (by rw [World.cell?_alloc_lt _ _ t (by simp; omega), World.cell?_alloc_lt _ _ t (by simp; omega), World.cell?_alloc_lt _ _ t (by simp; omega), World.cell?_alloc_lt _ _ t htl]; exact ht0)
    (by rw [World.frozen?_alloc_old _ _ t (by simp; omega), World.frozen?_alloc_old _ _ t (by simp; omega), World.frozen?_alloc_old _ _ t (by simp; omega), World.frozen?_alloc_old _ _ t (Nat.ne_of_lt htl)]; exact hf0)
  go_enter Tryz.func61, Tryz.ntmps61
  go_wp2
  refine wp_loop_rounds 1 ?_
  rw [rounds_succ]
  go_wp2
  go_ret
  exact ⟨rfl, rfl⟩
end Go.Proofs.YtkjdfkodclednaaGreatDoor
