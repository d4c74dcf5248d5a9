/- An abstract machine for one goroutine: each operation stands for the model's. No condition. -/
import Derived.Test.YtkjdfkodclednaaDoorA16c
import Derived.IntWalk
import Derived.Laws.Externs
namespace Go.Agm

variable {P : Program} {w0 : World} {m : MapN} {E : Nat → Prop} {fr : List AV} {h : AHeap} {a : Act} {w : World} {next : Act → World → Prop} {Q : Exit → Act → World → Prop} {r : Res} {c : Calls1} {loc : Nat → Bool}

theorem move_sound {o : Oper} {k : AV → AHeap → Option Res} (hr : Rel P w0 m E fr h a w) (hn : Nx P w0 m E w fr o k r next) {x : Operand}
    (e : (match opA P fr x with
    | .v y => k (.v y) h
    | .tup ys => k (.tup ys) h
    | .blk _ => match x with
      | .tmp t => k (.ref t 0) h
      | _ => (optM c).fail
    | .ref s off => k (.ref s off) h
    | .dead => (optM c).fail) = some r) (hrun : (execOp a.eval o).run P w = .ok (.value (a.eval x)) w) : o.wp P a w next Q := by
  split at e
  · rename_i y hy
    exact hr.value hn hrun (hr.eval hy) e
  · rename_i ys hy
    obtain ⟨t, rfl, ht⟩ := opA_tmp hy (by simp) (by simp)
    exact wp_value hrun (hn _ _ _ _ (Step.of (hr.put (x := .tup ys) (hr.fr.slot t _ (getF_some ht (by simp))) (by simp)) (Keep.refl E w)) e)
  · rename_i cs hy
    split at e
    · rename_i t
      obtain ⟨B, C, el, fz, h1, _⟩ := hr.fr.blk hy
      refine wp_value hrun (hn _ _ _ _ (Step.of (hr.put (x := .ref t 0) ?_ (by simp)) (Keep.refl E w)) e)
      intro cs' _
      exact ⟨B, h1, h1⟩
    · exact no_fail e
  · rename_i s off hy
    obtain ⟨t, rfl, ht⟩ := opA_tmp hy (by simp) (by simp)
    refine wp_value hrun (hn _ _ _ _ (Step.of (hr.put (x := .ref s off) ?_ (by simp)) (Keep.refl E w)) e)
    exact hr.fr.slot t _ (getF_some ht (by simp))
  · exact no_fail e

theorem nil_run {x : Operand} {o : Oper} (ho : o.op = .nilCheck x) {y : Value} (hy : a.eval x = y) (h1 : y ≠ .pointer none) (h2 : y ≠ .nilIface) (h3 : y ≠ .nilFunc) (h4 : ∀ nm f g, y ≠ .func (.method nm) f g) : (execOp a.eval o).run P w = .ok (.value y) w := by
  simp only [execOp, ho, hy]
  rfl

theorem head_map {lo : Option Operand} {l : List Value} (hr : Rel P w0 m E fr h a w) (hl : valsA P fr lo.toList = some l) :
    (∀ u, l.head? = some u → ∃ y, lo.map a.eval = some y ∧ V m (szB w) u y) ∧ (l.head? = none → lo.map a.eval = none) := by
  have := hr.vals hl
  cases lo with
  | none =>
    simp only [Option.toList_none, List.map_nil] at this
    cases this
    exact ⟨by simp, fun _ => rfl⟩
  | some x =>
    simp only [Option.toList_some, List.map_cons, List.map_nil] at this
    cases this with
    | cons hv ht =>
      refine ⟨fun u hu => ⟨a.eval x, rfl, ?_⟩, by simp⟩
      simp only [List.head?_cons, Option.some.injEq] at hu
      rw [← hu]; exact hv

theorem zero_map (zs : Array Value) (n : Nat) : ((Array.range (n * zs.size)).map fun i => zs[i % zs.size]!) = (List.replicate n zs.toList).flatten.toArray := by
  rw [← Array.toList_inj, zero_rows]

theorem run_places {fs : Array Field} (hp : ∀ f ∈ fs.toList, (sizeT P f.type).isSome = true) (w : World) :
    (fs.mapM (fun f => do pure (f.offset, ← sizeOf f.type) : Field → Sem (Nat × Nat))).run P w = .ok (fs.map fun f => (f.offset, (sizeT P f.type).getD 0)) w := by
  have key : ∀ l : List Field, (∀ f ∈ l, (sizeT P f.type).isSome = true) → (l.mapM (fun f => do pure (f.offset, ← sizeOf f.type) : Field → Sem (Nat × Nat))).run P w = .ok (l.map fun f => (f.offset, (sizeT P f.type).getD 0)) w := by
    intro l
    induction l with
    | nil => intro _; simp
    | cons f l ih =>
      intro hl
      obtain ⟨n, hn⟩ := Option.isSome_iff_exists.1 (hl f (by simp))
      have ih' := ih fun g hg => hl g (by simp [hg])
      simp only [List.mapM_cons, Sem.run_bind, run_size hn, Result.andThen_ok, Sem.run_pure]
      rw [ih']
      simp [hn]
  rw [Array.mapM_eq_mapM_toList]
  simp only [Sem.run_map, key fs.toList hp, Result.andThen_ok]
  congr 1
  apply Array.ext'
  simp

theorem build_run {t : TypeId} {is : List Nat} {xs xs' : List Value} {y : Value} {S : Nat → Nat} (hl : is.length = xs.length) (hx : VL m S xs xs') (e : buildA P t (is.zip xs) = some y) (w : World) :
    ∃ y', (Instr.build t (is.zip xs').toArray).run P w = .ok y' w ∧ V m S y y' := by
  unfold buildA at e
  cases hp : partsT P t with
  | false => rw [hp] at e; simp at e
  | true =>
    rw [hp, cond_true] at e
    simp only [Option.bind_eq_some_iff, Option.some.injEq] at e
    obtain ⟨z, hz, cs, hcs, rfl⟩ := e
    obtain ⟨zv, hz1, hz2, hz3, hz4⟩ := zeroT_some hz
    obtain ⟨z', h1, h2, h3, _⟩ := fillA_run (S := S) (m := m) rfl hl hx (VL.of_plain 2 hz3) hz4 hcs
    refine ⟨.agg z', ?_, .agg (by simpa using h2) (by simpa using h3)⟩
    have hza : zv.cells = z.toArray := by rw [hz2]
    unfold partsT at hp
    split at hp
    · rename_i fs hu
      have hpl := run_places (P := P) (fs := fs) (fun f hf => (List.all_eq_true.1 hp) f hf) w
      have hplace : (fun i => (fs.map fun f => (f.offset, (sizeT P f.type).getD 0))[i]?) = placeT P t := by
        funext i
        simp only [placeT, hu, Array.getElem?_map]
        cases hf : fs[i]? with
        | none => rfl
        | some f =>
          have hmem : f ∈ fs.toList := by have := Array.mem_of_getElem? hf; simpa using this
          obtain ⟨n, hn⟩ := Option.isSome_iff_exists.1 ((List.all_eq_true.1 hp) f hmem)
          simp [hn]
      simp only [Instr.build, Sem.run_bind, run_zero hz1, Result.andThen_ok, run_underlying' hu, hpl, hza]
      rw [hplace, h1]
      rfl
    · rename_i n el hu
      obtain ⟨sz, hsz⟩ := Option.isSome_iff_exists.1 hp
      have hplace : (fun i => some (i * sz, sz)) = placeT P t := by
        funext i
        simp [placeT, hu, hsz]
      simp only [Instr.build, Sem.run_bind, run_zero hz1, Result.andThen_ok, run_underlying' hu, run_size hsz, hza]
      rw [hplace, h1]
      rfl
    · simp at hp

theorem wrap_small {n : Int} (h0 : 0 ≤ n) (h1 : n ≤ 1099511627776) : IntKind.i64.wrap n = n := IntWalk.i64_in n (by omega)

theorem run_makeSlice {t el : TypeId} {l cc : Int} {k1 k2 : IntKind} {bytes size : Nat} {zv : Value} (hu : P.underlying t = some (.slice el)) (hb : bytesT P el = some bytes) (hs : sizeT P el = some size) (hz : (P.info? el).bind (·.zero) = some zv)
    (h0 : 0 ≤ l) (h1 : l ≤ cc) (h2 : cc ≤ 1099511627776) (hr : room cc.toNat bytes = true) (hsz : zv.cells.size = size) (hp : 0 < size) (w : World) :
    (Instr.makeSlice t (.int k1 l) (.int k2 cc)).run P w = .ok (.slice (some ⟨w.heap.size, 0, none⟩) l.toNat cc.toNat) { w with heap := w.heap.push (.cells (List.replicate cc.toNat zv.cells.toList).flatten.toArray el) } := by
  obtain ⟨i, hi, hib⟩ : ∃ i, P.info? el = some i ∧ i.bytes = bytes := by
    unfold bytesT at hb
    cases hi : P.info? el with
    | none => rw [hi] at hb; simp at hb
    | some i => rw [hi] at hb; exact ⟨i, rfl, by simpa using hb⟩
  have hroom := room_le hr
  have hwl := wrap_small h0 (by omega)
  have hwc := wrap_small (n := cc) (by omega) h2
  have hbi : (i.bytes : Int) * cc ≤ 1099511627776 := by
    rw [hib]
    have : ((cc.toNat * bytes : Nat) : Int) ≤ ((1099511627776 : Nat) : Int) := Int.ofNat_le.2 hroom
    rw [Int.natCast_mul, Int.toNat_of_nonneg (by omega), Int.mul_comm] at this
    exact this
  have hn1 : ¬ (281474976710656 < (i.bytes : Int) * cc) := by omega
  have hn2 : ¬ cc < 0 := by omega
  have hn3 : ¬ l < 0 := by omega
  have hn4 : ¬ cc < l := by omega
  have hask : ¬ (roomBytes < cc.toNat * i.bytes) := by rw [hib]; simp only [roomBytes]; omega
  have hmap : ((Array.range (cc.toNat * size)).map (zv.cells[· % zv.cells.size]!)) = (List.replicate cc.toNat zv.cells.toList).flatten.toArray := by rw [← hsz, zero_map]
  by_cases hc0 : cc.toNat * size = 0
  · have hc1 : cc.toNat = 0 := by
      rcases Nat.mul_eq_zero.1 hc0 with hh | hh <;> omega
    have hl1 : l.toNat = 0 := by omega
    simp [Instr.makeSlice, run_underlying' hu, asInt, asIntOf, run_info hi, hwl, hwc, hn1, hn2, hn3, hn4, askRoom, run_size hs, newRow, newObj, Sem.run, hc1, hl1]
    congr 2
    apply Array.ext'; simp
  · simp [Instr.makeSlice, run_underlying' hu, asInt, asIntOf, run_info hi, hwl, hwc, hn1, hn2, hn3, hn4, askRoom, run_size hs, hc0, run_zero hz, hmap, newRow, newObj, Sem.run]

theorem zip_parts (parts : Array (Nat × Operand)) (f : Operand → Value) : (parts.map fun (i, x) => (i, f x)) = ((parts.toList.map (·.1)).zip ((parts.toList.map (·.2)).map f)).toArray := by
  apply Array.ext'
  simp only [Array.toList_map, List.map_map, List.zip_map']
  rfl

theorem builtin_exec {cl : Call} {b : Builtin} (hf : cl.callee = .builtin b) {dst : Option Tmp} {ty : TypeId} {pos : String} {after : Array Edge} {guard : Option (Nat × Bool)} :
    execOp a.eval { dst := dst, op := .call cl, type := ty, pos := pos, after := after, guard := guard } = builtin b cl.argTypes ty (cl.args.map fun | .const _ => true | _ => false) (cl.args.map a.eval) := by
  simp only [execOp, resolve, hf]
  rfl

theorem toList1 {α : Type} {xs : Array α} {x : α} (e : xs.toList = [x]) : xs = #[x] := by apply Array.ext'; simpa using e
theorem toList2 {α : Type} {xs : Array α} {x y : α} (e : xs.toList = [x, y]) : xs = #[x, y] := by apply Array.ext'; simpa using e

theorem idExt_run {g : FuncId} {x : Value} (he : idExt P g = true) : (callFunc g #[x]).run P w = .ok (.value x) w := by
  unfold idExt at he
  split at he
  · rename_i fn hfn
    simp only [Bool.and_eq_true, beq_iff_eq] at he
    obtain ⟨⟨h1, h2⟩, h3⟩ := he
    have hn : Extern.findNext fn = none := by
      unfold Extern.findNext
      rw [h1, h2]
      rfl
    have hf : Extern.find fn = some Extern.AbiNoEscape.same := by
      unfold Extern.find
      rw [h1, h2]
      rfl
    rw [run_callFunc_extern hfn (by rw [h1]; decide) h3 hn hf #[x] w]
    rfl
  · simp at he

theorem opK_sound {o : Oper} {k : AV → AHeap → Option Res} (hr : Rel P w0 m E fr h a w) (hc : CallOk P w0 c) (hn : Nx P w0 m E w fr o k r next) (e : opK P loc (optM c) o fr k h = some r) : o.wp P a w next Q := by
  obtain ⟨dst, op, ty, pos, after, guard⟩ := o
  cases op <;> simp only [opK] at e
  case move x => exact move_sound hr hn e rfl
  case assign x => exact move_sound hr hn e rfl
  case pick x y z =>
    split at e
    · rename_i b hb
      have h1 := hr.val hb
      generalize hx : a.eval x = x' at h1
      cases h1
      have hrun : (execOp a.eval { dst := dst, op := .pick x y z, type := ty, pos := pos, after := after, guard := guard }).run P w = .ok (.value (if b then a.eval y else a.eval z)) w := by
        simp only [execOp, hx]; cases b <;> rfl
      split at e
      · rename_i u v hu hv
        refine hr.value hn (v := if b then a.eval y else a.eval z) hrun ?_ e
        cases b
        · exact hr.val hv
        · exact hr.val hu
      · rename_i u hu _
        obtain ⟨hb1, e⟩ := cond_some e
        subst hb1
        exact hr.value hn (v := a.eval y) hrun (hr.val hu) e
      · rename_i v _ hv
        cases b with
        | true => exact no_fail e
        | false => exact hr.value hn (v := a.eval z) hrun (hr.val hv) e
      · exact no_fail e
    · exact no_fail e
  case alloc el =>
    split at e
    · rename_i cs d hz
      obtain ⟨z, hz1, hz2, hz3, hz4⟩ := zeroT_some hz
      have hrun : (execOp a.eval { dst := some d, op := .alloc el, type := ty, pos := pos, after := after, guard := guard }).run P w = .ok (.value (.pointer (some ⟨w.heap.size, 0, none⟩))) { w with heap := w.heap.push (.cells z.cells el) } := by
        simp [execOp, Instr.alloc, run_zero hz1, newVar, newRow, newObj, Sem.run]
      cases hl : loc d with
      | true =>
        rw [hl, cond_true] at e
        obtain ⟨hnr, e⟩ := cond_some e
        refine wp_value hrun (hn (.blk cs) h _ _ ?_ e)
        exact Step.of (hr.putblk hnr (by rw [hz2]; exact VL.of_plain 2 (by rw [← hz2]; exact hz3)) hz4) ((ext_push w _).keep hr.hr.ext)
      | false =>
        rw [hl, cond_false] at e
        exact Rel.outv hn hrun (out_ptrT hr (by rw [hz2]; exact VL.of_plain 2 (by rw [← hz2]; exact hz3)) hz4) e
    · exact no_fail e
  case box el x =>
    split at e
    · rename_i y d hy
      have hv := hr.val hy
      have hrun : (execOp a.eval { dst := some d, op := .box el x, type := ty, pos := pos, after := after, guard := guard }).run P w = .ok (.value (.pointer (some ⟨w.heap.size, 0, none⟩))) { w with heap := w.heap.push (.cells (a.eval x).cells el) } := by
        simp [execOp, Instr.box, newVar, newRow, newObj, Sem.run]
      cases hl : loc d with
      | true =>
        rw [hl, cond_true] at e
        obtain ⟨hnr, e⟩ := cond_some e
        refine wp_value hrun (hn (.blk _) h _ _ ?_ e)
        exact Step.of (hr.putblk hnr hv.cells.1 hv.cells.2) ((ext_push w _).keep hr.hr.ext)
      | false =>
        rw [hl, cond_false] at e
        exact Rel.outv hn hrun (out_ptr hr hv.cells.1 hv.cells.2) e
    · exact no_fail e
  case build t parts =>
    obtain ⟨xs, hxs, e⟩ := on_some e
    obtain ⟨y, hy, e⟩ := on_some e
    obtain ⟨y', h1, h2⟩ := build_run (by have := (hr.vals hxs).length; simpa using this) (hr.vals hxs) hy w
    refine hr.value hn (v := y') ?_ h2 e
    simp only [execOp, zip_parts, Sem.run_bind, h1, Result.andThen_ok]
    rfl
  case buildSlice t len parts =>
    split at e
    · rename_i el hu
      split at e
      · rename_i size z hsz hz
        have e0 := cond_some e
        clear e
        obtain ⟨hcond, e⟩ := e0
        simp only [Bool.and_eq_true, beq_iff_eq, Nat.blt_eq, Nat.ble_eq] at hcond
        obtain ⟨⟨hszl, hpos⟩, hmax⟩ := hcond
        obtain ⟨zv, hz1, hz2, hz3, hz4⟩ := zeroT_some hz
        split at e
        · split at e
          · rename_i hp
            have hp' : parts = #[] := by apply Array.ext'; simpa using hp
            subst hp'
            have hrun : (execOp a.eval { dst := dst, op := .buildSlice t 0 #[], type := ty, pos := pos, after := after, guard := guard }).run P w = .ok (.value (.slice (some ⟨w.heap.size, 0, none⟩) 0 0)) { w with heap := w.heap.push (.cells #[] el) } := by
              simp [execOp, Instr.buildSlice, run_underlying' hu, run_size hsz, Instr.fill, newRow, newObj, Sem.run]
              congr 2
              apply Array.ext'; simp
            exact Rel.outv hn hrun ⟨m, MLe.refl m, hr.grow (ext_push w _), (ext_push w _).keep hr.hr.ext, .sempty⟩ e
          · exact no_fail e
        · rename_i len
          obtain ⟨xs, hxs, e⟩ := on_some e
          obtain ⟨cs, hcs, e⟩ := on_some e
          obtain ⟨z', h1, h2, h3, h4⟩ := fillA_run (S := szB w) (m := m) (is := parts.toList.map (·.1)) (xs := xs) rfl (by have := (hr.vals hxs).length; simpa using this) (hr.vals hxs) (VL.rows (n := len + 1) hz3) (fun x hx => hz4 x (flatten_mem hx)) hcs
          have hzl : zv.cells.size = size := by rw [hszl, hz2]; simp
          have hzr : ((Array.range ((len + 1) * size)).map (zv.cells[· % zv.cells.size]!)) = (List.replicate (len + 1) z).flatten.toArray := by
            rw [hz2, ← zero_map, hzl]
          have hne : ¬ ((len + 1) * size = 0) := by
            intro hh
            rcases Nat.mul_eq_zero.1 hh with hh | hh <;> omega
          have hle : ¬ (16777216 < (len + 1) * size) := Nat.not_lt.2 hmax
          have hrun : (execOp a.eval { dst := dst, op := .buildSlice t (len + 1) parts, type := ty, pos := pos, after := after, guard := guard }).run P w = .ok (.value (.slice (some ⟨w.heap.size, 0, none⟩) (len + 1) (len + 1))) { w with heap := w.heap.push (.cells z' el) } := by
            have h2p : (2 : Nat) ^ 24 = 16777216 := rfl
            simp only [execOp, zip_parts, Instr.buildSlice, Sem.run_bind, run_underlying' hu, Result.andThen_ok, run_size hsz, gt_iff_lt, h2p, hle, if_false, hne, run_zero hz1, Sem.run_pure, hzr, h1]
            rfl
          have hl := h2.length
          simp only [Array.length_toList] at hl
          have hcl : cs.length = (len + 1) * size := by rw [h4, flatten_len, hszl]
          refine Rel.outv hn hrun ?_ e
          exact out_row hr (Ext.refl w) rfl (by rw [List.take_of_length_le (by simp; omega)]; exact h2) (by omega) h3 (Nat.le_refl _) hpos (by omega)
      · exact no_fail e
    · exact no_fail e
  case load t x =>
    obtain ⟨l, hl, e⟩ := on_some e
    obtain ⟨cs, hcs, e⟩ := on_some e
    obtain ⟨y, hy, e⟩ := on_some e
    obtain ⟨B, bs, C, el, fz, h1, h2, h3⟩ := hr.cellsAt hl hcs
    obtain ⟨y', h4, h5⟩ := readC_run (P := P) hy h2 h3
    refine hr.value hn ?_ h5 e
    simp [execOp, Instr.loadAt, h1, Instr.sureAddr, h4]
  case nilCheck x =>
    split at e
    · exact no_fail e
    · exact no_fail e
    · exact no_fail e
    · exact no_fail e
    · exact no_fail e
    · rename_i y hn1 hn2 hn3 hn4 hn5 hy
      have hv := hr.eval hy
      refine hr.value hn (nil_run rfl rfl ?_ ?_ ?_ ?_) hv e
      · intro hh; rw [hh] at hv; cases hv <;> first | exact hn1 rfl | exact hn5 _ rfl
      · intro hh; rw [hh] at hv; cases hv <;> first | exact hn2 rfl | exact hn5 _ rfl
      · intro hh; rw [hh] at hv; cases hv <;> first | exact hn3 rfl | exact hn5 _ rfl
      · intro nm f g hh; rw [hh] at hv; cases hv <;> first | exact hn4 _ _ _ rfl | exact hn5 _ rfl
    · rename_i cs hy
      split at e
      · rename_i t
        obtain ⟨B, C, el, fz, h1, _⟩ := hr.fr.blk hy
        have h1' : a.eval (.tmp t) = .pointer (some ⟨B, 0, none⟩) := h1
        refine wp_value (nil_run rfl h1' (by simp) (by simp) (by simp) (by simp)) (hn _ _ _ _ (Step.of (hr.put (x := .ref t 0) ?_ (by simp)) (Keep.refl E w)) e)
        intro cs' _
        exact ⟨B, h1, rfl⟩
      · exact no_fail e
    · rename_i s off hy
      split at e
      · rename_i cs hcs
        obtain ⟨t, rfl, ht⟩ := opA_tmp hy (by simp) (by simp)
        obtain ⟨B, h1, h2⟩ := hr.fr.ref ht hcs
        have h2' : a.eval (.tmp t) = .pointer (some ⟨B, off, none⟩) := h2
        refine wp_value (nil_run rfl h2' (by simp) (by simp) (by simp) (by simp)) (hn _ _ _ _ (Step.of (hr.put (x := .ref s off) ?_ (by simp)) (Keep.refl E w)) e)
        intro cs' _
        exact ⟨B, h1, rfl⟩
      · exact no_fail e
    · exact no_fail e
  case binOp op t x y yt =>
    obtain ⟨u, hu, e⟩ := on_some e
    obtain ⟨v, hv, e⟩ := on_some e
    have this : (execOp a.eval { dst := dst, op := .binOp op t x y yt, type := ty, pos := pos, after := after, guard := guard }) = (do pure (.value (← (do eqGuard op t x y (a.eval x) (a.eval y); binOp op t (a.eval x) (a.eval y))))) := rfl
    split at e
    · rename_i p hp
      cases h0 : p.1 with
      | true => rw [h0] at e; exact no_fail e
      | false =>
        rw [h0, cond_false] at e
        obtain ⟨h1, h2⟩ := divA_run (P := P) (t := t) (ox := x) (oy := y) (hr.val hu) (hr.val hv) hp h0 w
        refine hr.value hn ?_ h2 e
        rw [this, Sem.run_bind, h1]; rfl
    · split at e
      · rename_i z hz
        obtain ⟨h1, h2⟩ := bin2_run (P := P) (t := t) (ox := x) (oy := y) (hr.val hu) (hr.val hv) hz w
        refine hr.value hn ?_ h2 e
        rw [this, Sem.run_bind, h1]; rfl
      · obtain ⟨z, hz, e⟩ := on_some e
        obtain ⟨z', h1, h2⟩ := binA_run (hr.val hu) (hr.val hv) hz w
        refine hr.value hn ?_ h2 e
        rw [this, Sem.run_bind, h1]; rfl
  case unOp op t x =>
    obtain ⟨u, hu, e⟩ := on_some e
    obtain ⟨z, hz, e⟩ := on_some e
    obtain ⟨z', h1, h2⟩ := unA_run (hr.val hu) hz w
    refine hr.value hn ?_ h2 e
    simp [execOp, h1]
  case convert s d x =>
    obtain ⟨u, hu, e⟩ := on_some e
    obtain ⟨z, hz, e⟩ := on_some e
    obtain ⟨z', h1, h2⟩ := convH_run hr.hr (hr.val hu) hz
    refine hr.value hn ?_ h2 e
    simp [execOp, h1]
  case makeInterface t x =>
    obtain ⟨u, hu, e⟩ := on_some e
    split at e
    · exact no_fail e
    · rename_i d hd hut
      refine hr.value hn (v := .iface t (a.eval x)) ?_ (.iface (hr.val hu)) e
      have : (Instr.makeInterface t (a.eval x)).run P w = .ok (.iface t (a.eval x)) w := by
        simp only [Instr.makeInterface, Sem.run_bind, run_underlying' hut, Result.andThen_ok]
        cases d <;> first | rfl | (exact absurd hut (hd _)) | (exact absurd rfl (hd _))
      simp [execOp, this]
    · exact no_fail e
  case makeFunc f first cap =>
    obtain ⟨xs, hxs, e⟩ := on_some e
    obtain ⟨ys, hys, e⟩ := on_some e
    refine hr.value hn (v := .func f (first.map a.eval) (cap.map a.eval)) rfl ?_ e
    exact .func (by simpa using hr.vals hxs) (by simpa using hr.vals hys)
  case makeMap t rv =>
    split at e
    · have hrun : (execOp a.eval { dst := dst, op := .makeMap t none, type := ty, pos := pos, after := after, guard := guard }).run P w = .ok (.value (.map (some w.heap.size))) { w with heap := w.heap.push (.map #[] 0) } := by
        simp [execOp, Instr.makeMap, newObj, Sem.run]
      refine Rel.outv hn hrun ⟨_, mnew_le hr.hr.fresh, hr.newMap, (ext_push w _).keep hr.hr.ext, .map (by simp [mnew])⟩ e
    · exact no_fail e
  case mapUpdate t mm kk x =>
    obtain ⟨x1, hx1, e⟩ := on_some e
    obtain ⟨x2, hx2, e⟩ := on_some e
    obtain ⟨x3, hx3, e⟩ := on_some e
    obtain ⟨p, hp, e⟩ := on_some e
    obtain ⟨hcond, e⟩ := cond_some e
    obtain ⟨w', h3, h4, h5⟩ := mapUpdate_sound hr hp hcond (hr.val hx1) (hr.val hx2) (hr.val hx3)
    refine Rel.outs hn (w' := w') ?_ ⟨m, MLe.refl m, h4, h5⟩ e
    simp [execOp, h3]
  case lookup t mm kk cm =>
    obtain ⟨x1, hx1, e⟩ := on_some e
    obtain ⟨x2, hx2, e⟩ := on_some e
    obtain ⟨p, hp, e⟩ := on_some e
    obtain ⟨z, hz, e⟩ := on_some e
    obtain ⟨hcond, e⟩ := cond_some e
    rcases lookup_sound hr hp hcond hz (hr.val hx1) (hr.val hx2) cm with ⟨h1, h2, h3⟩ | ⟨v, v', h1, h2, h3⟩
    · rw [h1] at e
      cases cm with
      | false => exact hr.value hn (v := z) (by simp [execOp, h2]) h3 e
      | true => exact wp_value (v := .tuple #[z, .bool false]) (by simp [execOp, h2]) (hn _ _ _ _ (Step.of (hr.put (x := .tup [z, .bool false]) ⟨#[z, .bool false], rfl, .cons h3 (.cons (.bool _) .nil)⟩ (by simp)) (Keep.refl E w)) e)
    · rw [h1] at e
      cases cm with
      | false => exact hr.value hn (v := v') (by simp [execOp, h2]) h3 e
      | true => exact wp_value (v := .tuple #[v', .bool true]) (by simp [execOp, h2]) (hn _ _ _ _ (Step.of (hr.put (x := .tup [v, .bool true]) ⟨#[v', .bool true], rfl, .cons h3 (.cons (.bool _) .nil)⟩ (by simp)) (Keep.refl E w)) e)
  case makeSlice t l cc =>
    obtain ⟨x, hx, e⟩ := on_some e
    obtain ⟨y, hy, e⟩ := on_some e
    split at e
    · rename_i el k1 l' k2 c' hu _
      split at e
      · rename_i bytes size z hb hs hz
        obtain ⟨hcond, e⟩ := cond_some e
        simp only [Bool.and_eq_true, beq_iff_eq, decide_eq_true_eq, Nat.blt_eq] at hcond
        obtain ⟨⟨⟨⟨⟨h0, h1⟩, h2⟩, h3⟩, h4⟩, h5⟩ := hcond
        obtain ⟨zv, hz1, hz2, hz3, hz4⟩ := zeroT_some hz
        have hvx := hr.val hx
        have hvy := hr.val hy
        generalize hlx : a.eval l = l2 at hvx
        generalize hcx : a.eval cc = c2 at hvy
        cases hvx; cases hvy
        have hrun := run_makeSlice (P := P) (k1 := k1) (k2 := k2) hu hb hs hz1 h0 h1 h2 h3 (by rw [h4, hz2]; simp) h5 w
        have hlen := flatten_len c'.toNat z
        refine Rel.outv hn (z' := .slice (some ⟨w.heap.size, 0, none⟩) l'.toNat c'.toNat) ?_ (out_row hr (Ext.refl w) rfl (C := (List.replicate c'.toNat zv.cells.toList).flatten.toArray) (el := el) ?_ ?_ (fun x hx => hz4 x (flatten_mem hx)) (by omega) h5 ?_) e
        · simp only [execOp, hlx, hcx, Sem.run_bind, hrun, Result.andThen_ok]; rfl
        · rw [← hz2]
          simp only [List.take_length]
          exact VL.rows hz3
        · rw [← hz2]; simp
        · rw [← hz2]; simp only [List.size_toArray, hlen, h4]; exact Nat.le_refl _
      · exact no_fail e
    · exact no_fail e
  case slice t x lo hi mx =>
    split at e
    · exact no_fail e
    · obtain ⟨l, hl, e⟩ := on_some e
      obtain ⟨u, hu, e⟩ := on_some e
      obtain ⟨l1, l2⟩ := head_map hr hl
      obtain ⟨u1, u2⟩ := head_map hr hu
      cases ha : isArr P t with
      | true =>
        rw [ha, cond_true] at e
        split at e
        · rename_i b off hloc
          obtain ⟨y, hy, e⟩ := on_some e
          obtain ⟨B, bs, h1, h2⟩ := hr.main hloc
          obtain ⟨y', h3, h4⟩ := run_subArr (P := P) hr.hr hy h1 l1 l2 u1 u2
          refine hr.value hn ?_ h4 e
          simp [execOp, h2, h3]
        · exact no_fail e
      | false =>
        rw [ha, cond_false] at e
        obtain ⟨v, hv, e⟩ := on_some e
        obtain ⟨y, hy, e⟩ := on_some e
        obtain ⟨y', h3, h4⟩ := subA_run (hr.val hv) hy w l1 l2 u1 u2
        refine hr.value hn ?_ h4 e
        simp [execOp, h3]
  case fieldAddr s x f =>
    obtain ⟨l, hl, e⟩ := on_some e
    obtain ⟨p, hp, e⟩ := on_some e
    obtain ⟨B, bs, h1, h2, h3⟩ := hr.locEval hl
    have h4 := run_fieldAt hp B (bs + l.off) w
    refine wp_value (v := .pointer (some ⟨B, bs + l.off + p.1, none⟩)) ?_ (hn _ _ _ _ (Step.of (hr.put (loc_add h2 h3) (fun cs => addA_blk cs)) (Keep.refl E w)) e)
    simp [execOp, h1, h4]
  case field t x f =>
    obtain ⟨u, hu, e⟩ := on_some e
    obtain ⟨z, hz, e⟩ := on_some e
    obtain ⟨z', h1, h2⟩ := fieldA_run (hr.val hu) hz w
    refine hr.value hn ?_ h2 e
    simp [execOp, h1]
  case indexAddr t x i =>
    obtain ⟨j, hj, e⟩ := on_some e
    cases ha : isArr P t with
    | true =>
      rw [ha, cond_true] at e
      obtain ⟨l, hl, e⟩ := on_some e
      obtain ⟨n, hn', e⟩ := on_some e
      obtain ⟨B, bs, h1, h2, h3⟩ := hr.locEval hl
      have h4 := run_elemOff hn' (hr.val hj) B (bs + l.off) w
      refine wp_value (v := .pointer (some ⟨B, bs + l.off + n, none⟩)) ?_ (hn _ _ _ _ (Step.of (hr.put (loc_add h2 h3) (fun cs => addA_blk cs)) (Keep.refl E w)) e)
      simp [execOp, h1, h4]
    | false =>
      rw [ha, cond_false] at e
      obtain ⟨u, hu, e⟩ := on_some e
      obtain ⟨z, hz, e⟩ := on_some e
      obtain ⟨z', h1, h2⟩ := run_elemAddr hz (hr.val hu) (hr.val hj) w
      refine hr.value hn ?_ h2 e
      simp [execOp, h1]
  case index t x i =>
    obtain ⟨u, hu, e⟩ := on_some e
    obtain ⟨j, hj, e⟩ := on_some e
    obtain ⟨z, hz, e⟩ := on_some e
    obtain ⟨z', h1, h2⟩ := indexA_run (hr.val hu) (hr.val hj) hz w
    refine hr.value hn ?_ h2 e
    simp [execOp, h1]
  case extract x i =>
    split at e
    · rename_i xs hx
      obtain ⟨y, hy, e⟩ := on_some e
      obtain ⟨t, rfl, ht⟩ := opA_tmp hx (by simp) (by simp)
      obtain ⟨vs, h1, h2⟩ := hr.fr.tup ht
      obtain ⟨y', h3, h4⟩ := h2.get hy
      refine hr.value hn (v := y') ?_ h4 e
      have h1' : a.eval (.tmp t) = .tuple vs := h1
      have h3' : vs[i]? = some y' := by simpa using h3
      simp [execOp, h1', Instr.extract, h3']
    · exact no_fail e
  case call cl =>
    split at e
    · rename_i f hf
      split at e
      · rename_i g first captured hfv
        cases he : enters P g with
        | false =>
          rw [he, cond_false] at e
          obtain ⟨hid, e⟩ := cond_some e
          obtain ⟨xs, hxs, e⟩ := on_some e
          obtain ⟨x, hx, e⟩ := on_some e
          have hv := hr.val hfv
          generalize hfe : a.eval f = f' at hv
          cases hv with
          | func h1 h2 =>
            rename_i us vs
            have hall := (h1.append (hr.vals hxs)).append h2
            have hx' : first.toList ++ xs ++ captured.toList = [x] := by
              unfold sole at hx
              split at hx
              · rename_i y hy; injection hx with hx; subst hx; exact hy
              · simp at hx
            rw [hx'] at hall
            obtain ⟨x', hlx, hxv⟩ : ∃ x', us.toList ++ cl.args.toList.map a.eval ++ vs.toList = [x'] ∧ V m (szB w) x x' := by
              generalize us.toList ++ cl.args.toList.map a.eval ++ vs.toList = ys at hall
              cases hall with
              | cons h3 h4 => cases h4; exact ⟨_, rfl, h3⟩
            refine hr.value hn (v := x') ?_ hxv e
            have h3 := resolve_value (P := P) (w := w) hf hfe ty
            simp only [execOp, Sem.run_bind, h3, Result.andThen_ok, invoke]
            have h4 : us ++ cl.args.map a.eval ++ vs = #[x'] := by
              apply Array.ext'
              simpa using hlx
            rw [h4]
            exact idExt_run hid
        | true =>
        rw [he, cond_true] at e
        obtain ⟨xs, hxs, e⟩ := on_some e
        have hv := hr.val hfv
        generalize hfe : a.eval f = f' at hv
        cases hv with
        | func h1 h2 =>
          rename_i us vs
          refine call_step hr hc hn he ((h1.append (hr.vals hxs)).append h2) ?_ e
          have h3 := resolve_value (P := P) (w := w) hf hfe ty
          simp only [execOp, Sem.run_bind, h3, Result.andThen_ok, invoke]
          rw [callFunc_run he]
          congr 2
          apply Array.ext'
          simp
      · exact no_fail e
    · rename_i rv name hf
      split at e
      · rename_i t x hrv
        split at e
        · rename_i g hg
          obtain ⟨he, e⟩ := cond_some e
          obtain ⟨xs, hxs, e⟩ := on_some e
          have hv := hr.val hrv
          generalize hfe : a.eval rv = r' at hv
          cases hv with
          | iface h1 =>
            rename_i y
            refine call_step hr hc hn he (VL.cons h1 (hr.vals hxs)) ?_ e
            have h2 := run_method hg y w
            simp only [execOp, resolve, hf, hfe, Sem.run_bind, Sem.run_pure, Result.andThen_ok, invoke]
            have h3 : (#[Value.iface t y] ++ cl.args.map a.eval)[0]? = some (.iface t y) := by simp [Array.getElem?_append]
            have h4 : (#[Value.iface t y] ++ cl.args.map a.eval).extract 1 (#[Value.iface t y] ++ cl.args.map a.eval).size = cl.args.map a.eval := by
              apply Array.ext'; rw [Array.toList_extract, Array.toList_append, List.extract_eq_take_drop]; simp
              exact List.take_of_length_le (by simp)
            simp only [h3, h4, callMethod, Sem.run_bind, program]
            have h5 : ((Sem.program .pure : Sem Program)).run P w = .ok P w := rfl
            simp only [h5, Result.andThen_ok, h2]
            rw [callFunc_run he]
            congr 2
            apply Array.ext'
            simp
        · exact no_fail e
      · exact no_fail e
    · rename_i b hf
      split at e
      · rename_i x t hargs htys
        have h1 := toList1 hargs
        have h2 := toList1 htys
        cases ha : isArr P t with
        | true =>
          rw [ha, cond_true] at e
          obtain ⟨y, hy, e⟩ := on_some e
          obtain ⟨h3, h4⟩ := run_lenArr (P := P) (w := w) (m := m) (ty := ty) (x' := a.eval x) ha hy
          refine hr.value hn ?_ h4 e
          rw [builtin_exec hf, h1, h2]
          simp [builtin, h3]
        | false =>
          rw [ha, cond_false] at e
          obtain ⟨u, hu, e⟩ := on_some e
          obtain ⟨y, hy, e⟩ := on_some e
          obtain ⟨h3, h4⟩ := run_len (P := P) (ty := ty) hy hr.hr (hr.val hu)
          refine hr.value hn ?_ h4 e
          rw [builtin_exec hf, h1, h2]
          simp [builtin, h3]
      · rename_i x y t u hargs htys
        have h1 := toList2 hargs
        have h2 := toList2 htys
        obtain ⟨x', hx, e⟩ := on_some e
        obtain ⟨y', hy, e⟩ := on_some e
        obtain ⟨p, hp, e⟩ := on_some e
        obtain ⟨z', w', h3, h4⟩ := append_sound hr (ty := ty) (hr.val hx) (hr.val hy) hp
        refine Rel.outv hn ?_ h4 e
        rw [builtin_exec hf, h1, h2]
        simp [builtin, h3]
      · rename_i x y t u hargs htys
        have h1 := toList2 hargs
        have h2 := toList2 htys
        obtain ⟨x', hx, e⟩ := on_some e
        obtain ⟨y', hy, e⟩ := on_some e
        obtain ⟨p, hp, e⟩ := on_some e
        obtain ⟨w', h3, ⟨m', h4, h5, h6⟩, h7⟩ := copy_sound hr (ty := ty) (u := u) (hr.val hx) (hr.val hy) hp
        refine Rel.outv hn (w' := w') (z' := p.1) ?_ ⟨m', h4, h5, h6, V.of_plain 0 h7⟩ e
        rw [builtin_exec hf, h1, h2]
        simp [builtin, h3]
      · rename_i x y t u hargs htys
        have h1 := toList2 hargs
        have h2 := toList2 htys
        obtain ⟨x', hx, e⟩ := on_some e
        obtain ⟨y', hy, e⟩ := on_some e
        obtain ⟨p, hp, e⟩ := on_some e
        obtain ⟨hcond, e⟩ := cond_some e
        obtain ⟨w', h3, h4, h5⟩ := mapDelete_sound hr (t2 := u) (ty := ty) hp hcond (hr.val hx) (hr.val hy)
        refine Rel.outn hn (w' := w') ?_ ⟨m, MLe.refl m, h4, h5⟩ e
        rw [builtin_exec hf, h1, h2]
        simp [builtin, h3]
      · rename_i x t hargs htys
        have h1 := toList1 hargs
        have h2 := toList1 htys
        obtain ⟨x', hx, e⟩ := on_some e
        obtain ⟨h', hp, e⟩ := on_some e
        obtain ⟨w', h3, h4⟩ := clear_sound hr (ty := ty) (hr.val hx) hp
        refine Rel.outn hn (w' := w') ?_ h4 e
        rw [builtin_exec hf, h1, h2]
        simp [builtin, h3]
      · rename_i x ts hargs
        have h1 := toList1 hargs
        obtain ⟨x', hx, e⟩ := on_some e
        obtain ⟨y, hy, e⟩ := on_some e
        obtain ⟨y', h3, h4⟩ := sliceData_run (P := P) (ts := cl.argTypes) (ty := ty) (hr.val hx) hy w
        refine hr.value hn ?_ h4 e
        rw [builtin_exec hf, h1]
        simp [builtin, h3]
      · rename_i x y t u hargs htys
        have h1 := toList2 hargs
        have h2 := toList2 htys
        obtain ⟨x', hx, e⟩ := on_some e
        obtain ⟨y', hy, e⟩ := on_some e
        obtain ⟨p, hp, e⟩ := on_some e
        obtain ⟨w', h3, h4, h5, h6⟩ := unsStr_sound (it := u) (ty := ty) hr (hr.val hx) (hr.val hy) hp
        refine Rel.outv hn (w' := w') (z' := p.1) ?_ ⟨m, MLe.refl m, h4, h5, h6⟩ e
        rw [builtin_exec hf, h1, h2]
        simp [builtin, h3]
      · rename_i x rs hargs
        obtain ⟨x', hx, e⟩ := on_some e
        obtain ⟨ys, hys, e⟩ := on_some e
        obtain ⟨y, hy, e⟩ := on_some e
        obtain ⟨z', h3, h4⟩ := mmA_run (hr.val hx) (hr.vals hys) hy w
        refine hr.value hn (v := z') ?_ h4 e
        have h1 : (cl.args.map a.eval).toList = a.eval x :: rs.map a.eval := by rw [Array.toList_map, hargs]; rfl
        rw [builtin_exec hf]
        simp only [builtin, Sem.run_bind, Builtin.max_, h1]
        simp only [if_true] at h3
        rw [h3]; rfl
      · rename_i x rs hargs
        obtain ⟨x', hx, e⟩ := on_some e
        obtain ⟨ys, hys, e⟩ := on_some e
        obtain ⟨y, hy, e⟩ := on_some e
        obtain ⟨z', h3, h4⟩ := mmA_run (hr.val hx) (hr.vals hys) hy w
        refine hr.value hn (v := z') ?_ h4 e
        have h1 : (cl.args.map a.eval).toList = a.eval x :: rs.map a.eval := by rw [Array.toList_map, hargs]; rfl
        rw [builtin_exec hf]
        simp only [builtin, Sem.run_bind, Builtin.min_, h1]
        simp only [Bool.false_eq_true, if_false] at h3
        rw [h3]; rfl
      · exact no_fail e
  all_goals exact no_fail e

end Go.Agm
