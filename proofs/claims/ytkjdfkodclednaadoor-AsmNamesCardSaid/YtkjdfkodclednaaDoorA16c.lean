/- An abstract machine for one goroutine: texts of bytes, unsafe pointers, beside the model's. No condition. -/
import Derived.Test.YtkjdfkodclednaaDoorA16b
import Derived.Lib.Builder
import Derived.Lib.UnsafeStr
import Derived.Laws.BytesString
namespace Go.Agm

variable {P : Program} {w0 : World} {m : MapN} {E : Nat → Prop} {fr : List AV} {h : AHeap} {a : Act} {w : World} {S : Nat → Nat}

theorem bytesOf_some : ∀ {cs : List Value} {l : List UInt8}, bytesOf cs = some l → ∃ ns : List Int, cs = ns.map (.int .u8) ∧ l = ns.map fun n => UInt8.ofNat n.toNat
  | [], l, e => by simp [bytesOf] at e; subst e; exact ⟨[], rfl, rfl⟩
  | x :: cs, l, e => by
    cases x with
    | int k n =>
      cases k <;> simp only [bytesOf] at e <;> first | (simp at e; done) | skip
      rw [Option.map_eq_some_iff] at e
      obtain ⟨l', h1, rfl⟩ := e
      obtain ⟨ns, rfl, rfl⟩ := bytesOf_some h1
      exact ⟨n :: ns, rfl, rfl⟩
    | _ => simp [bytesOf] at e

theorem foldl_push : ∀ (ns : List Int) (s : ByteArray), ns.foldl (fun r n => r.push (UInt8.ofNat n.toNat)) s = ⟨s.data ++ (ns.map fun n => UInt8.ofNat n.toNat).toArray⟩
  | [], s => by simp
  | n :: ns, s => by
    rw [List.foldl_cons, foldl_push ns]
    apply ByteArray.ext
    simp [ByteArray.push]

/-- The cells of a slice of bytes. -/
theorem bytes_at (hr : HRel P w0 m E h w) {b off n B bs : Nat} {cs : List Value} {rw' : Bool} {ns : List Int} (hg : h.get b = some (.cells cs rw')) (hm : m b = some (B, bs)) (hl : off + n ≤ cs.length) (hns : (cs.drop off).take n = ns.map (.int .u8)) :
    ∃ C el fz, w.heap[B]? = some (.cells C el fz) ∧ bs + off + n ≤ C.size ∧ ns.length = n ∧ ∀ j x, ns[j]? = some x → C[bs + off + j]? = some (.int .u8 x) := by
  obtain ⟨C, el, fz, k1, k2, _⟩ := hr.cellsM hg hm
  have hnl : ns.length = n := by
    have := congrArg List.length hns
    simp only [List.length_take, List.length_drop, List.length_map] at this
    omega
  refine ⟨C, el, fz, k1, by have := k2.1; omega, hnl, fun j x hj => ?_⟩
  have hjn : j < n := by rw [← hnl]; exact (List.getElem?_eq_some_iff.1 hj).1
  have hc : cs[off + j]? = some (.int .u8 x) := by
    have h1 : ((cs.drop off).take n)[j]? = (ns.map (Value.int .u8))[j]? := by rw [hns]
    rw [List.getElem?_take, if_pos hjn, List.getElem?_drop, List.getElem?_map, hj] at h1
    exact h1
  obtain ⟨y, hy, hv⟩ := k2.get hc
  cases hv
  rw [show bs + (off + j) = bs + off + j by omega] at hy
  simpa using hy

theorem bytesStr_run (hr : HRel P w0 m E h w) {src dst e : TypeId} {x x' z : Value} (hs : P.underlying src = some (.slice e)) (hd : P.underlying dst = some .string) (hx : V m (szB w) x x') (hz : bytesStr e P x h = some z) :
    (convert src dst x').run P w = .ok z w ∧ V m (szB w) z z := by
  unfold bytesStr at hz
  split at hz
  · rename_i he
    injection hz with hz; subst hz
    cases hx
    refine ⟨?_, .str _⟩
    rw [run_convert_bytes_string w src dst e _ _ _ hs he hd]
    rfl
  · rename_i b off n sz he
    have hnil : ∀ (A : Option Addr) (c : Nat), (convert src dst (.slice A 0 c)).run P w = .ok (strV []) w := by
      intro A c
      rw [run_convert_bytes_string w src dst e _ _ _ hs he hd]
      cases A with
      | none => rfl
      | some A => rw [run_bytesToString w A 0 c [] (by simp [loadCells, loadCellsFrom])]; rfl
    cases n with
    | zero =>
      simp only [Option.some.injEq] at hz
      subst hz
      refine ⟨?_, .str _⟩
      cases hx <;> exact hnil _ _
    | succ n =>
      simp only at hz
      split at hz
      · rename_i cs rw' hg
        cases hc : (Nat.beq sz 1 && Nat.ble (off + (n + 1)) cs.length) with
        | false => rw [hc] at hz; simp at hz
        | true =>
          rw [hc, cond_true, Option.map_eq_some_iff] at hz
          obtain ⟨l, hl, rfl⟩ := hz
          obtain ⟨ns, h1, rfl⟩ := bytesOf_some hl
          simp only [Bool.and_eq_true] at hc
          cases hx with
          | @slice _ _ _ _ B bs c hm hn hz0 hcc =>
            obtain ⟨C, el, fz, k1, k2, k3, k4⟩ := bytes_at hr hg hm (Nat.le_of_ble_eq_true hc.2) h1
            refine ⟨?_, .str _⟩
            rw [run_convert_bytes_string w src dst e _ _ _ hs he hd, run_bytesToString w _ _ _ ns ?_, foldl_push]
            · simp [strV]
            · have hload := run_loadCells_list (P := P) w ⟨B, bs + off, none⟩ (ns.map (.int .u8)) (by
                intro i v hi
                rw [addr_add, cell_at k1]
                rw [List.getElem?_map, Option.map_eq_some_iff] at hi
                obtain ⟨q, hq, rfl⟩ := hi
                exact k4 i q hq)
              rw [List.length_map, k3] at hload
              exact hload
      · simp at hz
  · simp at hz

theorem toUns_run (hr : HRel P w0 m E h w) {src dst t : TypeId} {x x' z : Value} (hs : P.underlying src = some (.pointer t)) (hd : P.underlying dst = some .unsafePointer) (hx : V m (szB w) x x') (hz : toUns P t x h = some z) :
    (convert src dst x').run P w = .ok x' w ∧ V m (szB w) z x' := by
  unfold toUns at hz
  split at hz
  · injection hz with hz; subst hz
    refine ⟨?_, hx⟩
    cases hx
    simp [convert, run_underlying hs, run_underlying hd, Conv.unsafePointer]
  · rename_i b off
    split at hz
    · rename_i k cs rw' hsz hg
      cases hc : Nat.blt off cs.length with
      | false => rw [hc] at hz; simp at hz
      | true =>
        rw [hc, cond_true] at hz
        injection hz with hz; subst hz
        refine ⟨?_, hx⟩
        cases hx with
        | @ptr _ _ B base hm =>
          obtain ⟨C, el, fz, k1, k2, _⟩ := hr.cellsM hg hm
          have hlt : off < cs.length := Nat.le_of_ble_eq_true hc
          obtain ⟨i, hi, hisz⟩ : ∃ i, P.info? t = some i ∧ i.size = k + 1 := by
            unfold sizeT at hsz
            cases hi : P.info? t with
            | none => rw [hi] at hsz; simp at hsz
            | some i => rw [hi] at hsz; simp at hsz; exact ⟨i, rfl, hsz⟩
          exact Lib.run_to_unsafe (e := el) (cells := C.size) w ⟨B, base + off, none⟩ hs hd hi (by omega) (by simp [World.shape?, k1]) (by have := k2.1; simp only; omega)
    · simp at hz
  · simp at hz

theorem lies_self {P : Program} {e : TypeId} {count : Nat} (hc : 0 < P.cellsOf e) (hn : 1 ≤ count) : liesAt P P.depth e count 0 e 1 = true := by
  have hd : P.depth = (2 * (P.types.size + Made.depth) + 1) + 1 := rfl
  rw [hd]
  simp only [liesAt, Bool.or_eq_true]
  left
  rw [hd]
  have : ¬ P.cellsOf e = 0 := by omega
  simp [rowAt, hn, sameLayout, this]

theorem ofUns_run (hr : HRel P w0 m E h w) {src dst u : TypeId} {x x' z : Value} (hs : P.underlying src = some .unsafePointer) (hd : P.underlying dst = some (.pointer u)) (hx : V m (szB w) x x') (hz : ofUns P u x h = some z) :
    (convert src dst x').run P w = .ok x' w ∧ V m (szB w) z x' := by
  unfold ofUns at hz
  split at hz
  · injection hz with hz; subst hz
    refine ⟨?_, hx⟩
    cases hx
    simp [convert, run_underlying hs, run_underlying hd, Conv.unsafePointer]
  · rename_i b
    split at hz
    · rename_i cs rw' hg
      cases hc : (h.tyOf b u && Nat.blt 0 (P.cellsOf u) && Nat.ble (P.cellsOf u) cs.length && (P.info? u).isSome) with
      | false => rw [hc] at hz; simp at hz
      | true =>
        rw [hc, cond_true] at hz
        injection hz with hz; subst hz
        refine ⟨?_, hx⟩
        simp only [Bool.and_eq_true] at hc
        obtain ⟨⟨⟨c1, c2⟩, c3⟩, c4⟩ := hc
        have c2 : 0 < P.cellsOf u := Nat.le_of_ble_eq_true c2
        have c3 := Nat.le_of_ble_eq_true c3
        obtain ⟨j, hj⟩ := Option.isSome_iff_exists.1 c4
        cases hx with
        | @ptr _ _ B base hm =>
          obtain ⟨B1, C1, fz1, t1, t2⟩ := hr.ty b u (AHeap.tyOf_mem c1)
          rw [hm] at t1
          simp only [Option.some.injEq, Prod.mk.injEq] at t1
          obtain ⟨rfl, rfl⟩ := t1
          obtain ⟨C, el, fz, k1, k2, _⟩ := hr.cellsM hg hm
          rw [k1] at t2
          simp only [Option.some.injEq, Obj.cells.injEq] at t2
          obtain ⟨rfl, rfl, rfl⟩ := t2
          refine Lib.run_from_unsafe (e := el) (cells := C.size) w ⟨B, 0 + 0, none⟩ hs hd hj (by simp [World.shape?, k1]) ?_
          exact lies_self c2 (by rw [Nat.one_le_div_iff c2]; have := k2.1; omega)
    · simp at hz
  · simp at hz

theorem convH_run (hr : HRel P w0 m E h w) {src dst : TypeId} {x x' z : Value} (hx : V m (szB w) x x') (hz : convH P src dst x h = some z) : ∃ z', (convert src dst x').run P w = .ok z' w ∧ V m (szB w) z z' := by
  unfold convH at hz
  split at hz
  · rename_i e hs hd; obtain ⟨h1, h2⟩ := bytesStr_run hr hs hd hx hz; exact ⟨_, h1, h2⟩
  · rename_i t hs hd; obtain ⟨h1, h2⟩ := toUns_run hr hs hd hx hz; exact ⟨_, h1, h2⟩
  · rename_i u hs hd; obtain ⟨h1, h2⟩ := ofUns_run hr hs hd hx hz; exact ⟨_, h1, h2⟩
  · exact convA_run hx hz w

theorem cat_eq (a b : ByteArray) : a ++ b = ⟨(a.data.toList ++ b.data.toList).toArray⟩ := by
  apply ByteArray.ext
  simp [ByteArray.data_append]

theorem bin2_run {op : BinOp} {t : TypeId} {ox oy : Operand} {x y z x' y' : Value} (hx : V m S x x') (hy : V m S y y') (e : bin2 P op t x y = some z) (w : World) :
    (do eqGuard op t ox oy x' y'; binOp op t x' y').run P w = .ok z w ∧ V m S z z := by
  unfold bin2 at e
  split at e
  · rename_i s u
    cases hc : Nat.ble (s.size + u.size) 1099511627776 with
    | false => rw [hc] at e; simp at e
    | true =>
      rw [hc, cond_true] at e
      injection e with e; subst e
      cases hx; cases hy
      refine ⟨?_, .str _⟩
      have h1 := Nat.le_of_ble_eq_true hc
      have h2 : ¬ (((s.size + u.size : Nat) : Int) > IntKind.i64.max) := by
        have : IntKind.i64.max = 9223372036854775807 := rfl
        omega
      simp only [eqGuard, binOp, Op.stringOp, h2]
      simp [strV, cat_eq]
  · rename_i b o c p
    cases hc : (Nat.beq b c && Nat.beq o p && ptrT P t) with
    | false => rw [hc] at e; simp at e
    | true =>
      rw [hc, cond_true] at e
      injection e with e; subst e
      simp only [Bool.and_eq_true] at hc
      have h1 := Nat.eq_of_beq_eq_true hc.1.1
      have h2 := Nat.eq_of_beq_eq_true hc.1.2
      subst h1 h2
      have h3 := hc.2
      unfold ptrT at h3
      split at h3
      · rename_i el hu
        obtain ⟨j, hj⟩ := Option.isSome_iff_exists.1 h3
        cases hx with
        | ptr q1 => cases hy with
          | ptr q2 =>
            rw [q1] at q2
            simp only [Option.some.injEq, Prod.mk.injEq] at q2
            obtain ⟨rfl, rfl⟩ := q2
            refine ⟨?_, .bool _⟩
            have key : ∀ p : Addr, (do eqGuard .eql t ox oy (.pointer (some p)) (.pointer (some p)); binOp .eql t (.pointer (some p)) (.pointer (some p))).run P w = .ok (.bool true) w := fun p => by
              have h4 := run_eql_ptr_same (P := P) w p hu hj
              have h5 : (eqGuard .eql t ox oy (.pointer (some p)) (.pointer (some p))).run P w = .ok () w := rfl
              simp only [Sem.run_bind, h5, Result.andThen_ok, h4]
            exact key _
      · simp at h3
  · rename_i b o c p
    cases hc : (Nat.beq b c && Nat.beq o p && ptrT P t) with
    | false => rw [hc] at e; simp at e
    | true =>
      rw [hc, cond_true] at e
      injection e with e; subst e
      simp only [Bool.and_eq_true] at hc
      have h1 := Nat.eq_of_beq_eq_true hc.1.1
      have h2 := Nat.eq_of_beq_eq_true hc.1.2
      subst h1 h2
      have h3 := hc.2
      unfold ptrT at h3
      split at h3
      · rename_i el hu
        obtain ⟨j, hj⟩ := Option.isSome_iff_exists.1 h3
        cases hx with
        | ptr q1 => cases hy with
          | ptr q2 =>
            rw [q1] at q2
            simp only [Option.some.injEq, Prod.mk.injEq] at q2
            obtain ⟨rfl, rfl⟩ := q2
            refine ⟨?_, .bool _⟩
            have key : ∀ p : Addr, (do eqGuard .neq t ox oy (.pointer (some p)) (.pointer (some p)); binOp .neq t (.pointer (some p)) (.pointer (some p))).run P w = .ok (.bool false) w := fun p => by
              have h4 := Lib.run_neq_ptr_same (P := P) w p hu hj
              have h5 : (eqGuard .neq t ox oy (.pointer (some p)) (.pointer (some p))).run P w = .ok () w := rfl
              simp only [Sem.run_bind, h5, Result.andThen_ok, h4]
            exact key _
      · simp at h3
  · simp at e

theorem sliceData_run {x x' y : Value} {ts : Array TypeId} {ty : TypeId} (hx : V m S x x') (e : sliceDataA x = some y) (w : World) : ∃ y', (Builtin.unsafeSliceData_ ts ty #[x']).run P w = .ok y' w ∧ V m S y y' := by
  unfold sliceDataA at e
  split at e
  · injection e with e; subst e
    cases hx
    exact ⟨_, Lib.run_unsafeSliceData_nil w ts ty 0 0, .pnil⟩
  · rename_i b off n sz
    split at e
    · simp at e
    · rename_i n
      injection e with e; subst e
      cases hx with
      | slice hm hn hz hc => exact ⟨_, Lib.run_unsafeSliceData_row w ts ty _ _ _ (by omega), .ptr hm⟩
  · simp at e

/-- A block that is let go, and turned. -/
theorem Rel.turnDel (hr : Rel P w0 m E fr h a w) {w' : World} {b B bs : Nat} {x : ABlk} (hb : h.get b = some x) (hown : x.own = true) (hn : m b = some (B, bs)) (hE : ¬ E B) (hm : Mod w w' B) : Rel P w0 m E fr (h.del b) a w' := by
  have hother : ∀ i y B' bs', i ≠ b → h.get i = some y → m i = some (B', bs') → B' ≠ B := by
    intro i y B' bs' hi hy hmi e
    subst e
    exact hi (hr.hr.inj b i x y B' bs bs' hb hy hn hmi hown).symm
  have hlive : ∀ i y, (h.del b).get i = some y → i ≠ b ∧ h.get i = some y := by
    intro i y e
    rw [AHeap.get_del] at e
    split at e
    · simp at e
    · rename_i hi; exact ⟨hi, e⟩
  constructor
  · refine ⟨(hm.keep hE).below hr.hr.base hr.hr.out, hr.hr.out, fun i hi => by rw [hm.size]; exact hr.hr.ext i hi, hr.hr.glob, fun i B' bs' e => ⟨by rw [hm.size]; exact (hr.hr.lt i B' bs' e).1, (hr.hr.lt i B' bs' e).2⟩, fun i y e => hr.hr.dom i y (hlive i y e).2, ?_, ?_,
      fun i j y y' B' b1 b2 e e' => hr.hr.inj i j y y' B' b1 b2 (hlive i y e).2 (hlive j y' e').2, fun i t e => hm.tyAt (hr.hr.ty i t e)⟩
    · intro i c rw' e
      obtain ⟨h1, h2⟩ := hlive i _ e
      rcases hr.hr.cells i c rw' h2 with hg | ⟨B', bs', C, el, fz, k1, k2, k3, k4, k5⟩
      · exact .inl hg
      · exact .inr ⟨B', bs', C, el, fz, k1, by rw [hm.block B' (hother i _ B' bs' h1 h2 k1)]; exact k2, k3.mono (MLe.refl m) hm.slen, k4, k5⟩
    · intro i es e
      obtain ⟨h1, h2⟩ := hlive i _ e
      obtain ⟨B', en, cl, k1, k2, k3, k4, k5⟩ := hr.hr.maps i es h2
      exact ⟨B', en, cl, k1, by rw [hm.block B' (hother i _ B' 0 h1 h2 k1)]; exact k2, k3, k4.mono (MLe.refl m) hm.slen, k5.1.mono (MLe.refl m) hm.slen, k5.2⟩
  · refine hr.fr.move (MLe.refl m) hm.slen (fun B' hl => ?_) (fun B' hl i y bs' e n => ?_)
    · obtain ⟨C, el, fz, _, _, _, h6⟩ := hr.fr.local_some hl
      exact hm.block B' (fun hh => h6 b _ bs hb (by rw [hh]; exact hn))
    · obtain ⟨C, el, fz, _, _, _, h6⟩ := hr.fr.local_some hl
      exact h6 i y bs' (hlive i y e).2 n

theorem mod_freeze {B n : Nat} {C : Array Value} {el : TypeId} {fz : Nat × Nat} (hB : w.heap[B]? = some (.cells C el fz)) : Mod w (w.freeze ⟨B, 0, none⟩ n) B := by
  have hfz : ∃ fz', (w.freeze ⟨B, 0, none⟩ n).heap[B]? = some (.cells C el fz') := by
    simp only [World.freeze]
    split
    · exact ⟨fz, hB⟩
    · simp only [Array.getElem?_modify, hB, if_true, Option.map_some]
      exact ⟨_, rfl⟩
  obtain ⟨fz', h1⟩ := hfz
  refine ⟨by simp only [World.freeze]; split <;> rfl, by simp only [World.freeze]; split <;> rfl, by simp only [World.freeze]; split <;> rfl, by simp only [World.freeze]; split <;> simp, fun i hi => by simp only [World.freeze]; split <;> simp [Array.getElem?_modify, Ne.symm hi], ?_, fun C2 el2 fz2 e => ?_⟩
  · unfold szB; rw [h1, hB]
  · rw [hB] at e
    simp only [Option.some.injEq, Obj.cells.injEq] at e
    obtain ⟨rfl, rfl, rfl⟩ := e
    exact ⟨C, fz', h1⟩

theorem loadBytes_run : ∀ (l : List Int) (p : Addr) (acc : ByteArray), (∀ j n, l[j]? = some n → w.cell? (p.add j) = some (.int .u8 n)) →
    (loadBytes p acc l.length).run P w = .ok ⟨acc.data ++ (l.map fun n => UInt8.ofNat n.toNat).toArray⟩ w
  | [], p, acc, _ => by simp [loadBytes]
  | x :: l, p, acc, h => by
    have h0 : w.cell? p = some (.int .u8 x) := by
      have := h 0 x rfl
      simpa [Addr.add] using this
    have ih := loadBytes_run l (p.add 1) (acc.push (UInt8.ofNat x.toNat)) (fun j y hy => by
      have := h (j + 1) y (by simpa using hy)
      have e : (p.add 1).add j = p.add (j + 1) := by
        unfold Addr.add
        by_cases hj : j = 0
        · subst hj; simp
        · simp [hj]; omega
      rw [e]; exact this)
    have hx : x.toNat.toUInt8 = UInt8.ofNat x.toNat := rfl
    simp only [List.length_cons, loadBytes, Sem.run_bind, run_load, h0, Result.andThen, hx]
    rw [ih]
    congr 1
    apply ByteArray.ext
    simp [ByteArray.push]

theorem unsStr_sound (hr : Rel P w0 m E fr h a w) {pt it ty : TypeId} {x n x' n' : Value} {p : Value × AHeap} (hx : V m (szB w) x x') (hn : V m (szB w) n n') (e : unsStr P pt x n h = some p) :
    ∃ w', (Builtin.unsafeString_ #[pt, it] ty #[x', n']).run P w = .ok p.1 w' ∧ Rel P w0 m E fr p.2 a w' ∧ Keep E w w' ∧ V m (szB w') p.1 p.1 := by
  unfold unsStr at e
  split at e
  · rename_i n
    cases hc : (n == 0) with
    | false => rw [hc] at e; simp at e
    | true =>
      rw [hc, cond_true] at e
      injection e with e; subst e
      have h0 : n = 0 := by simpa using hc
      subst h0
      cases hx; cases hn
      exact ⟨w, Lib.run_unsafeString_none w pt it ty none, hr, Keep.refl E w, .str _⟩
  · rename_i b n
    split at e
    · rename_i el cs hp hg
      cases hc : (decide (0 < n) && decide (n ≤ 1099511627776) && Nat.ble n.toNat cs.length && h.tyOf b el && Nat.beq (P.cellsOf el) 1) with
      | false => rw [hc] at e; simp at e
      | true =>
        rw [hc, cond_true, Option.map_eq_some_iff] at e
        obtain ⟨l, hl, rfl⟩ := e
        obtain ⟨ns, h1, rfl⟩ := bytesOf_some hl
        simp only [Bool.and_eq_true, decide_eq_true_eq] at hc
        obtain ⟨⟨⟨⟨c1, c2⟩, c3⟩, c4⟩, c5⟩ := hc
        have c3 := Nat.le_of_ble_eq_true c3
        have c5 := Nat.eq_of_beq_eq_true c5
        cases hn
        cases hx with
        | @ptr _ _ B base hm =>
          obtain ⟨B1, C1, fz1, t1, t2⟩ := hr.hr.ty b el (AHeap.tyOf_mem c4)
          rw [hm] at t1
          simp only [Option.some.injEq, Prod.mk.injEq] at t1
          obtain ⟨rfl, rfl⟩ := t1
          obtain ⟨C, el', fz, k1, k2, k3, k4⟩ := bytes_at (off := 0) (n := n.toNat) hr.hr hg hm (by omega) (by rw [List.drop_zero]; exact h1)
          rw [k1] at t2
          simp only [Option.some.injEq, Obj.cells.injEq] at t2
          obtain ⟨rfl, rfl, rfl⟩ := t2
          have hmod := mod_freeze (n := n.toNat) k1
          obtain ⟨_, _, _, q1, _, q2, _⟩ := hr.hr.cellsM hg hm
          have hE := (q2 rfl).1
          refine ⟨w.freeze ⟨B, 0, none⟩ n.toNat, ?_, hr.turnDel hg rfl hm hE hmod, hmod.keep hE, .str _⟩
          have hlb := loadBytes_run (P := P) (w := w) ns ⟨B, 0, none⟩ .empty (fun j q hq => by
            rw [addr_add, cell_at k1]
            have := k4 j q hq
            simpa using this)
          rw [k3] at hlb
          have hlies := Lib.liesAt_bytes (P := P) c5 (C.size / P.cellsOf el') n.toNat (by rw [c5]; simp only [Nat.div_one]; omega)
          have hmax : IntKind.i64.max = 9223372036854775807 := rfl
          have hneg : ¬ n < 0 := by omega
          have h63 : ¬ (9223372036854775807 : Int) < n := by omega
          have hne : ¬ n = 0 := by omega
          have hdef : Builtin.unsafeString_ #[pt, it] ty #[.pointer (some ⟨B, 0 + 0, none⟩), .int .i64 n] =
              (do
                let k ← asInt (.int .i64 n)
                if k < 0 then runtimePanic (.error "unsafe.String: len out of range")
                if k > IntKind.i64.max then unsupported (.unsafePointer "String: a length above the largest int")
                if k = 0 then pure (.string .empty)
                else if ← variablesAt ⟨B, 0, none⟩ (← elemOf pt) k.toNat then do
                  let s ← loadBytes ⟨B, 0, none⟩ .empty k.toNat
                  freeze ⟨B, 0, none⟩ k.toNat
                  pure (.string s)
                else unsupported (.unsafePointer "String: not so many bytes at ptr")) := rfl
          rw [hdef]
          have hsh : w.shape? B = some (el', C.size) := by simp [World.shape?, k1]
          simp [asInt, asIntOf, hmax, h63, hneg, hne, variablesAt, hsh, elemOf, run_underlying hp, hlies, hlb, strV]
    · simp at e
  · simp at e

end Go.Agm
