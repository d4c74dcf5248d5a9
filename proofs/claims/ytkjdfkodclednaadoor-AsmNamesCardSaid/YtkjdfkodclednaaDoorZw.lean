/- strings.Join, as a contract. No condition. -/
import Derived.Test.YtkjdfkodclednaaDoorZl
import Derived.Test.YtkjdfkodclednaaDoorZm
import Derived.Test.YtkjdfkodclednaaDoorZq
import Derived.Test.YtkjdfkodclednaaDoorZt
namespace Go.Proofs.YtkjdfkodclednaaDoor
section
open Go.Agm Go.Shelf
variable {w0 : World}
theorem extra156 : Builder.Extra Tryd.prog ren156 where
  sizeBuilder := by kernel_rfl
  liesBuilder := by kernel_rfl
  t5 := Tryd.underlying5
  a5 := Tryd.isAgg5
  z5 := Tryd.sizeOf5
  v5 := Tryd.zeroValue5
  infoByte := by kernel_rfl
  cellsByte := by kernel_rfl
  sizeByte := by kernel_rfl
  neB5 := by decide
def unW (cs : List Value) : List ByteArray := cs.map fun v => match v with
  | .string s => s
  | _ => ⟨⟨[]⟩⟩
theorem unW_ws (l : List ByteArray) : unW (wsC l) = l := by simp [unW, wsC, Function.comp_def]
def joinL (ws : List ByteArray) (sep : ByteArray) : List UInt8 := Lib.join (ws.map (·.data.toList)) sep.data.toList
def joinS (ws : List ByteArray) (sep : ByteArray) : ByteArray := ⟨(joinL ws sep).toArray⟩
noncomputable def con57 : Con := { f := 23, gh := [], paths := [⟨0, [], true⟩], spec := fun args bs => match args, bs with
  | [s, .string sep], [some (.cells cs rw)] => match slN s 0 1 with
    | some n => some (cs = wsC (unW cs) ∧ (unW cs).length = n ∧ 1 ≤ n ∧ n ≤ 1000 ∧ (joinL (unW cs) sep).length ≤ 1000000, [ST (joinS (unW cs) sep)], [(true, some (.cells cs rw))])
    | none => none
  | _, _ => none }
theorem con57_ok : con57.ok Tryd.prog w0 := by
  intro args bs p rs out e hp
  simp only [con57] at e
  split at e <;> first | (simp at e; done) | skip
  split at e <;> first | (simp at e; done) | skip
  rename_i s sep cs rw _ n hn
  simp only [Option.some.injEq, Prod.mk.injEq] at e
  obtain ⟨rfl, rfl, rfl⟩ := e
  obtain ⟨h1, h2, h3, h4, h5⟩ := hp
  rw [slN_eq hn]
  generalize unW cs = ws at h1 h2 h5
  subst h1
  subst h2
  change CallS Tryd.prog w0 23 [SL (Tryd.prog.globals.size + 0) ws.length 1, .string sep] (heapB Tryd.prog.globals.size [some (.cells (wsC ws) rw)]) fun rs' h' => rs' = [ST (joinS ws sep)] ∧ h' = heapB Tryd.prog.globals.size [some (.cells (wsC ws) rw)]
  intro m E W args' hr hv he
  have hget : (heapB Tryd.prog.globals.size [some (.cells (wsC ws) rw)]).get (Tryd.prog.globals.size + 0) = some (.cells (wsC ws) rw) := by
    rw [heapB_get, if_neg (by omega)]
    simp
  cases hv with
  | cons hv1 hv2 =>
    cases hv2 with
    | cons hv2 hv3 =>
      cases hv3
      cases hv2
      generalize hk : ws.length = k at hv1 h3 h4
      cases hv1 with
      | sempty => omega
      | sghost => omega
      | @slice _ _ _ _ B base c hm hn' hz hc =>
        obtain ⟨C, el, fz, k1, ⟨q1, q2, q3⟩, _⟩ := hr.cellsM hget hm
        rw [show (wsC ws).length = ws.length from List.length_map _] at q1 q3
        have hcells : ∀ (j : Nat) x, ws[j]? = some x → W.cell? ⟨B, base + 0 + j, none⟩ = some (.string x) := fun j x hx => by
          obtain ⟨y, hy, hvy⟩ := q3.get (i := j) (x := .string x) (by rw [wsC, List.getElem?_map, hx]; rfl)
          cases hvy
          have hj : j < ws.length := (List.getElem?_eq_some_iff.1 hx).1
          rw [List.getElem?_take_of_lt hj, List.getElem?_drop] at hy
          unfold World.cell?
          rw [k1]
          simpa using hy
        have hbk : B < W.heap.size := (Array.getElem?_eq_some_iff.1 k1).1
        rw [← hk]
        refine (Any.strings_Join lays156 extra156 B (base + 0) c ws sep W hcells hbk (by omega) (by omega) (show (joinL ws sep).length ≤ 140737488355328 by omega)).mono ?_
        rintro ev w' ⟨rfl, hb⟩
        have hx := ext_of hb
        exact ⟨[ST (joinS ws sep)], _, _, m, ⟨rfl, rfl⟩, rfl, MLe.refl m, hr.grow hx, hx.keep hr.ext, .str _⟩
end
section
open Go.Agm
variable {w0 : World}
abbrev sg26 (K : List Value → AHeap → Prop) (t : List Item) (fr : List AV) (h : AHeap) : Prop :=
  segK3 Tryd.prog ft0 (semI Tryd.prog (fun _ => ft0) (callsOf G [con56, con57]) 400 20 (retT G nt65 K)) Tryd.f15 [] 100 t fr (fun _ _ _ => False) (addG tabF h)
abbrev seg26 (K : List Value → AHeap → Prop) (x : Ins) : Prop := sg26 K [.code (Tryd.f15.body.getD .skip)] (startF Tryd.f15 [AG [I x.op, I x.d, I x.s, I x.imm]]) (heapB G [])
def RG (c : UInt8) (n : Int) : ByteArray := ⟨⟨c :: (itS n).data.toList⟩⟩
abbrev bnd (n : Int) : Prop := True ∧ True ∧ -9223372036854775808 ≤ n ∧ n ≤ 9223372036854775807
abbrev okR (c : UInt8) (n : Int) (X : Prop) : Prop := bnd n ∧ bif ((⟨⟨[c]⟩⟩ : ByteArray).size + (itS n).size).ble 1099511627776 then X else False
abbrev jn26 (K : List Value → AHeap → Prop) (ws : List ByteArray) : Prop :=
  ((PlainL (wsC ws) ∧ True) ∧ (PlainL (wsC ws) ∧ True) ∧ wsC ws = wsC ws ∧ ws.length = ws.length ∧ 1 ≤ ws.length ∧ ws.length ≤ 1000 ∧ (joinL ws spB).length ≤ 1000000) ∧ True ∧ K [ST (joinS ws spB)] (heapB G [])
abbrev tD (b : Bool) (d : Int) (X : Prop) : Prop := bif b then okR 114 d X else X
abbrev tJ (u j : Bool) (i : Int) (X : Prop) : Prop := bif u then okR 97 i X else bif j then (bnd i ∧ X) else X
def ws26 (f : List UInt8 × Bool × Bool × Bool) (u : Bool) (d s i : Int) : List ByteArray :=
  [⟨⟨f.1⟩⟩] ++ (bif f.2.1 then [RG 114 d] else []) ++ (bif f.2.2.1 then [RG 114 s] else []) ++ (bif u then [RG 97 i] else bif f.2.2.2 then [itS i] else [])
theorem e26 (k : Nat) (d s i : Int) (K : List Value → AHeap → Prop) (f : List UInt8 × Bool × Bool × Bool) (hf : forms[k]? = some f) : seg26 K ⟨k, d, s, i⟩
    = tD f.2.1 d (tD f.2.2.1 s (tJ (r44 k) f.2.2.2 i (jn26 K (ws26 f (r44 k) d s i)))) := by
  rcases k with _ | _ | _ | _ | _ | _ | _ | _ | _ | _ | _ | _ | _ | _ | _ | _ | _ | _ | _ | _ | _ | k
  case succ.succ.succ.succ.succ.succ.succ.succ.succ.succ.succ.succ.succ.succ.succ.succ.succ.succ.succ.succ.succ => exact absurd hf (by simp [forms])
  all_goals (obtain rfl := Option.some.inj hf; kernel_rfl)
end
section
open Go.Agm
variable {w0 : World}
theorem right_regs {x : Ins} (h : right x = true) : 0 ≤ x.d ∧ x.d ≤ 7 ∧ 0 ≤ x.s ∧ x.s ≤ 7 ∧ 0 ≤ x.op ∧ x.op ≤ 20 := by
  have hop : 0 ≤ x.op ∧ x.op ≤ 20 := by
    apply Classical.byContradiction
    intro hh
    have := right_out (o := x.op) (d := x.d) (s := x.s) (imm := x.imm) (by omega)
    rw [show (⟨x.op, x.d, x.s, x.imm⟩ : Ins) = x from rfl, h] at this
    simp at this
  unfold right r29 at h
  cases h1 : r50 x.d with
  | false => rw [h1] at h; simp at h
  | true =>
    cases h2 : r50 x.s with
    | false => rw [h1, h2] at h; simp at h
    | true =>
      unfold r50 at h1 h2
      simp only [ge_iff_le, Bool.cond_false_right, Bool.and_eq_true, decide_eq_true_eq] at h1 h2
      omega
theorem itS_size {n : Int} (h1 : -9223372036854775808 ≤ n) (h2 : n ≤ 9223372036854775807) : (itS n).size ≤ 20 := by
  rw [Lib.size_eq, itS_list]
  unfold Lib.itoa
  split
  · have := dec_len 18 n.natAbs (by omega)
    simp only [List.length_cons]; omega
  · have := dec_len 18 n.toNat (by omega)
    omega
def wordsT (x : Ins) : ByteArray := match forms[x.op.toNat]? with
  | some f => joinS (ws26 f (r44 x.op) x.d x.s x.imm) spB
  | none => noS
theorem tail_len (sep : List UInt8) : ∀ r : List (List UInt8), (∀ x ∈ r, x.length ≤ 30) → (Lib.joinTail sep r).length ≤ r.length * (sep.length + 30)
  | [], _ => by simp [Lib.joinTail]
  | x :: r, h => by
    have ih := tail_len sep r fun y hy => h y (List.mem_cons_of_mem _ hy)
    have hx := h x (by simp)
    simp only [Lib.joinTail, List.map_cons, List.flatten_cons, List.length_append, List.length_cons, Nat.succ_mul] at ih ⊢
    omega
theorem join_small {ws : List ByteArray} (hn : ws.length ≤ 10) (h : ∀ x ∈ ws, x.size ≤ 30) : (joinL ws spB).length ≤ 1000 := by
  unfold joinL
  match ws, hn, h with
  | [], _, _ => simp [Lib.join_nil]
  | x :: r, hn, h =>
    rw [List.map_cons, Lib.join_cons, List.length_append]
    have h1 := h x (by simp)
    rw [Lib.size_eq] at h1
    have h2 := tail_len spB.data.toList (r.map (·.data.toList)) (fun y hy => by
      obtain ⟨z, hz, rfl⟩ := List.mem_map.1 hy
      rw [← Lib.size_eq]; exact h z (List.mem_cons_of_mem _ hz))
    rw [show spB.data.toList.length = 1 from rfl, List.length_map] at h2
    simp only [List.length_cons] at hn
    omega
theorem RG_size (c : UInt8) {n : Int} (h1 : -9223372036854775808 ≤ n) (h2 : n ≤ 9223372036854775807) : (RG c n).size ≤ 21 := by
  have := itS_size h1 h2
  rw [Lib.size_eq] at this ⊢
  simp only [RG, List.length_cons]; omega
theorem forms_size : ∀ f ∈ forms, f.1.length ≤ 10 := by decide
theorem okR_ok {c : UInt8} {n : Int} {X : Prop} (h1 : -9223372036854775808 ≤ n) (h2 : n ≤ 9223372036854775807) (hX : X) : okR c n X := by
  have := itS_size h1 h2
  refine ⟨⟨trivial, trivial, h1, h2⟩, ?_⟩
  rw [Nat.ble_eq_true_of_le (show (⟨⟨[c]⟩⟩ : ByteArray).size + (itS n).size ≤ 1099511627776 by rw [show (⟨⟨[c]⟩⟩ : ByteArray).size = 1 from rfl]; omega)]
  exact hX
theorem ws26_ok {f : List UInt8 × Bool × Bool × Bool} {u : Bool} {d s i : Int} (hf : f ∈ forms) (hd : 0 ≤ d ∧ d ≤ 7) (hs : 0 ≤ s ∧ s ≤ 7) (hi : -2147483648 ≤ i ∧ i < 2147483648) : (ws26 f u d s i).length ≤ 10 ∧ 1 ≤ (ws26 f u d s i).length ∧ ∀ x ∈ ws26 f u d s i, x.size ≤ 30 := by
  have h0 := forms_size f hf
  have h1 := RG_size 114 (n := d) (by omega) (by omega)
  have h2 := RG_size 114 (n := s) (by omega) (by omega)
  have h3 := RG_size 97 (n := i) (by omega) (by omega)
  have h4 := itS_size (n := i) (by omega) (by omega)
  have h5 : (⟨⟨f.1⟩⟩ : ByteArray).size = f.1.length := rfl
  obtain ⟨f1, dd, ss, jj⟩ := f
  unfold ws26
  refine ⟨?_, ?_, ?_⟩
  · cases dd <;> cases ss <;> cases u <;> cases jj <;> simp
  · cases dd <;> cases ss <;> cases u <;> cases jj <;> simp
  · intro x hx
    simp only [List.mem_append] at hx
    rcases hx with ((hx | hx) | hx) | hx
    · rw [List.mem_singleton.1 hx, h5]; omega
    · cases dd with
      | true => rw [List.mem_singleton.1 hx]; omega
      | false => simp at hx
    · cases ss with
      | true => rw [List.mem_singleton.1 hx]; omega
      | false => simp at hx
    · cases u with
      | true => rw [List.mem_singleton.1 hx]; omega
      | false => cases jj with
        | true => rw [List.mem_singleton.1 hx]; omega
        | false => simp at hx
noncomputable def con26 : Con := { f := 15, gh := [], paths := [], spec := fun args bs => match args, bs with
  | [v], [] => match aggV v with
    | some [o, d, s, i] => some (right ⟨o, d, s, i⟩ = true, [ST (wordsT ⟨o, d, s, i⟩)], [])
    | _ => none
  | _, _ => none }
theorem ok26 (hL : Lw w0) : ∀ c ∈ [con56, con57], c.ok Tryd.prog w0 := fun c hc => by
  simp only [List.mem_cons, List.not_mem_nil, or_false] at hc
  rcases hc with rfl | rfl
  · exact con56_ok hL.lz hL.sz
  · exact con57_ok
theorem via26 (hL : Lw w0) {K : List Value → AHeap → Prop} {t : List Item} {fr : List AV} {h : AHeap} {R : Prop} (ev : sg26 K t fr h = R) (r : R) : Agm.Sem Tryd.prog w0 (Tryd.prog.globals.size + nt65.flags.length) Tryd.f15 (retT Tryd.prog.globals.size nt65 K) t fr h :=
  sem_addG hL.tab (seg_semI3 (F := ft0) mixed (callsOf_ok (ok26 hL)) (fun _ _ _ hh => hh.elim) [] 20 100 (ev.mpr r))
theorem tJ_ok {u j : Bool} {i : Int} {X : Prop} (h1 : -9223372036854775808 ≤ i) (h2 : i ≤ 9223372036854775807) (hX : X) : tJ u j i X := by
  simp only [tJ]
  cases u with
  | true => exact okR_ok h1 h2 hX
  | false => cases j with
    | true => exact ⟨⟨trivial, trivial, h1, h2⟩, hX⟩
    | false => exact hX
theorem tD_ok {b : Bool} {d : Int} {X : Prop} (h1 : -9223372036854775808 ≤ d) (h2 : d ≤ 9223372036854775807) (hX : X) : tD b d X := by
  simp only [tD]
  cases b with
  | true => exact okR_ok h1 h2 hX
  | false => exact hX
theorem con26_ok (hL : Lw w0) : con26.ok Tryd.prog w0 := by
  intro args bs p rs out e hp
  simp only [con26] at e
  split at e <;> first | (simp at e; done) | skip
  split at e <;> first | (simp at e; done) | skip
  rename_i v _ o d s i hv
  simp only [Option.some.injEq, Prod.mk.injEq] at e
  obtain ⟨rfl, rfl, rfl⟩ := e
  rw [aggV_eq hv]
  change CallS Tryd.prog w0 15 [AG [I o, I d, I s, I i]] (heapB Tryd.prog.globals.size []) fun rs' h' => rs' = [ST (wordsT ⟨o, d, s, i⟩)] ∧ h' = heapB Tryd.prog.globals.size []
  have hn : (heapB Tryd.prog.globals.size []).next = Tryd.prog.globals.size + nt65.flags.length := by rw [heapB_next]; rfl
  refine retT_call (nt := nt65) hn (call_sem (cd := Tryd.f15.body.getD .skip) Tryd.func15 (by kernel_rfl) ?_)
  rw [hn]
  generalize hK : (fun rs' h' => rs' = [ST (wordsT ⟨o, d, s, i⟩)] ∧ h' = heapB Tryd.prog.globals.size [] : List Value → AHeap → Prop) = K
  have hKK : K [ST (wordsT ⟨o, d, s, i⟩)] (heapB G []) := by rw [← hK]; exact ⟨rfl, rfl⟩
  clear hK
  obtain ⟨b1, b2, b3, b4, b5, b6⟩ := right_regs hp
  obtain ⟨b7, b8⟩ := right_imm hp
  simp only at b1 b2 b3 b4 b5 b6 b7 b8
  obtain ⟨k, rfl⟩ : ∃ k : Nat, o = k := ⟨o.toNat, by omega⟩
  have hk : k < forms.length := by have : forms.length = 21 := rfl; omega
  have hf : forms[k]? = some forms[k] := List.getElem?_eq_getElem hk
  unfold wordsT at hKK
  simp only [Int.toNat_natCast, hf] at hKK
  obtain ⟨q1, q2, q3⟩ := ws26_ok (u := r44 k) (List.getElem_mem hk) ⟨b1, b2⟩ ⟨b3, b4⟩ ⟨b7, b8⟩
  refine via26 hL (e26 k d s i K _ hf) ?_
  have hj : jn26 K (ws26 forms[k] (r44 k) d s i) := ⟨⟨⟨plain_ws _, trivial⟩, ⟨plain_ws _, trivial⟩, rfl, rfl, q2, by omega, by have := join_small q1 q3; omega⟩, trivial, hKK⟩
  exact tD_ok (by omega) (by omega) (tD_ok (by omega) (by omega) (tJ_ok (by omega) (by omega) hj))
end
section
open Go.Agm
variable {w0 : World}
noncomputable def ft9 : FT := { loc := fun _ => false, mask := fun id => bif Nat.beq id 6 then live 69 [0, 6, 20, 21, 22] else bif Nat.beq id 15 then live 69 [0, 6, 9, 44, 45] else bif Nat.beq id 18 then live 69 [0, 6, 9, 10, 44, 45] else bif Nat.beq id 19 then live 69 [0, 6, 9, 10, 44, 45] else [] }
abbrev nt9A : Nt := { gh := [], flags := [true], paths := [⟨6, [], true⟩], tr := [] }
abbrev nt9B : Nt := { gh := [], flags := [true], paths := [⟨6, [], true⟩, ⟨9, [], false⟩], tr := [], ty := [(2, 43)] }
abbrev nt9C : Nt := { gh := [], flags := [true], paths := [⟨6, [], true⟩, ⟨9, [], false⟩, ⟨9, [1], true⟩], tr := [], ty := [(2, 43), (3, 5)] }
abbrev nt9 : Nt := { gh := [], flags := [true], paths := [], tr := [] }
noncomputable def t9a : List Item := todoOf Tryd.f8 6
noncomputable def t9b : List Item := todoOf Tryd.f8 15
noncomputable def t9c : List Item := todoOf Tryd.f8 18
noncomputable def t9d : List Item := todoOf Tryd.f8 19
abbrev seg9 (nt15 : Nt) (cs : List Con) (K : List Value → AHeap → Prop) (L : List Item → List AV → AHeap → Prop) (t : List Item) (fr : List AV) (h : AHeap) : Prop :=
  segK3 Tryd.prog ft9 (semI Tryd.prog (fun _ => ft0) (callsOf G cs) 400 20 (retT G nt9 K)) Tryd.f8 [6, 15, 18, 19] 100 t fr (fun t fr h => match t with
  | .code (.region 6 _ _) :: _ => canonT G nt9A (L t) fr h
  | .code (.region _ _ _) :: _ => canonT G nt15 (L t) fr h
  | _ => False) h
abbrev MP (b : Nat) : Value := .map (some b)
noncomputable def fr9a (n : Nat) (i : Int) : List AV := frm 69 [(0, .v (SL G n 4)), (6, .v (MP (G + 1))), (20, .v (SL G n 4)), (21, .v (I n)), (22, .v (I i))]
noncomputable def fr9b (n : Nat) (m i : Int) : List AV := frm 69 [(0, .v (SL G n 4)), (6, .v (MP (G + 1))), (9, .v (PT (G + 2))), (44, .v (I m)), (45, .v (I i))]
noncomputable def fr9c (n : Nat) (m i : Int) : List AV := frm 69 [(0, .v (SL G n 4)), (6, .v (MP (G + 1))), (9, .v (PT (G + 2))), (10, .v (I i)), (44, .v (I m)), (45, .v (I i))]
noncomputable def hp9a (cs : List Value) (rw : Bool) (es : List (Value × Value)) : AHeap := heapB G [some (.cells cs rw), some (.map es)]
noncomputable def hp9B (cs : List Value) (rw : Bool) (es : List (Value × Value)) : AHeap := heapT G [some (.cells cs rw), some (.map es), some (.cells [.pointer none, .slice none 0 0] true)] (tyG G [(2, 43)])
noncomputable def hp9C (cs : List Value) (rw : Bool) (es : List (Value × Value)) (m : Nat) (b : List Value) : AHeap := heapT G [some (.cells cs rw), some (.map es), some (.cells [PT (G + 2), SL (G + 3) m 1] true), some (.cells b true)] (tyG G [(2, 43), (3, 5)])
end
section
open Go.Agm
variable {w0 : World}
abbrev PE (cs : List Value) (es : List (Value × Value)) : Prop := PlainL cs ∧ (PlainL (es.map (·.1)) ∧ PlainL (es.map (·.2))) ∧ True
abbrev PEb (cs : List Value) (es : List (Value × Value)) (b : List Value) : Prop := PlainL cs ∧ (PlainL (es.map (·.1)) ∧ PlainL (es.map (·.2))) ∧ PlainL b ∧ True
abbrev putP (n : Nat) (cs : List Value) (X : Prop) : Prop := (PlainL cs ∧ True) ∧ (PlainL cs ∧ True) ∧ cs = insC (unIns cs) ∧ (unIns cs).length = n ∧ X
theorem start9 (n : Nat) (cs : List Value) (rw : Bool) (K : List Value → AHeap → Prop) (L : List Item → List AV → AHeap → Prop) : seg9 nt9B [con22] K L [.code (Tryd.f8.body.getD .skip)] (startF Tryd.f8 [SL G n 4]) (heapB G [some (.cells cs rw)])
    = (putP n cs (n ≤ 128 ∧ ∀ x ∈ unIns cs, right x = true) ∧ PE cs [] ∧ L t9a (fr9a n 0) (hp9a cs rw [])) := by kernel_rfl
theorem start9b (n : Nat) (cs : List Value) (rw : Bool) (K : List Value → AHeap → Prop) (L : List Item → List AV → AHeap → Prop) : seg9 nt9B [con22b] K L [.code (Tryd.f8.body.getD .skip)] (startF Tryd.f8 [SL G n 4]) (heapB G [some (.cells cs rw)])
    = (putP n cs (128 < n ∨ ∃ x ∈ unIns cs, right x = false) ∧ (PlainL cs ∧ True) ∧ K [SB [], .iface 40 (I (putE n))] (heapB G [some (.cells cs rw)])) := by kernel_rfl
abbrev kIs (es : List (Value × Value)) : Bool := es.all fun e => isKeyD (.int .i64) e.1
abbrev cf (cs : List Value) (i : Int) (j : Nat) : Int := intO (nth cs (at4 i j))
abbrev end9a (n : Nat) (cs : List Value) (rw : Bool) (es : List (Value × Value)) (L : List Item → List AV → AHeap → Prop) : Prop := PE cs es ∧ L t9b (fr9b n (w ((n : Int) + 1)) 0) (hp9B cs rw es)
theorem h9aT (n : Nat) (i : Int) (cs : List Value) (rw : Bool) (es : List (Value × Value)) (K : List Value → AHeap → Prop) (L : List Item → List AV → AHeap → Prop) : seg9 nt9B [con44k true] K L t9a (fr9a n i) (hp9a cs rw es)
    = (bif decide (i < (n : Int)) then
      bif decide (0 ≤ i) && decide (i < (n : Int)) then
      bif ok4 cs i then
        (True ∧ True ∧ r44 (cf cs i 0) = true) ∧
        bif decide (cf cs i 3 > (n : Int)) then (PlainL cs ∧ True) ∧ K [SB [], .iface 40 (I 11)] (heapB G [some (.cells cs rw)])
        else bif kIs es then
          bif hasK (I (cf cs i 3)) es then
            bif okI .i64 (getK (I (cf cs i 3)) es) then
            bif kIs es then PE cs (upsert (I (cf cs i 3)) (I (w (intO (getK (I (cf cs i 3)) es) + 1))) es) ∧ L t9a (fr9a n (w (i + 1))) (hp9a cs rw (upsert (I (cf cs i 3)) (I (w (intO (getK (I (cf cs i 3)) es) + 1))) es))
            else False
            else False
          else bif kIs es then PE cs (upsert (I (cf cs i 3)) (I 1) es) ∧ L t9a (fr9a n (w (i + 1))) (hp9a cs rw (upsert (I (cf cs i 3)) (I 1) es))
          else False
        else False
      else False
      else False
    else end9a n cs rw es L) := by kernel_rfl
theorem h9aF (n : Nat) (i : Int) (cs : List Value) (rw : Bool) (es : List (Value × Value)) (K : List Value → AHeap → Prop) (L : List Item → List AV → AHeap → Prop) : seg9 nt9B [con44k false] K L t9a (fr9a n i) (hp9a cs rw es)
    = (bif decide (i < (n : Int)) then
      bif decide (0 ≤ i) && decide (i < (n : Int)) then
      bif ok4 cs i then (True ∧ True ∧ r44 (cf cs i 0) = false) ∧ PE cs es ∧ L t9a (fr9a n (w (i + 1))) (hp9a cs rw es)
      else False
      else False
    else end9a n cs rw es L) := by kernel_rfl
abbrev sel15 (i m : Int) (es : List (Value × Value)) (Y N E : Prop) : Prop :=
  bif decide (i < m) then
    bif kIs es then
      bif hasK (I i) es then
        bif okI .i64 (getK (I i) es) then bif decide (intO (getK (I i) es) > 0) then Y else N else False
      else N
    else False
  else E
theorem e15F (n : Nat) (m i : Int) (cs : List Value) (rw : Bool) (es : List (Value × Value)) (K : List Value → AHeap → Prop) (L : List Item → List AV → AHeap → Prop) : seg9 nt9B [] K L t9b (fr9b n m i) (hp9B cs rw es)
    = sel15 i m es (PE cs es ∧ L t9c (fr9c n m i) (hp9B cs rw es)) (PE cs es ∧ L t9d (fr9c n m i) (hp9B cs rw es)) ((PlainL cs ∧ True) ∧ K [SB [], .nilIface] (heapB G [some (.cells cs rw)])) := by kernel_rfl
theorem e15U (n : Nat) (m i : Int) (cs : List Value) (rw : Bool) (es : List (Value × Value)) (k : Nat) (b : List Value) (K : List Value → AHeap → Prop) (L : List Item → List AV → AHeap → Prop) : seg9 nt9C [] K L t9b (fr9b n m i) (hp9C cs rw es k b)
    = sel15 i m es (PEb cs es b ∧ L t9c (fr9c n m i) (hp9C cs rw es k b)) (PEb cs es b ∧ L t9d (fr9c n m i) (hp9C cs rw es k b))
      (bif Nat.blt 0 k then
        bif ((k : Int) == (k : Int)) && sameW (G + 3) k 1 then
        bif decide (0 < (k : Int)) && decide ((k : Int) ≤ 1099511627776) && (k : Int).toNat.ble b.length && (b.take (k : Int).toNat).all isU8 then
          (PlainL cs ∧ True) ∧ K [strV ((b.take (k : Int).toNat).map u8O), .nilIface] (heapB G [some (.cells cs rw)])
        else False
        else False
      else False) := by kernel_rfl
def bC (l : List UInt8) : List Value := l.map fun b => .int .u8 (b.toNat : Int)
def NM (i : Int) : ByteArray := ⟨⟨97 :: ((itS i).data.toList ++ [58, 10])⟩⟩
def WL (x : Ins) : ByteArray := ⟨⟨(wordsT x).data.toList ++ [10]⟩⟩
abbrev big : Nat := 1099511627776
abbrev nmOk (i : Int) (X : Prop) : Prop := bnd i ∧ bif ((⟨⟨[97]⟩⟩ : ByteArray).size + (itS i).size).ble big then bif ((RG 97 i).size + (⟨⟨[58, 10]⟩⟩ : ByteArray).size).ble big then X else False else False
theorem e18F (n : Nat) (m i : Int) (cs : List Value) (rw : Bool) (es : List (Value × Value)) (K : List Value → AHeap → Prop) (L : List Item → List AV → AHeap → Prop) : seg9 nt9C [con56] K L t9c (fr9c n m i) (hp9B cs rw es)
    = nmOk i (bif room (NM i).size 1 then PEb cs es (bC (NM i).data.toList) ∧ L t9d (fr9c n m i) (hp9C cs rw es (NM i).size (bC (NM i).data.toList)) else False) := by kernel_rfl
abbrev apB (b : List Value) (k : Nat) (s : ByteArray) : List Value := (b.drop 0).take (k * 1) ++ bC s.data.toList
theorem e18U (n : Nat) (m i : Int) (cs : List Value) (rw : Bool) (es : List (Value × Value)) (k : Nat) (b : List Value) (K : List Value → AHeap → Prop) (L : List Item → List AV → AHeap → Prop) : seg9 nt9C [con56] K L t9c (fr9c n m i) (hp9C cs rw es k b)
    = nmOk i (bif room (k + (NM i).size) 1 then bif (0 + k * 1).ble b.length then PEb cs es (apB b k (NM i)) ∧ L t9d (fr9c n m i) (hp9C cs rw es (k + (NM i).size) (apB b k (NM i))) else False else False) := by kernel_rfl
abbrev x4 (cs : List Value) (i : Int) : Ins := ⟨cf cs i 0, cf cs i 1, cf cs i 2, cf cs i 3⟩
abbrev wd19 (n : Nat) (i : Int) (cs : List Value) (Z : Prop) (Y : ByteArray → Prop) (N : Prop) : Prop :=
  bif decide (i < (n : Int)) then
    bif decide (0 ≤ i) && decide (i < (n : Int)) then
    bif ok4 cs i then
      (True ∧ True ∧ right (x4 cs i) = true) ∧
      bif ((wordsT (x4 cs i)).size + (⟨⟨[10]⟩⟩ : ByteArray).size).ble big then
        bif (WL (x4 cs i)).size.beq 0 then Z else Y (WL (x4 cs i))
      else False
    else False
    else False
  else N
theorem e19F (n : Nat) (m i : Int) (cs : List Value) (rw : Bool) (es : List (Value × Value)) (K : List Value → AHeap → Prop) (L : List Item → List AV → AHeap → Prop) : seg9 nt9C [con26] K L t9d (fr9c n m i) (hp9B cs rw es)
    = wd19 n i cs False (fun s => bif room s.size 1 then PEb cs es (bC s.data.toList) ∧ L t9b (fr9b n m (w (i + 1))) (hp9C cs rw es s.size (bC s.data.toList)) else False) False := by kernel_rfl
theorem e19Z (m : Int) (cs : List Value) (rw : Bool) (es : List (Value × Value)) (K : List Value → AHeap → Prop) (L : List Item → List AV → AHeap → Prop) : seg9 nt9B [] K L t9d (fr9c 0 m 0) (hp9B cs rw es)
    = (PE cs es ∧ L t9b (fr9b 0 m 1) (hp9B cs rw es)) := by kernel_rfl
theorem e19U (n : Nat) (m i : Int) (cs : List Value) (rw : Bool) (es : List (Value × Value)) (k : Nat) (b : List Value) (K : List Value → AHeap → Prop) (L : List Item → List AV → AHeap → Prop) : seg9 nt9C [con26] K L t9d (fr9c n m i) (hp9C cs rw es k b)
    = wd19 n i cs (PEb cs es b ∧ L t9b (fr9b n m (w (i + 1))) (hp9C cs rw es k b))
      (fun s => bif room (k + s.size) 1 then bif (0 + k * 1).ble b.length then PEb cs es (apB b k s) ∧ L t9b (fr9b n m (w (i + 1))) (hp9C cs rw es (k + s.size) (apB b k s)) else False else False)
      (PEb cs es b ∧ L t9b (fr9b n m (w (i + 1))) (hp9C cs rw es k b)) := by kernel_rfl
end
section
open Go.Agm
variable {w0 : World}
/-! Maps of numbers. -/
def mC (l : List (Int × Int)) : List (Value × Value) := l.map fun p => (I p.1, I p.2)
def fI : List (Int × Int) → Int → Option Int
  | [], _ => none
  | p :: r, v => if v = p.1 then some p.2 else fI r v
def upI : List (Int × Int) → Int → Int → List (Int × Int)
  | [], v, c => [(v, c)]
  | p :: r, v, c => if v = p.1 then (v, c) :: r else p :: upI r v c
theorem keyEq_i (a b : Int) : keyEq (I a) (I b) = decide (a = b) := by
  simp only [keyEq]
  by_cases h : a = b
  · rw [decide_eq_true h]; exact beq_iff_eq.2 h
  · rw [decide_eq_false h]; exact beq_eq_false_iff_ne.2 h
theorem getK_i (v : Int) : ∀ l : List (Int × Int), getK (I v) (mC l) = (fI l v).map I
  | [] => rfl
  | p :: r => by
    have ih := getK_i v r
    simp only [mC, List.map_cons, getK, keyEq_i, fI]
    by_cases h : v = p.1
    · simp [h]
    · simp only [h, decide_false, cond_false, if_false]; exact ih
theorem hasK_i (v : Int) : ∀ l : List (Int × Int), hasK (I v) (mC l) = (fI l v).isSome
  | [] => rfl
  | p :: r => by
    have ih := hasK_i v r
    simp only [mC, List.map_cons, hasK, keyEq_i, fI]
    by_cases h : v = p.1
    · simp [h]
    · simp only [h, decide_false, Bool.false_or, if_false]; exact ih
theorem kIs_i (l : List (Int × Int)) : kIs (mC l) = true := by
  unfold kIs mC
  rw [List.all_eq_true]
  intro e he
  obtain ⟨p, _, rfl⟩ := List.mem_map.1 he
  rfl
theorem upsert_i (v c : Int) : ∀ l : List (Int × Int), upsert (I v) (I c) (mC l) = mC (upI l v c)
  | [] => rfl
  | p :: r => by
    have ih := upsert_i v c r
    simp only [mC, List.map_cons, upsert, keyEq_i, upI]
    by_cases h : v = p.1
    · simp [h]
    · simp only [h, decide_false, cond_false, if_false, List.map_cons]
      congr 1
theorem fI_up (v c u : Int) : ∀ l : List (Int × Int), fI (upI l v c) u = if u = v then some c else fI l u
  | [] => rfl
  | p :: r => by
    have ih := fI_up v c u r
    simp only [upI]
    by_cases h : v = p.1
    · rw [if_pos h]
      simp only [fI]
      by_cases h2 : u = v
      · rw [if_pos h2, if_pos h2]
      · rw [if_neg h2, if_neg h2, if_neg (by rw [← h]; exact h2)]
    · rw [if_neg h]
      simp only [fI]
      by_cases h2 : u = p.1
      · rw [if_pos h2, if_pos h2, if_neg (by rw [h2]; exact fun e => h e.symm)]
      · rw [if_neg h2, if_neg h2, ih]
theorem plain_mC (l : List (Int × Int)) : PlainL ((mC l).map (·.1)) ∧ PlainL ((mC l).map (·.2)) := by
  constructor <;>
  · intro x hx
    simp only [mC, List.map_map, List.mem_map, Function.comp_apply] at hx
    obtain ⟨p, _, rfl⟩ := hx
    rfl
theorem pe (l : List Ins) (m : List (Int × Int)) : PE (insC l) (mC m) := ⟨plain_insC l, plain_mC m, trivial⟩
theorem plain_bC (l : List UInt8) : PlainL (bC l) := by
  intro x hx
  obtain ⟨b, _, rfl⟩ := List.mem_map.1 hx
  rfl
theorem peb (l : List Ins) (m : List (Int × Int)) (b : List UInt8) : PEb (insC l) (mC m) (bC b) := ⟨plain_insC l, plain_mC m, plain_bC b, trivial⟩
theorem bC_len (l : List UInt8) : (bC l).length = l.length := List.length_map _
theorem bC_app (a b : List UInt8) : bC a ++ bC b = bC (a ++ b) := by simp [bC]
theorem apB_eq (a : List UInt8) (s : ByteArray) : apB (bC a) a.length s = bC (a ++ s.data.toList) := by
  simp only [apB]
  rw [List.drop_zero, List.take_of_length_le (by rw [bC_len]; omega), bC_app]
theorem bC_all (l : List UInt8) : (bC l).all isU8 = true := by
  rw [List.all_eq_true]
  intro e he
  obtain ⟨b, _, rfl⟩ := List.mem_map.1 he
  rfl
theorem bC_back (l : List UInt8) : (bC l).map u8O = l := by
  unfold bC
  rw [List.map_map]
  conv => rhs; rw [← List.map_id l]
  refine List.map_congr_left fun b _ => ?_
  simp [u8O]
/-! What a program's text is. -/
/-- Does a jump go to a place? -/
def isJ (l : List Ins) (i : Int) : Bool := l.any fun x => r44 x.op && decide (x.imm = i)
def pieceT (l : List Ins) (i : Nat) : List UInt8 := (bif isJ l i then (NM i).data.toList else []) ++ (match l[i]? with
  | some x => (WL x).data.toList
  | none => [])
def textTo (l : List Ins) (i : Nat) : List UInt8 := (List.range i).flatMap (pieceT l)
def textP (l : List Ins) : ByteArray × Int :=
  if 128 < l.length then (noS, 10) else if l.any (fun x => !right x) then (noS, 1)
  else if l.any (fun x => r44 x.op && decide (x.imm > l.length)) then (noS, 11) else (⟨⟨textTo l (l.length + 1)⟩⟩, 0)
def errE (e : Int) : Value := if e = 0 then .nilIface else .iface 40 (I e)
abbrev Sem9 (w0 : World) (K : List Value → AHeap → Prop) (t : List Item) (fr : List AV) (h : AHeap) : Prop := Agm.Sem Tryd.prog w0 (Tryd.prog.globals.size + nt9.flags.length) Tryd.f8 (retT Tryd.prog.globals.size nt9 K) t fr h
theorem leaf9 {nt : Nt} (hn : nt.flags = [true]) {K : List Value → AHeap → Prop} : ∀ t fr h, (match t with
    | .code (.region 6 _ _) :: _ => canonT G nt9A (Sem9 w0 K t) fr h
    | .code (.region _ _ _) :: _ => canonT G nt (Sem9 w0 K t) fr h
    | _ => False) → Sem9 w0 K t fr h := by
  intro t fr h e
  split at e
  · exact canonT_semN (nt := nt9A) rfl e
  · exact canonT_semN (nt := nt) (by rw [hn]) e
  · exact e.elim
theorem via9 {nt : Nt} (hn : nt.flags = [true]) {cs : List Con} (hc : ∀ c ∈ cs, c.ok Tryd.prog w0) {K : List Value → AHeap → Prop} {t : List Item} {fr : List AV} {h : AHeap} {R : Prop} (ev : seg9 nt cs K (Sem9 w0 K) t fr h = R) (r : R) : Sem9 w0 K t fr h :=
  seg_semI3 (F := ft9) mixed (callsOf_ok hc) (leaf9 hn) [6, 15, 18, 19] 20 100 (ev.mpr r)
theorem okJ1 (u : Bool) : ∀ c ∈ [con44k u], c.ok Tryd.prog w0 := fun c hc => by
  simp only [List.mem_cons, List.not_mem_nil, or_false] at hc
  subst hc
  exact con44k_ok u
theorem cf_read {l : List Ins} {i : Nat} (h : i < l.length) : ok4 (insC l) (i : Int) = true ∧ cf (insC l) i 0 = l[i].op ∧ cf (insC l) i 3 = l[i].imm ∧ x4 (insC l) i = l[i] := by
  obtain ⟨h1, h2, h3, h4⟩ := nth_insC h
  refine ⟨(ok_insC h).1, ?_, ?_, ?_⟩
  · simp only [cf, at4, Int.toNat_natCast, Nat.zero_add, Nat.add_zero, h1]; rfl
  · simp only [cf, at4, Int.toNat_natCast, Nat.zero_add, h4]; rfl
  · simp only [x4, cf, at4, Int.toNat_natCast, Nat.zero_add, Nat.add_zero, h1, h2, h3, h4]; rfl
/-- What is counted. -/
def Cnt (m : List (Int × Int)) (a : List Ins) : Prop := ∀ v, (∀ c, fI m v = some c → 1 ≤ c ∧ c ≤ a.length ∧ isJ a v = true) ∧ (fI m v = none → isJ a v = false)
theorem isJ_app (a : List Ins) (x : Ins) (v : Int) : isJ (a ++ [x]) v = (isJ a v || (r44 x.op && decide (x.imm = v))) := by simp [isJ]
section
variable {K : List Value → AHeap → Prop} {l : List Ins} {rw : Bool}
theorem loop9a (hl : l.length ≤ 128) (hbad : l.any (fun x => r44 x.op && decide (x.imm > l.length)) = true → K [SB [], .iface 40 (I 11)] (heapB G [some (.cells (insC l) rw)]))
    (hend : l.any (fun x => r44 x.op && decide (x.imm > l.length)) = false → ∀ m, Cnt m l → Sem9 w0 K t9b (fr9b l.length ((l.length + 1 : Nat) : Int) 0) (hp9B (insC l) rw (mC m))) :
    ∀ (b : List Ins) (i : Nat) (m : List (Int × Int)), l.drop i = b → i ≤ l.length → Cnt m (l.take i) → (l.take i).any (fun x => r44 x.op && decide (x.imm > l.length)) = false → Sem9 w0 K t9a (fr9a l.length i) (hp9a (insC l) rw (mC m)) := by
  intro b
  induction b with
  | nil =>
    intro i m hb hi hm hno
    refine via9 (nt := nt9B) rfl (okJ1 true) (h9aT _ i _ rw _ K (Sem9 w0 K)) ?_
    have := congrArg List.length hb
    simp only [List.length_drop, List.length_nil] at this
    rw [decide_eq_false (show ¬ (i : Int) < (l.length : Int) by omega), cond_false]
    simp only [end9a]
    rw [w_succ (by omega)]
    rw [List.take_of_length_le (by omega)] at hm hno
    exact ⟨pe _ _, hend hno m hm⟩
  | cons x r ih =>
    intro i m hb hi hm hno
    have hlt : i < l.length := by
      have := congrArg List.length hb
      simp only [List.length_drop, List.length_cons] at this
      omega
    have hx : l[i] = x ∧ l.drop (i + 1) = r := by
      rw [List.drop_eq_getElem_cons hlt] at hb
      injection hb with h1 h2
      exact ⟨h1, h2⟩
    obtain ⟨g1, g2, g3, g4⟩ := cf_read hlt
    have htk : l.take (i + 1) = l.take i ++ [x] := by rw [List.take_succ_eq_append_getElem hlt, hx.1]
    have hti : (l.take i).length = i := by rw [List.length_take]; omega
    cases hu : r44 x.op with
    | false =>
      refine via9 (nt := nt9B) rfl (okJ1 false) (h9aF _ i _ rw _ K (Sem9 w0 K)) ?_
      rw [decide_eq_true (show (i : Int) < (l.length : Int) by omega), decide_eq_true (show (0 : Int) ≤ (i : Int) by omega), g1, g2, hx.1, w_succ (by omega)]
      refine ⟨⟨trivial, trivial, hu⟩, pe _ _, ih (i + 1) m hx.2 (by omega) (fun v => ?_) ?_⟩
      · rw [htk, isJ_app, hu, Bool.false_and, Bool.or_false, List.length_append, hti]
        obtain ⟨k1, k2⟩ := hm v
        rw [hti] at k1
        exact ⟨fun c hc => by obtain ⟨q1, q2, q3⟩ := k1 c hc; exact ⟨q1, by simp only [List.length_singleton]; omega, q3⟩, k2⟩
      · rw [htk, List.any_append, hno, Bool.false_or]; simp [hu]
    | true =>
      refine via9 (nt := nt9B) rfl (okJ1 true) (h9aT _ i _ rw _ K (Sem9 w0 K)) ?_
      rw [decide_eq_true (show (i : Int) < (l.length : Int) by omega), decide_eq_true (show (0 : Int) ≤ (i : Int) by omega), g1, g2, g3, hx.1, w_succ (by omega)]
      refine ⟨⟨trivial, trivial, hu⟩, ?_⟩
      by_cases hbig : x.imm > (l.length : Int)
      · rw [decide_eq_true hbig]
        refine ⟨⟨plain_insC l, trivial⟩, hbad (List.any_eq_true.2 ⟨x, ?_, by rw [hu, decide_eq_true hbig]; rfl⟩)⟩
        rw [← hx.1]; exact List.getElem_mem hlt
      · rw [decide_eq_false hbig]
        have next : ∀ c, 1 ≤ c → c ≤ ((i + 1 : Nat) : Int) → Sem9 w0 K t9a (fr9a l.length ((i + 1 : Nat) : Int)) (hp9a (insC l) rw (mC (upI m x.imm c))) := fun c h1 h2 => by
          refine ih (i + 1) (upI m x.imm c) hx.2 (by omega) (fun v => ?_) ?_
          · rw [fI_up, htk, isJ_app, hu, Bool.true_and, List.length_append, hti]
            obtain ⟨k1, k2⟩ := hm v
            rw [hti] at k1
            by_cases hv : v = x.imm
            · rw [if_pos hv, decide_eq_true hv.symm, Bool.or_true]
              refine ⟨fun c' hc => ?_, fun h => by simp at h⟩
              injection hc with hc
              subst hc
              exact ⟨h1, by simp only [List.length_singleton]; omega, rfl⟩
            · rw [if_neg hv, decide_eq_false (fun e => hv e.symm), Bool.or_false]
              exact ⟨fun c hc => by obtain ⟨q1, q2, q3⟩ := k1 c hc; exact ⟨q1, by simp only [List.length_singleton]; omega, q3⟩, k2⟩
          · rw [htk, List.any_append, hno, Bool.false_or]; simp [hu]; omega
        rw [cond_false, kIs_i, hasK_i, getK_i]
        cases hf : fI m x.imm with
        | none =>
          simp only [Option.isSome_none, cond_false, cond_true]
          rw [upsert_i]
          exact ⟨pe _ _, next 1 (by omega) (by omega)⟩
        | some c =>
          obtain ⟨q1, q2, q3⟩ := (hm x.imm).1 c hf
          rw [hti] at q2
          simp only [Option.isSome_some, Option.map_some, cond_true]
          rw [show okI .i64 (some (I c)) = true from rfl, show intO (some (I c)) = c from rfl, cond_true, show w (c + 1) = c + 1 by rw [w_id (by omega) (by omega)], upsert_i]
          exact ⟨pe _ _, next (c + 1) (by omega) (by omega)⟩
end
end
section
open Go.Agm
variable {w0 : World}
theorem NM_size {i : Int} (h1 : -9223372036854775808 ≤ i) (h2 : i ≤ 9223372036854775807) : (NM i).size ≤ 23 ∧ 0 < (NM i).size := by
  have := itS_size h1 h2
  rw [Lib.size_eq] at this ⊢
  simp only [NM, List.length_cons, List.length_append, List.length_nil]; omega
theorem wordsT_size {x : Ins} (h : right x = true) : (wordsT x).size ≤ 1000 := by
  obtain ⟨b1, b2, b3, b4, b5, b6⟩ := right_regs h
  obtain ⟨b7, b8⟩ := right_imm h
  have hk : x.op.toNat < forms.length := by have : forms.length = 21 := rfl; omega
  unfold wordsT
  rw [List.getElem?_eq_getElem hk]
  obtain ⟨q1, q2, q3⟩ := ws26_ok (u := r44 x.op) (List.getElem_mem hk) ⟨b1, b2⟩ ⟨b3, b4⟩ ⟨b7, b8⟩
  have := join_small q1 q3
  simp only [joinS]
  rw [size_of]; exact this
theorem WL_size {x : Ins} (h : right x = true) : (WL x).size ≤ 1001 ∧ 0 < (WL x).size := by
  have := wordsT_size h
  rw [Lib.size_eq] at this ⊢
  simp only [WL, List.length_append, List.length_singleton]; omega
theorem textTo_succ (l : List Ins) (i : Nat) : textTo l (i + 1) = textTo l i ++ pieceT l i := by
  simp [textTo, List.range_succ]
theorem piece_len {l : List Ins} (hr : ∀ x ∈ l, right x = true) {i : Nat} (hi : i ≤ 1000) : (pieceT l i).length ≤ 1100 := by
  have h1 := (NM_size (i := i) (by omega) (by omega)).1
  rw [Lib.size_eq] at h1
  unfold pieceT
  rw [List.length_append]
  cases h : l[i]? with
  | none => cases isJ l i <;> simp only [cond_true, cond_false, List.length_nil] <;> omega
  | some x =>
    have h3 := (WL_size (hr x (List.mem_of_getElem? h))).1
    rw [Lib.size_eq] at h3
    cases isJ l i <;> simp only [cond_true, cond_false, List.length_nil] <;> omega
theorem text_len {l : List Ins} (hr : ∀ x ∈ l, right x = true) : ∀ i : Nat, i ≤ 1000 → (textTo l i).length ≤ i * 1100
  | 0, _ => by simp [textTo]
  | i + 1, hi => by
    rw [textTo_succ, List.length_append]
    have := text_len hr i (by omega)
    have := piece_len hr (i := i) (by omega)
    omega
theorem ok56 (hL : Lw w0) : ∀ c ∈ [con56], c.ok Tryd.prog w0 := fun c hc => by
  simp only [List.mem_cons, List.not_mem_nil, or_false] at hc
  subst hc
  exact con56_ok hL.lz hL.sz
theorem okW (hL : Lw w0) : ∀ c ∈ [con26], c.ok Tryd.prog w0 := fun c hc => by
  simp only [List.mem_cons, List.not_mem_nil, or_false] at hc
  subst hc
  exact con26_ok hL
theorem nm_ok {i : Nat} (hi : i ≤ 1000) {X : Prop} (hX : X) : nmOk i X := by
  have h := itS_size (n := i) (by omega) (by omega)
  have h2 := RG_size 97 (n := i) (by omega) (by omega)
  refine ⟨⟨trivial, trivial, by omega, by omega⟩, ?_⟩
  rw [Nat.ble_eq_true_of_le (show (⟨⟨[97]⟩⟩ : ByteArray).size + (itS i).size ≤ 1099511627776 by rw [show (⟨⟨[97]⟩⟩ : ByteArray).size = 1 from rfl]; omega),
    Nat.ble_eq_true_of_le (show (RG 97 i).size + (⟨⟨[58, 10]⟩⟩ : ByteArray).size ≤ 1099511627776 by rw [show (⟨⟨[58, 10]⟩⟩ : ByteArray).size = 2 from rfl]; omega)]
  exact hX
theorem room1 {n : Nat} (h : n ≤ 1000000) : room n 1 = true := Nat.ble_eq_true_of_le (by omega)
section
variable {K : List Value → AHeap → Prop} {l : List Ins} {rw : Bool} {m : List (Int × Int)}
/-- The words of an instruction, or nothing. -/
theorem wd19_ok (hr : ∀ x ∈ l, right x = true) {i : Nat} (hi : i ≤ 1000) {Z : Prop} {Y : ByteArray → Prop} {N : Prop} (hY : ∀ h : i < l.length, Y (WL l[i])) (hN : l.length ≤ i → N) : wd19 l.length i (insC l) Z Y N := by
  simp only [wd19]
  by_cases h : i < l.length
  · obtain ⟨g1, g2, g3, g4⟩ := cf_read h
    have hx := hr l[i] (List.getElem_mem h)
    have hs := wordsT_size hx
    rw [decide_eq_true (show (i : Int) < (l.length : Int) by omega), decide_eq_true (show (0 : Int) ≤ (i : Int) by omega), g1, g4]
    refine ⟨⟨trivial, trivial, hx⟩, ?_⟩
    rw [Nat.ble_eq_true_of_le (show (wordsT l[i]).size + (⟨⟨[10]⟩⟩ : ByteArray).size ≤ 1099511627776 by rw [show (⟨⟨[10]⟩⟩ : ByteArray).size = 1 from rfl]; omega),
      show (WL l[i]).size.beq 0 = false from by
        have := (WL_size hx).2
        cases hh : (WL l[i]).size.beq 0 with
        | false => rfl
        | true => have := Nat.eq_of_beq_eq_true hh; omega]
    exact hY h
  · rw [decide_eq_false (show ¬ (i : Int) < (l.length : Int) by omega)]
    exact hN (by omega)
theorem step19 (hL : Lw w0) (hl : l.length ≤ 128) (hr : ∀ x ∈ l, right x = true) {i : Nat} (hi : i ≤ l.length) {acc : List UInt8} (ha : acc.length ≤ 500000)
    (hN : Sem9 w0 K t9b (fr9b l.length ((l.length + 1 : Nat) : Int) ((i + 1 : Nat) : Int)) (hp9C (insC l) rw (mC m) (acc ++ (match l[i]? with
      | some x => (WL x).data.toList
      | none => [])).length (bC (acc ++ (match l[i]? with
      | some x => (WL x).data.toList
      | none => []))))) :
    Sem9 w0 K t9d (fr9c l.length ((l.length + 1 : Nat) : Int) i) (hp9C (insC l) rw (mC m) acc.length (bC acc)) := by
  refine via9 (nt := nt9C) rfl (okW hL) (e19U _ _ i _ rw _ _ _ K (Sem9 w0 K)) (wd19_ok hr (by omega) (fun h => ?_) (fun h => ?_))
  · rw [List.getElem?_eq_getElem h] at hN
    have hs := (WL_size (hr l[i] (List.getElem_mem h))).1
    rw [room1 (by omega), Nat.ble_eq_true_of_le (show 0 + acc.length * 1 ≤ (bC acc).length by rw [bC_len]; omega), apB_eq, w_succ (by omega)]
    rw [List.length_append, ← Lib.size_eq] at hN
    exact ⟨peb _ _ _, hN⟩
  · rw [List.getElem?_eq_none (by omega)] at hN
    rw [w_succ (by omega)]
    rw [List.append_nil] at hN
    exact ⟨peb _ _ _, hN⟩
theorem sel_ok (hm : Cnt m l) {i n : Nat} (hi : i < n) {Y N E : Prop} (hY : isJ l i = true → Y) (hN : isJ l i = false → N) : sel15 i n (mC m) Y N E := by
  simp only [sel15]
  rw [decide_eq_true (show (i : Int) < (n : Int) by omega), kIs_i, hasK_i, getK_i]
  cases hf : fI m i with
  | none => exact hN ((hm i).2 hf)
  | some c =>
    obtain ⟨q1, q2, q3⟩ := (hm i).1 c hf
    simp only [Option.isSome_some, Option.map_some, cond_true]
    rw [show okI .i64 (some (I c)) = true from rfl, show decide (intO (some (I c)) > 0) = true from decide_eq_true (show c > 0 by omega)]
    exact hY q3
theorem used9 (hL : Lw w0) (hl : l.length ≤ 128) (hr : ∀ x ∈ l, right x = true) (hm : Cnt m l) (hK : K [ST ⟨⟨textTo l (l.length + 1)⟩⟩, .nilIface] (heapB G [some (.cells (insC l) rw)])) : ∀ (q i : Nat), i + q = l.length + 1 → textTo l i ≠ [] →
    Sem9 w0 K t9b (fr9b l.length ((l.length + 1 : Nat) : Int) i) (hp9C (insC l) rw (mC m) (textTo l i).length (bC (textTo l i))) := by
  intro q
  induction q with
  | zero =>
    intro i hi hne
    refine via9 (nt := nt9C) rfl okNo (e15U _ _ i _ rw _ _ _ K (Sem9 w0 K)) ?_
    have hlen := text_len hr i (by omega)
    have hpos : 0 < (textTo l i).length := List.length_pos_iff.2 hne
    simp only [sel15]
    rw [decide_eq_false (show ¬ (i : Int) < ((l.length + 1 : Nat) : Int) by omega), cond_false, show Nat.blt 0 (textTo l i).length = true from Nat.ble_eq_true_of_le hpos, sameW_true, beq_self_eq_true, decide_eq_true (show (0 : Int) < ((textTo l i).length : Int) by omega),
      decide_eq_true (show ((textTo l i).length : Int) ≤ 1099511627776 by omega), Int.toNat_natCast, Nat.ble_eq_true_of_le (show (textTo l i).length ≤ (bC (textTo l i)).length by rw [bC_len]; omega), List.take_of_length_le (by rw [bC_len]; omega), bC_all, bC_back]
    have hi' : i = l.length + 1 := by omega
    subst hi'
    exact ⟨⟨plain_insC l, trivial⟩, hK⟩
  | succ q ih =>
    intro i hi hne
    refine via9 (nt := nt9C) rfl okNo (e15U _ _ i _ rw _ _ _ K (Sem9 w0 K)) ?_
    have hlen := text_len hr i (by omega)
    have hnext := ih (i + 1) (by omega) (by rw [textTo_succ]; simp [hne])
    rw [textTo_succ] at hnext
    unfold pieceT at hnext
    refine sel_ok hm (by omega) (fun hj => ⟨peb _ _ _, ?_⟩) (fun hj => ⟨peb _ _ _, ?_⟩)
    · rw [hj, cond_true, ← List.append_assoc] at hnext
      have hnm := (NM_size (i := i) (by omega) (by omega)).1
      refine via9 (nt := nt9C) rfl (ok56 hL) (e18U _ _ i _ rw _ _ _ K (Sem9 w0 K)) (nm_ok (by omega) ?_)
      rw [room1 (by omega), Nat.ble_eq_true_of_le (show 0 + (textTo l i).length * 1 ≤ (bC (textTo l i)).length by rw [bC_len]; omega), apB_eq]
      have := step19 (acc := textTo l i ++ (NM i).data.toList) hL hl hr (show i ≤ l.length by omega) (by rw [List.length_append, ← Lib.size_eq]; omega) hnext
      rw [List.length_append, ← Lib.size_eq] at this
      exact ⟨peb _ _ _, this⟩
    · rw [hj, cond_false, List.nil_append] at hnext
      exact step19 hL hl hr (by omega) (by omega) hnext
theorem fresh9 (hL : Lw w0) (hl : l.length ≤ 128) (hr : ∀ x ∈ l, right x = true) (hm : Cnt m l) (hK : K [ST ⟨⟨textTo l (l.length + 1)⟩⟩, .nilIface] (heapB G [some (.cells (insC l) rw)])) :
    Sem9 w0 K t9b (fr9b l.length ((l.length + 1 : Nat) : Int) 0) (hp9B (insC l) rw (mC m)) := by
  refine via9 (nt := nt9B) rfl okNo (e15F _ _ ((0 : Nat) : Int) _ rw _ K (Sem9 w0 K)) ?_
  have h1 : textTo l (0 + 1) = pieceT l 0 := by rw [textTo_succ]; rfl
  have hn : pieceT l 0 ≠ [] → Sem9 w0 K t9b (fr9b l.length ((l.length + 1 : Nat) : Int) ((0 + 1 : Nat) : Int)) (hp9C (insC l) rw (mC m) (pieceT l 0).length (bC (pieceT l 0))) := fun h => by
    have := used9 hL hl hr hm hK l.length 1 (by omega) (by rw [h1]; exact h)
    rw [h1] at this
    exact this
  refine sel_ok hm (by omega) (fun hj => ⟨pe _ _, ?_⟩) (fun hj => ⟨pe _ _, ?_⟩)
  · have hnm := NM_size (i := ((0 : Nat) : Int)) (by omega) (by omega)
    refine via9 (nt := nt9C) rfl (ok56 hL) (e18F _ _ ((0 : Nat) : Int) _ rw _ K (Sem9 w0 K)) (nm_ok (by omega) ?_)
    rw [room1 (by omega)]
    have hne : pieceT l 0 ≠ [] := by unfold pieceT; rw [hj]; simp [NM]
    have h2 := hn hne
    unfold pieceT at h2
    rw [hj, cond_true] at h2
    have := step19 (acc := (NM ((0 : Nat) : Int)).data.toList) hL hl hr (Nat.zero_le _) (by rw [← Lib.size_eq]; omega) h2
    rw [← Lib.size_eq] at this
    exact ⟨peb _ _ _, this⟩
  · by_cases h0 : l = []
    · subst h0
      refine via9 (nt := nt9B) rfl okNo (e19Z _ _ rw _ K (Sem9 w0 K)) ⟨pe [] _, ?_⟩
      refine via9 (nt := nt9B) rfl okNo (e15F _ _ 1 _ rw _ K (Sem9 w0 K)) ?_
      simp only [sel15]
      rw [show decide ((1 : Int) < (([] : List Ins).length + 1 : Nat)) = false from rfl, cond_false]
      exact ⟨⟨plain_insC [], trivial⟩, hK⟩
    · have hpos : 0 < l.length := List.length_pos_iff.2 h0
      refine via9 (nt := nt9C) rfl (okW hL) (e19F _ _ ((0 : Nat) : Int) _ rw _ K (Sem9 w0 K)) (wd19_ok hr (by omega) (fun h => ?_) (fun h => by omega))
      have hs := WL_size (hr l[0] (List.getElem_mem h))
      have hp : pieceT l 0 = (WL l[0]).data.toList := by
        unfold pieceT
        rw [hj, cond_false, List.nil_append, List.getElem?_eq_getElem h]
      have h2 := hn (by rw [hp]; intro e; have := hs.2; rw [Lib.size_eq, e] at this; simp at this)
      rw [hp, ← Lib.size_eq] at h2
      rw [room1 (by omega), w_succ (by omega)]
      exact ⟨peb _ _ _, h2⟩
theorem all9 (hL : Lw w0) (hK : K [ST (textP l).1, errE (textP l).2] (heapB G [some (.cells (insC l) rw)])) (t9 : List Item) (fr : List AV)
    (st : (L : List Item → List AV → AHeap → Prop) → seg9 nt9B [con22] K L t9 fr (heapB G [some (.cells (insC l) rw)]) = (putP l.length (insC l) (l.length ≤ 128 ∧ ∀ x ∈ unIns (insC l), right x = true) ∧ PE (insC l) [] ∧ L t9a (fr9a l.length 0) (hp9a (insC l) rw [])))
    (sb : (L : List Item → List AV → AHeap → Prop) → seg9 nt9B [con22b] K L t9 fr (heapB G [some (.cells (insC l) rw)]) = (putP l.length (insC l) (128 < l.length ∨ ∃ x ∈ unIns (insC l), right x = false) ∧ (PlainL (insC l) ∧ True) ∧ K [SB [], .iface 40 (I (putE l.length))] (heapB G [some (.cells (insC l) rw)]))) :
    Sem9 w0 K t9 fr (heapB G [some (.cells (insC l) rw)]) := by
  have hpl : PlainL (insC l) ∧ True := ⟨plain_insC l, trivial⟩
  have ok22g : ∀ c ∈ [con22], c.ok Tryd.prog w0 := fun c hc => by
    simp only [List.mem_cons, List.not_mem_nil, or_false] at hc
    subst hc
    exact con22_ok
  have ok22h : ∀ c ∈ [con22b], c.ok Tryd.prog w0 := fun c hc => by
    simp only [List.mem_cons, List.not_mem_nil, or_false] at hc
    subst hc
    exact con22b_ok
  unfold textP at hK
  have bad : (128 < l.length ∨ ∃ x ∈ unIns (insC l), right x = false) → K [SB [], .iface 40 (I (putE l.length))] (heapB G [some (.cells (insC l) rw)]) → Sem9 w0 K t9 fr (heapB G [some (.cells (insC l) rw)]) := fun h hk =>
    via9 (nt := nt9B) rfl ok22h (sb (Sem9 w0 K)) ⟨⟨hpl, hpl, by rw [unIns_insC], by rw [unIns_insC], h⟩, hpl, hk⟩
  by_cases h1 : 128 < l.length
  · rw [if_pos h1] at hK
    refine bad (.inl h1) ?_
    rw [putE, if_pos h1]
    exact hK
  · rw [if_neg h1] at hK
    by_cases h2 : l.any (fun x => !right x) = true
    · rw [if_pos h2] at hK
      refine bad (.inr ?_) ?_
      · obtain ⟨x, hx, hr⟩ := List.any_eq_true.1 h2
        exact ⟨x, by rw [unIns_insC]; exact hx, by simpa using hr⟩
      · rw [putE, if_neg h1]
        exact hK
    · rw [if_neg h2] at hK
      have hr : ∀ x ∈ l, right x = true := fun x hx => by
        cases hh : right x with
        | true => rfl
        | false => exact absurd (List.any_eq_true.2 ⟨x, hx, by rw [hh]; rfl⟩) h2
      refine via9 (nt := nt9B) rfl ok22g (st (Sem9 w0 K)) ⟨⟨hpl, hpl, by rw [unIns_insC], by rw [unIns_insC], by omega, by rw [unIns_insC]; exact hr⟩, ⟨plain_insC l, plain_mC [], trivial⟩, ?_⟩
      refine loop9a (m := []) (by omega) (fun hb => ?_) (fun hb m hm => ?_) l 0 rfl (Nat.zero_le _) (fun v => ⟨fun c h => by simp [fI] at h, fun _ => rfl⟩) rfl
      · rw [if_pos hb] at hK
        exact hK
      · rw [if_neg (by rw [hb]; simp)] at hK
        exact fresh9 hL (by omega) hr hm hK
end
/-- A program's text, or why it has none. -/
noncomputable def con9 (t : ByteArray) (ev : Value) : Con := { f := 8, gh := [⟨0, none, 4⟩], paths := [⟨0, [], true⟩], spec := fun args bs => match args, bs with
  | [s], [some (.cells cs rw)] => match slN s 0 4 with
    | some n => some (cs = insC (unIns cs) ∧ (unIns cs).length = n ∧ (textP (unIns cs)).1 = t ∧ errE (textP (unIns cs)).2 = ev, [ST t, ev], [(true, some (.cells cs rw))])
    | none => none
  | _, _ => none }
set_option maxRecDepth 100000 in
theorem con9_ok (hL : Lw w0) (t : ByteArray) (ev : Value) : (con9 t ev).ok Tryd.prog w0 := by
  intro args bs p rs out e hp
  simp only [con9] at e
  split at e <;> first | (simp at e; done) | skip
  split at e <;> first | (simp at e; done) | skip
  rename_i s cs rw _ n hn
  simp only [Option.some.injEq, Prod.mk.injEq] at e
  obtain ⟨rfl, rfl, rfl⟩ := e
  obtain ⟨h1, h2, h3, h4⟩ := hp
  rw [slN_eq hn]
  generalize unIns cs = l at h1 h2 h3 h4
  subst h1 h2 h3 h4
  change CallS Tryd.prog w0 8 [SL Tryd.prog.globals.size l.length 4] (heapB Tryd.prog.globals.size [some (.cells (insC l) rw)]) fun rs' h' => rs' = [ST (textP l).1, errE (textP l).2] ∧ h' = heapB Tryd.prog.globals.size [some (.cells (insC l) rw)]
  have hnn : (heapB Tryd.prog.globals.size [some (.cells (insC l) rw)]).next = Tryd.prog.globals.size + nt9.flags.length := by rw [heapB_next]; rfl
  refine retT_call (nt := nt9) hnn (call_sem (cd := Tryd.f8.body.getD .skip) Tryd.func8 (by kernel_rfl) ?_)
  rw [hnn]
  generalize hK : (fun rs' h' => rs' = [ST (textP l).1, errE (textP l).2] ∧ h' = heapB Tryd.prog.globals.size [some (.cells (insC l) rw)] : List Value → AHeap → Prop) = K
  have hKK : K [ST (textP l).1, errE (textP l).2] (heapB G [some (.cells (insC l) rw)]) := by rw [← hK]; exact ⟨rfl, rfl⟩
  clear hK
  exact all9 hL hKK _ _ (fun L => start9 l.length (insC l) rw K L) (fun L => start9b l.length (insC l) rw K L)
end
section
open Go.Agm
variable {w0 : World}
abbrev nt0 : Nt := { gh := [], flags := [], paths := [], tr := [] }
def sp8 : ByteArray := ⟨#[115, 101, 116, 32, 114, 48, 32, 50, 10, 101, 120, 105, 116, 10]⟩
def l8 : List Ins := [⟨0, 0, 0, 2⟩, ⟨20, 0, 0, 0⟩]
theorem parse8 : parseR sp8 = (none, l8) := by kernel_rfl
theorem text8 : textP l8 = (sp8, 0) := by kernel_rfl
end
section
open Go.Agm
variable {w0 : World}
theorem e8 (K : List Value → AHeap → Prop) : evSeg Tryd.f5 [con12p l8 [I 0, .nilIface], con9 sp8 .nilIface] nt0 [] [] K
    = ((True ∧ (PlainL (insC l8) ∧ True) ∧ sp8.size ≤ 100000 ∧ (parseP sp8).2 = l8 ∧ errV (parseP sp8).1 = [I 0, .nilIface]) ∧
      ((PlainL (insC l8) ∧ True) ∧ (PlainL (insC l8) ∧ True) ∧ insC l8 = insC (unIns (insC l8)) ∧ (unIns (insC l8)).length = 2 ∧ (textP (unIns (insC l8))).1 = sp8 ∧ errE (textP (unIns (insC l8))).2 = .nilIface) ∧
      True ∧ K [B true] (heapB G [])) := by kernel_rfl
noncomputable def con8 : Con := { f := 5, gh := [], paths := [], spec := fun args bs => match args, bs with
  | [], [] => some (True, [B true], [])
  | _, _ => none }
set_option maxRecDepth 100000 in
theorem con8_ok (hL : Lw w0) : con8.ok Tryd.prog w0 := by
  intro args bs p rs out e _
  simp only [con8] at e
  split at e <;> first | (simp at e; done) | skip
  simp only [Option.some.injEq, Prod.mk.injEq] at e
  obtain ⟨rfl, rfl, rfl⟩ := e
  change CallS Tryd.prog w0 5 [] (heapB Tryd.prog.globals.size []) fun rs' h' => rs' = [B true] ∧ h' = heapB Tryd.prog.globals.size []
  refine ev_callS (nt := nt0) (cs := [con12p l8 [I 0, .nilIface], con9 sp8 .nilIface]) (f := 5) (bs := []) Tryd.func5 (by kernel_rfl) (fun c hc => by
    simp only [List.mem_cons, List.not_mem_nil, or_false] at hc
    rcases hc with rfl | rfl
    · exact con12p_ok hL _ _
    · exact con9_ok hL _ _) rfl ?_
  have hp : parseP sp8 = (none, l8) := by rw [parse_eq, parse8]
  have hpl : PlainL (insC l8) ∧ True := ⟨plain_insC _, trivial⟩
  refine (e8 _).mpr ⟨⟨trivial, hpl, by decide, by rw [hp], by rw [hp]; rfl⟩, ⟨hpl, hpl, rfl, rfl, ?_, ?_⟩, trivial, rfl, rfl⟩
  · rw [unIns_insC, text8]
  · rw [unIns_insC, text8]; rfl
end
end Go.Proofs.YtkjdfkodclednaaDoor
