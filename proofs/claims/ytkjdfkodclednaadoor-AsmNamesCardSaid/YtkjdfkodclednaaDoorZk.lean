/- The library's functions, as contracts. No condition. -/
import Derived.Test.YtkjdfkodclednaaDoorZl
import Derived.Test.YtkjdfkodclednaaDoorB14
import Derived.Test.YtkjdfkodclednaaDoorKa
import Derived.WalkKit
import Derived.WalkSmall
import Derived.Deep.QuietTactic
import Derived.BigQuiet
import Derived.BigGuard
namespace Go.Agm
variable {P : Program} {w0 : World} {m : MapN} {E : Nat → Prop} {h : AHeap} {w : World}
/-- A new row, anywhere behind. -/
theorem HRel.newAt (hr : HRel P w0 m E h w) {w1 : World} (he : Ext w w1) {N : Nat} (hN : w.heap.size ≤ N) {cs : List Value} {C : Array Value} {el : TypeId} (hB : w1.heap[N]? = some (.cells C el (0, 0))) (hv : VL m (szB w) cs (C.toList.take cs.length)) (hl : cs.length ≤ C.size) (ho : ∀ x ∈ cs, one x = true) :
    HRel P w0 (mnew m h.next N) E (h.new (.cells cs true)) w1 := by
  have hle : MLe m (mnew m h.next N) := mnew_le hr.fresh
  have hr' := hr.grow he
  refine ⟨hr'.base, hr'.out, hr'.ext, fun g hg => hle _ _ (hr.glob g hg), ?_, ?_, ?_, ?_, ?_, fun b t e => (hr'.ty b t e).le hle⟩
  · intro b B bs e
    simp only [mnew] at e
    by_cases hb : b = h.next
    · rw [if_pos hb] at e
      injection e with e
      injection e with e1 e2
      subst e1
      refine ⟨some_lt hB, ?_⟩
      rw [hb]; simp [AHeap.new]
    · rw [if_neg hb] at e
      refine ⟨(hr'.lt b B bs e).1, ?_⟩
      have := (hr.lt b B bs e).2
      simp only [AHeap.new]
      omega
  · intro b x e
    rw [AHeap.get_new] at e
    simp only [AHeap.new]
    by_cases hb : b = h.next
    · omega
    · rw [if_neg hb] at e
      have := hr.dom b x e
      omega
  · intro b cs' rw' e
    rw [AHeap.get_new] at e
    by_cases hb : b = h.next
    · rw [if_pos hb] at e
      injection e with e
      injection e with e1 e2
      subst e1 e2
      refine .inr ⟨N, 0, C, el, (0, 0), by simp [mnew, hb], hB, ⟨by omega, ho, ?_⟩, fun _ => ⟨fun hx => by have := hr.ext _ hx; omega, fun i _ hi => by omega⟩, by simp⟩
      simp only [List.drop_zero]
      exact hv.mono hle he.len
    · rw [if_neg hb] at e
      rcases hr'.cells b cs' rw' e with ⟨g1, g2, g3⟩ | ⟨B, bs, C', el', fz, k1, k2, k3, k4, k5⟩
      · exact .inl ⟨g1, g2, by simp only [mnew, if_neg hb]; exact g3⟩
      exact .inr ⟨B, bs, C', el', fz, hle _ _ k1, k2, k3.mono hle (fun _ => Nat.le_refl _), k4, k5⟩
  · intro b es e
    rw [AHeap.get_new] at e
    by_cases hb : b = h.next
    · rw [if_pos hb] at e; simp at e
    · rw [if_neg hb] at e
      obtain ⟨B, en, cl, k1, k2, k3, k4, k5⟩ := hr'.maps b es e
      exact ⟨B, en, cl, hle _ _ k1, k2, k3, k4.mono hle (fun _ => Nat.le_refl _), k5.1.mono hle (fun _ => Nat.le_refl _), k5.2⟩
  · intro b b' x x' B bs bs' e e' n n' hown
    rw [AHeap.get_new] at e e'
    simp only [mnew] at n n'
    by_cases hb : b = h.next
    · by_cases hb' : b' = h.next
      · rw [hb, hb']
      · rw [if_pos hb] at n
        rw [if_neg hb'] at n'
        have := (hr.lt b' B bs' n').1
        simp at n
        omega
    · by_cases hb' : b' = h.next
      · rw [if_pos hb'] at n'
        rw [if_neg hb] at n
        have := (hr.lt b B bs n).1
        simp at n'
        omega
      · rw [if_neg hb] at e n
        rw [if_neg hb'] at e' n'
        exact hr.inj b b' x x' B bs bs' e e' n n' hown
end Go.Agm
namespace Go.Proofs.YtkjdfkodclednaaDoor
open Go.Agm Go.Shelf Go.RowKit
variable {w0 : World}
/-- What the library's variables hold. -/
structure Lz (W : World) : Prop where
  max : ∃ m, W.cell? ⟨1, 0, none⟩ = some (.int .i64 m)
  pow : Lib.TabIs Tryd.prog W "internal/strconv.uint64pow10" .u64 Lib.pow10Tab
  syn : ∃ ev, W.cell? ⟨3, 0, none⟩ = some ev ∧ (ev = .nilIface ∨ ∃ te pe, ev = .iface te pe)
  rng : ∃ ev, W.cell? ⟨4, 0, none⟩ = some ev ∧ (ev = .nilIface ∨ ∃ te pe, ev = .iface te pe)
theorem Tryd.pow_at : Tryd.prog.globalNamed "internal/strconv.uint64pow10" = some 2 := by kernel_rfl
theorem Lz.of {W W' : World} {n : Nat} (hg : 9 ≤ n) (h : Lz W) (hb : Below n W W') : Lz W' := by
  obtain ⟨m, e⟩ := h.max
  obtain ⟨x, e1, e2⟩ := h.syn
  obtain ⟨y, e3, e4⟩ := h.rng
  refine ⟨⟨m, ?_⟩, ?_, ⟨x, ?_, e2⟩, ⟨y, ?_, e4⟩⟩
  · rw [← e]; exact hb.cell (show 1 < _ by omega)
  · exact var?_below hb Tryd.pow_at (show 2 < _ by omega) h.pow
  · rw [← e1]; exact hb.cell (show 3 < _ by omega)
  · rw [← e3]; exact hb.cell (show 4 < _ by omega)
def itS (n : Int) : ByteArray := ⟨(Lib.itoa n).toArray⟩
theorem bel_bytes {W W' : World} {t : TypeId} (hW : W' = W ∨ ∃ r, W' = Lib.bytesWorld W t r) : Below W.heap.size W W' := by
  rcases hW with rfl | ⟨t, rfl⟩
  · exact Below.refl _ _
  · exact Lib.bytesWorld_below _ _ _
theorem g11 : Tryd.prog.globals.size = 9 := by kernel_rfl
theorem ext_of {W W' : World} (hb : Below W.heap.size W W') : Ext W W' := ⟨hb.os, hb.tape, hb.output, hb.size, hb.block⟩
def outR : List Value → Value
  | [x] => x
  | xs => .tuple xs.toArray
theorem outR_res {m : MapN} {S : Nat → Nat} {rs : List Value} (h : ∀ x ∈ rs, plainD 5 x = true) : ResV m S rs (outR rs) := by
  match rs, h with
  | [], h => exact ⟨#[], rfl, .nil⟩
  | [x], h => exact V.of_plain 5 (h x (List.mem_singleton.2 rfl))
  | x :: y :: r, h => exact ⟨_, rfl, VL.of_plain 5 h⟩
/-- Functions of the library's, that answer values alone. -/
theorem ext_callW {f : Nat} {args rs : List Value} {h : AHeap} (hz : Lz w0) (hg : 9 ≤ w0.heap.size) (ha : ∀ (m : MapN) (S : Nat → Nat) (args' : List Value), VL m S args args' → args' = args)
    (hc : ∀ W : World, Lz W → 9 ≤ W.heap.size → Below w0.heap.size w0 W → Calls Tryd.prog f args.toArray W fun e W' => ∃ v, e = .returned v ∧ (∀ (m : MapN) (S : Nat → Nat), ResV m S rs v) ∧ Below W.heap.size W W') :
    CallS Tryd.prog w0 f args h fun rs' h' => rs' = rs ∧ h' = h := by
  intro m E W args' hr hl _
  rw [ha _ _ _ hl]
  refine (hc W (hz.of hg hr.base) (Nat.le_trans hg hr.base.size) hr.base).mono ?_
  rintro e W' ⟨v, rfl, hv, hb⟩
  have he := ext_of hb
  exact ⟨rs, h, v, m, ⟨rfl, rfl⟩, rfl, fun _ _ hx => hx, hr.grow he, he.keep hr.ext, hv m _⟩
/-- strings.Cut. -/
def cutA (s p : ByteArray) : ByteArray := ⟨(Lib.cut s.data.toList p.data.toList).1.toArray⟩
def cutB (s p : ByteArray) : ByteArray := ⟨(Lib.cut s.data.toList p.data.toList).2.1.toArray⟩
def cutO (s p : ByteArray) : Bool := (Lib.cut s.data.toList p.data.toList).2.2
noncomputable def con32 : Con := { f := 17, gh := [], paths := [], spec := fun args bs => match args, bs with
  | [.string a, .string b], [] => some (a.size ≤ 1000000, [.string (cutA a b), .string (cutB a b), .bool (cutO a b)], [])
  | _, _ => none }
theorem con32_ok (hz : Lz w0) (hg : 9 ≤ w0.heap.size) : con32.ok Tryd.prog w0 := by
  intro args bs p rs out e hp
  simp only [con32] at e
  split at e <;> first | (simp at e; done) | skip
  rename_i a b
  simp only [Option.some.injEq, Prod.mk.injEq] at e
  obtain ⟨rfl, rfl, rfl⟩ := e
  refine ext_callW hz hg (fun m S args' hl => hl.plain 5 fun x hx => ?_) fun W hW _ _ => ?_
  · simp only [List.mem_cons, List.not_mem_nil, or_false] at hx
    rcases hx with rfl | rfl <;> rfl
  · obtain ⟨m, hm⟩ := hW.max
    refine (Any.strings_Cut lays145 a b m W (by omega) hm).mono ?_
    rintro e W' ⟨rfl, n, rfl⟩
    exact ⟨_, rfl, fun m S => ⟨_, rfl, .cons (.str _) (.cons (.str _) (.cons (.bool _) .nil))⟩, below_drewN W n⟩
/-- strings.CutSuffix. -/
def sufA (s p : ByteArray) : ByteArray := ⟨(Lib.trimSuffix s.data.toList p.data.toList).toArray⟩
def sufO (s p : ByteArray) : Bool := Lib.hasSuffix s.data.toList p.data.toList
noncomputable def con63 : Con := { f := 25, gh := [], paths := [], spec := fun args bs => match args, bs with
  | [.string a, .string b], [] => some (a.size ≤ 1000000, [.string (sufA a b), .bool (sufO a b)], [])
  | _, _ => none }
theorem con63_ok (hz : Lz w0) (hg : 9 ≤ w0.heap.size) : con63.ok Tryd.prog w0 := by
  intro args bs p rs out e hp
  simp only [con63] at e
  split at e <;> first | (simp at e; done) | skip
  rename_i a b
  simp only [Option.some.injEq, Prod.mk.injEq] at e
  obtain ⟨rfl, rfl, rfl⟩ := e
  refine ext_callW hz hg (fun m S args' hl => hl.plain 5 fun x hx => ?_) fun W hW _ _ => ?_
  · simp only [List.mem_cons, List.not_mem_nil, or_false] at hx
    rcases hx with rfl | rfl <;> rfl
  · refine (Any.strings_CutSuffix lays104 a b W (by omega)).mono ?_
    rintro e W' ⟨rfl, rfl⟩
    exact ⟨_, rfl, fun m S => ⟨_, rfl, .cons (.str _) (.cons (.bool _) .nil)⟩, Below.refl _ _⟩
/-- strconv.Itoa. -/
noncomputable def con56 : Con := { f := 22, gh := [], paths := [], spec := fun args bs => match args, bs with
  | [v], [] => match intV v with
    | some n => some (-9223372036854775808 ≤ n ∧ n ≤ 9223372036854775807, [.string (itS n)], [])
    | none => none
  | _, _ => none }
theorem con56_ok (hz : Lz w0) (hg : 9 ≤ w0.heap.size) : con56.ok Tryd.prog w0 := by
  intro args bs p rs out e hp
  simp only [con56] at e
  split at e <;> first | (simp at e; done) | skip
  split at e <;> first | (simp at e; done) | skip
  rename_i v _ n hn
  simp only [Option.some.injEq, Prod.mk.injEq] at e
  obtain ⟨rfl, rfl, rfl⟩ := e
  rw [intV_eq hn]
  refine ext_callW hz hg (fun m S args' hl => hl.plain 5 fun x hx => ?_) fun W hW _ _ => ?_
  · simp only [List.mem_cons, List.not_mem_nil, or_false] at hx
    rcases hx with rfl; rfl
  · refine (Any.strconv_Itoa lays171 n hp.1 hp.2 W hW.pow).mono ?_
    rintro e W' ⟨rfl, k, os, rfl⟩
    refine ⟨_, rfl, fun m S => .str _, rfl, rfl, rfl, by simp [Go.Sort.grow, World.drewN], fun B hB => ?_⟩
    simp only [Go.Sort.grow, World.drewN]
    exact Array.getElem?_append_left hB
/-- strconv.Atoi, where it is a number, and where it is none. -/
noncomputable def con138 (v : Int) : Con := { f := 50, gh := [], paths := [], spec := fun args bs => match args, bs with
  | [.string a], [] => some (a.size ≤ 1000000 ∧ Lib.atoiAll a.data.toList = .ok v, [I v, .nilIface], [])
  | _, _ => none }
theorem con138_ok (hz : Lz w0) (hg : 9 ≤ w0.heap.size) (v : Int) : (con138 v).ok Tryd.prog w0 := by
  intro args bs p rs out e hp
  simp only [con138] at e
  split at e <;> first | (simp at e; done) | skip
  rename_i a
  simp only [Option.some.injEq, Prod.mk.injEq] at e
  obtain ⟨rfl, rfl, rfl⟩ := e
  refine ext_callW hz hg (fun m S args' hl => hl.plain 5 fun x hx => ?_) fun W hW _ _ => ?_
  · simp only [List.mem_cons, List.not_mem_nil, or_false] at hx
    rcases hx with rfl; rfl
  · refine (Any.strconv_Atoi_ok lays172 a (by omega) v hp.2 W).mono ?_
    rintro e W' ⟨rfl, hW⟩
    exact ⟨_, rfl, fun m S => ⟨_, rfl, .cons (.int _ _) (.cons .inil .nil)⟩, bel_bytes hW⟩
def noN (l : List UInt8) : Int := match Lib.atoiAll l with
  | .range => Lib.atoiSat l
  | _ => 0
noncomputable def con138e : Con := { f := 50, gh := [], paths := [], spec := fun args bs => match args, bs with
  | [.string a], [] => some (a.size ≤ 1000000 ∧ ∀ v, Lib.atoiAll a.data.toList ≠ .ok v, [I (noN a.data.toList), .iface 114 (.chan none)], [])
  | _, _ => none }
theorem con138e_ok (hz : Lz w0) (hg : 9 ≤ w0.heap.size) : con138e.ok Tryd.prog w0 := by
  intro args bs p rs out e hp
  simp only [con138e] at e
  split at e <;> first | (simp at e; done) | skip
  rename_i a
  simp only [Option.some.injEq, Prod.mk.injEq] at e
  obtain ⟨rfl, rfl, rfl⟩ := e
  refine ext_callW hz hg (fun m S args' hl => hl.plain 5 fun x hx => ?_) fun W hW _ _ => ?_
  · simp only [List.mem_cons, List.not_mem_nil, or_false] at hx
    rcases hx with rfl; rfl
  · obtain ⟨hs, hn⟩ := hp
    rcases h : Lib.atoiAll a.data.toList with v | _ | _
    · exact absurd h (hn v)
    · obtain ⟨ev, h1, h2⟩ := hW.syn
      refine (Any.strconv_Atoi_syntax lays172 a (by omega) h ev W h1 h2).mono ?_
      rintro e W' ⟨N, rfl, _, _, hb⟩
      exact ⟨_, rfl, fun m S => ⟨_, rfl, by simp only [noN, h]; exact .cons (.int _ _) (.cons (.iface (.junk rfl)) .nil)⟩, hb⟩
    · obtain ⟨ev, h1, h2⟩ := hW.rng
      refine (Any.strconv_Atoi_range lays172 a (by omega) h ev W h1 h2).mono ?_
      rintro e W' ⟨N, rfl, _, _, hb⟩
      exact ⟨_, rfl, fun m S => ⟨_, rfl, by simp only [noN, h]; exact .cons (.int _ _) (.cons (.iface (.junk rfl)) .nil)⟩, hb⟩
/-- strings.ContainsFunc, with the function of asm.named. -/
def isNm (n : Nat) : Bool := (decide ((n : Int) < 97) || decide ((n : Int) > 122)) && (decide ((n : Int) < 48) || decide ((n : Int) > 57))
theorem f100_gives (W : World) (x : Nat) (hx : x ≤ 1114111) : Calls Tryd.prog 34 #[.int .i32 (x : Int)] W fun e w' => e = .returned (.bool (isNm x)) ∧ ∃ q, w' = W.drewN q := by
  go_enter Tryd.func34, Tryd.ntmps34
  go_wp2
  all_goals go_ret
  all_goals refine ⟨?_, 0, rfl⟩
  all_goals (unfold isNm; simp [*] <;> omega)
def hasBad (s : ByteArray) : Bool := decide (0 ≤ Lib.idxFunc isNm true s)
noncomputable def con99 : Con := { f := 33, gh := [], paths := [], spec := fun args bs => match args, bs with
  | [.string a, .func (.func g) ⟨x⟩ ⟨y⟩], [] => some (g = 34 ∧ x = [] ∧ y = [], [B (hasBad a)], [])
  | _, _ => none }
theorem con99_ok (hz : Lz w0) (hg : 9 ≤ w0.heap.size) : con99.ok Tryd.prog w0 := by
  intro args bs p rs out e hp
  simp only [con99] at e
  split at e <;> first | (simp at e; done) | skip
  rename_i a g x y
  simp only [Option.some.injEq, Prod.mk.injEq] at e
  obtain ⟨rfl, rfl, rfl⟩ := e
  obtain ⟨rfl, rfl, rfl⟩ := hp
  refine ext_callW hz hg (fun m S args' hl => ?_) fun W hW _ _ => ?_
  · cases hl with
    | cons h1 h2 =>
      cases h1
      cases h2 with
      | cons h3 h4 =>
        cases h4
        cases h3 with
        | func k1 k2 =>
          rename_i us vs
          obtain ⟨us⟩ := us
          obtain ⟨vs⟩ := vs
          cases k1
          cases k2
          rfl
  · refine (Any.strings_ContainsFunc_runes lays17 34 #[] (fun args w => callFunc_run (by kernel_rfl)) isNm a W fun W' x hx _ => f100_gives W' x hx).mono ?_
    rintro e W' ⟨rfl, hb⟩
    exact ⟨_, rfl, fun m S => .bool _, hb⟩
theorem below_push (W : World) (o : Obj) : Below W.heap.size W (W.alloc o) := by
  change Below W.heap.size W { W with heap := W.heap.push o }
  exact ⟨rfl, rfl, rfl, by simp, fun B hB => by simp [Array.getElem?_push, Nat.ne_of_lt hB]⟩
theorem heap_push (W : World) (o : Obj) : (W.alloc o).heap[W.heap.size]? = some o := by
  change ({ W with heap := W.heap.push o } : World).heap[W.heap.size]? = some o
  simp
/-- strings.Split, by what its words are. -/
def wordsOf (s p : ByteArray) : List ByteArray := Lib.splitB p 0 (Lib.countB s p) s
noncomputable def con101 (ws : List ByteArray) : Con := { f := 35, gh := [], paths := [], spec := fun args bs => match args, bs with
  | [.string a, .string b], [] => some (a.size ≤ 1000000 ∧ 1 ≤ b.size ∧ wordsOf a b = ws, [SL G ws.length 1], [(true, some (.cells (ws.map Value.string) true))])
  | _, _ => none }
theorem con101_ok (hz : Lz w0) (hg : 9 ≤ w0.heap.size) (ws : List ByteArray) : (con101 ws).ok Tryd.prog w0 := by
  intro args bs p rs out e hp
  simp only [con101] at e
  split at e <;> first | (simp at e; done) | skip
  rename_i a b
  simp only [Option.some.injEq, Prod.mk.injEq] at e
  obtain ⟨rfl, rfl, rfl⟩ := e
  obtain ⟨hs, h1, hw⟩ := hp
  change CallS Tryd.prog w0 35 [.string a, .string b] (heapB Tryd.prog.globals.size []) fun rs' h' => rs' = [SL G ws.length 1] ∧ h' = heapB Tryd.prog.globals.size [some (.cells (ws.map Value.string) true)]
  intro m E W args' hr hl _
  rw [hl.plain 5 (fun x hx => by
    simp only [List.mem_cons, List.not_mem_nil, or_false] at hx
    rcases hx with rfl | rfl <;> rfl)]
  obtain ⟨mx, hm⟩ := (hz.of hg hr.base).max
  have hlen : ws.length = Lib.countB a b + 1 := by rw [← hw]; exact Lib.splitB_all b h1 0 _ a rfl
  refine (Any.strings_Split lays146 (by kernel_rfl) a b mx W (by omega) hm h1).mono ?_
  rintro e W' ⟨rfl, rfl⟩
  rw [show Lib.splitB b 0 (Lib.countB a b) a = ws from hw]
  have hb : Below W.heap.size W (W.alloc (.cells (ws.map Value.string).toArray (ren146.t 9))) := below_push W _
  have he := ext_of hb
  have hB : (W.alloc (.cells (ws.map Value.string).toArray (ren146.t 9))).heap[W.heap.size]? = some (.cells (ws.map Value.string).toArray (ren146.t 9) (0, 0)) := heap_push W _
  have hn := hr.newAt he (Nat.le_refl _) (cs := ws.map Value.string) hB (by
    simp only [List.length_map, List.take_of_length_le, Nat.le_refl]
    exact VL.of_plain 5 fun x hx => by obtain ⟨y, _, rfl⟩ := List.mem_map.1 hx; rfl) (by simp) (fun x hx => by obtain ⟨y, _, rfl⟩ := List.mem_map.1 hx; rfl)
  have hle : MLe m (mnew m (heapB Tryd.prog.globals.size []).next W.heap.size) := mnew_le hr.fresh
  refine ⟨_, _, _, _, ⟨rfl, rfl⟩, rfl, hle, hn, he.keep hr.ext, ?_⟩
  have hsz : szB (W.alloc (.cells (ws.map Value.string).toArray (ren146.t 9))) W.heap.size = ws.length := by unfold szB; rw [hB]; simp
  have := V.slice (m := mnew m (heapB Tryd.prog.globals.size []).next W.heap.size) (S := szB (W.alloc (.cells (ws.map Value.string).toArray (ren146.t 9)))) (b := G) (off := 0) (n := ws.length) (sz := 1) (B := W.heap.size) (base := 0) (c := ws.length) (by simp [mnew, heapB_next]) (Nat.le_refl _) (by omega) (by omega)
  rw [← hlen]
  exact this
end Go.Proofs.YtkjdfkodclednaaDoor
